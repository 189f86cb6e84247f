/- What the printed functions elems, Text, at and right compute (plain Lean). -/
import Derived.Test.YtfngcabckfmhnaaB6
namespace Go.Proofs.Ytfngcabckfmhnaa.B
open Go.RowKit Go.Proofs.YtfngcabckfmhnaaW.PrintWords Go.Proofs.YtfngcabckfmhnaaW.PrintLast Go.Proofs.YtfngcabckfmhnaaW.PrintMore Go.Proofs.Ytfngcabckfmhnaa.PA

theorem w64 {x : Int} (h1 : -9223372036854775808 ≤ x) (h2 : x ≤ 9223372036854775807) : wrap64 x = x := by unfold wrap64; omega

/-- The i-th element that elems makes. -/
def ew (s : ByteArray) (i : Nat) : S76 := ⟨bt s i, 1 + (((i / 64) % 64 : Nat) : Int), 1 + ((i % 64 : Nat) : Int)⟩
def elemsL (s : ByteArray) (n : Nat) : List S76 := (List.range n).map (ew s)
theorem elemsL_length (s : ByteArray) (n : Nat) : (elemsL s n).length = n := by simp [elemsL]
theorem elemsL_succ (s : ByteArray) (n : Nat) : elemsL s (n + 1) = elemsL s n ++ [ew s n] := by simp [elemsL, List.range_succ]
theorem elemsL_f0 (s : ByteArray) (n : Nat) (h : n ≤ s.size) : (elemsL s n).map (·.f0) = (bytesOf s).take n := by
  apply List.ext_getElem?
  intro j
  rw [List.getElem?_take]
  by_cases hj : j < n
  · rw [if_pos hj, bytesOf_get (by omega)]
    simp [elemsL, ew, hj]
  · rw [if_neg hj, List.getElem?_eq_none (by simp [elemsL]; omega)]

theorem elems_loop (s : ByteArray) (max : Nat) (hm : max ≤ 5864062014000) (d : Nat) : ∀ (k i : Nat), i + d = min s.size max → d < k → jotterlaw24_elems.l0 k s max (elemsL s i) i = some (elemsL s (min s.size max)) := by
  induction d with
  | zero =>
    intro k i hi hk
    obtain ⟨k, rfl⟩ : ∃ m, k = m + 1 := ⟨k - 1, by omega⟩
    simp only [jotterlaw24_elems.l0]
    obtain rfl : i = min s.size max := by omega
    by_cases h1 : ((min s.size max : Nat) : Int) < (s.size : Int)
    · rw [if_pos h1, if_neg (by omega)]
    · rw [if_neg h1]
  | succ d ih =>
    intro k i hi hk
    obtain ⟨k, rfl⟩ : ∃ m, k = m + 1 := ⟨k - 1, by omega⟩
    simp only [jotterlaw24_elems.l0]
    rw [if_pos (by omega), if_pos (by omega), if_pos (by omega), if_pos (by rw [elemsL_length]; omega), w64 (x := (i : Int) + 1) (by omega) (by omega)]
    have he : (⟨bt s (i : Int), wrap64 (1 + (Int.tmod (wrap64 (Int.tdiv (i : Int) 64)) 64)), wrap64 (1 + (Int.tmod (i : Int) 64))⟩ : S76) = ew s i := by
      unfold ew
      rw [Int.tdiv_eq_ediv_of_nonneg (by omega), w64 (x := (i : Int) / 64) (by omega) (by omega), Int.tmod_eq_emod_of_nonneg (by omega), Int.tmod_eq_emod_of_nonneg (by omega), w64 (by omega) (by omega), w64 (by omega) (by omega)]
      simp
    rw [he, ← elemsL_succ]
    exact ih k (i + 1) (by omega) (by omega)
theorem elems_pure (s : ByteArray) (max : Nat) (hm : max ≤ 5864062014000) : ∃ k, jotterlaw24_elems.f k s max = some (elemsL s (min s.size max)) :=
  ⟨min s.size max + 1, elems_loop s max hm (min s.size max) _ 0 (by omega) (by omega)⟩

theorem text_loop (xs : List S76) (hl : xs.length ≤ 9223372036854775806) (d : Nat) : ∀ (k i : Nat) (ys : List Int), i + d = xs.length → d < k → ys.length = xs.length → ys.take i = (xs.take i).map (·.f0) → doc_Text.l0 k ys xs xs.length i = some (strOfNums (xs.map (·.f0))) := by
  induction d with
  | zero =>
    intro k i ys hi hk hy ht
    obtain ⟨k, rfl⟩ : ∃ m, k = m + 1 := ⟨k - 1, by omega⟩
    simp only [doc_Text.l0]
    rw [if_neg (by omega)]
    rw [List.take_of_length_le (by omega), List.take_of_length_le (by omega)] at ht
    rw [ht]
  | succ d ih =>
    intro k i ys hi hk hy ht
    obtain ⟨k, rfl⟩ : ∃ m, k = m + 1 := ⟨k - 1, by omega⟩
    simp only [doc_Text.l0]
    rw [if_pos (by omega), if_pos (by omega), if_pos (by omega), if_pos (by omega), w64 (x := (i : Int) + 1) (by omega) (by omega), Int.toNat_natCast]
    have hx : rd_T76 xs (i : Int) = xs[i]'(by omega) := by unfold rd_T76; rw [Int.toNat_natCast, List.getD_eq_getElem?_getD, List.getElem?_eq_getElem (by omega)]; rfl
    rw [hx]
    exact ih k (i + 1) _ (by omega) (by omega) (by rw [List.length_set]; exact hy) (set_take (List.getElem?_eq_getElem (by omega)) (List.getElem?_eq_getElem (by omega)) ht)
theorem text_pure (xs : List S76) (hl : xs.length ≤ 281474976710656) : ∃ k, doc_Text.f k xs = some (strOfNums (xs.map (·.f0))) := by
  refine ⟨xs.length + 1, ?_⟩
  unfold doc_Text.f
  rw [if_pos (by omega), if_pos (by rw [Int.toNat_natCast]; exact hl)]
  exact text_loop xs (by omega) xs.length _ 0 _ (by omega) (by omega) (by simp) (by simp)

theorem bytesOf_inj {a b : List UInt8} (h : (a.map fun x : UInt8 => (x.toNat : Int)) = b.map fun x : UInt8 => (x.toNat : Int)) : a = b := by
  refine (List.map_inj_right (f := fun x : UInt8 => (x.toNat : Int)) ?_).1 h
  intro x y hxy
  have : x.toNat = y.toNat := Int.ofNat.inj hxy
  exact UInt8.toNat_inj.1 this

theorem at_pure (s p : ByteArray) (hs : s.size ≤ 5864062014000) (hp : 1 ≤ p.size) (hp2 : p.size ≤ 64) (i : Nat) (hi : i < s.size) : jotterlaw24_at.f s p i = some (mt s p i) := by
  unfold jotterlaw24_at.f
  rw [if_pos (by omega), w64 (x := (s.size : Int) - p.size) (by omega) (by omega)]
  by_cases h : (i : Int) ≤ (s.size : Int) - (p.size : Int)
  · rw [if_pos h, if_pos (by omega), w64 (x := (i : Int) + p.size) (by omega) (by omega), if_pos (by omega), if_pos (by omega)]
    congr 1
    rw [show ((i : Int) + (p.size : Int)).toNat = i + p.size by omega, Int.toNat_natCast, ByteArray.toList_eq, ByteArray.toList_eq]
    unfold mt bytesOf
    rw [Bool.eq_iff_iff, beq_iff_eq, beq_iff_eq, ByteArray.data_extract, Array.toList_extract, ← List.map_drop, ← List.map_take]
    rw [show (s.data.toList.extract i (i + p.size)) = (s.data.toList.drop i).take p.size by rw [List.extract_eq_take_drop, Nat.add_sub_cancel_left]]
    exact ⟨fun h => by rw [h], bytesOf_inj⟩
  · rw [if_neg h]
    congr 1
    symm
    unfold mt
    rw [beq_eq_false_iff_ne]
    intro e
    have := congrArg List.length e
    rw [List.length_take, List.length_drop, bytesOf_length, bytesOf_length] at this
    omega

theorem scan_filter (m : Nat → Bool) (wd n : Nat) : ∀ i nx, nx ≤ i → scan m wd false n i nx = (List.range' i n).filter m := by
  induction n with
  | zero => intro i nx _; rfl
  | succ n ih =>
    intro i nx h
    simp only [scan, List.range'_succ, List.filter_cons]
    rw [if_neg (by omega)]
    by_cases hm : m i = true
    · rw [if_pos hm, if_pos hm, if_neg (by decide), ih _ _ (by omega)]
    · rw [if_neg hm, if_neg hm, ih _ _ (by omega)]

/-- All places of p in s. -/
def places (s p : ByteArray) : List Nat := (List.range' 0 s.size).filter (mt s p)
theorem mt_past {s p : ByteArray} {i : Nat} (hp : 1 ≤ p.size) (h : s.size < i + p.size) : mt s p i = false := by
  unfold mt
  rw [beq_eq_false_iff_ne]
  intro e
  have := congrArg List.length e
  rw [List.length_take, List.length_drop, bytesOf_length, bytesOf_length] at this
  omega
theorem plc_from (s p : ByteArray) (hp : 1 ≤ p.size) (q : Nat) : plc s p q false = (places s p).filter (fun i => decide (q ≤ i)) := by
  unfold plc places
  rw [scan_filter _ _ _ _ _ (Nat.le_refl _), List.filter_filter]
  obtain ⟨M, hM⟩ : ∃ M, s.size + 1 - p.size = M := ⟨_, rfl⟩
  rw [hM]
  have hpast : ∀ i, M ≤ i → mt s p i = false := fun i hi => mt_past hp (by omega)
  have hmem : ∀ (a n i : Nat), i ∈ List.range' a n → a ≤ i ∧ i < a + n := fun a n i hi => by
    rw [List.mem_range'_1] at hi; exact hi
  by_cases hq : q ≤ M
  · have e : List.range' 0 s.size = List.range' 0 q ++ (List.range' q (M - q) ++ List.range' M (s.size - M)) := by
      by_cases hz : M ≤ s.size
      · rw [show List.range' M (s.size - M) = List.range' (q + 1 * (M - q)) (s.size - M) by congr 1; omega, List.range'_append, show List.range' q (M - q + (s.size - M)) = List.range' (0 + 1 * q) (M - q + (s.size - M)) by congr 1; omega, List.range'_append]
        congr 1
        omega
      · omega
    rw [e, List.filter_append, List.filter_append]
    have e1 : (List.range' 0 q).filter (fun a => decide (q ≤ a) && mt s p a) = [] := List.filter_eq_nil_iff.2 (fun i hi => by have := hmem _ _ _ hi; simp; omega)
    have e2 : (List.range' M (s.size - M)).filter (fun a => decide (q ≤ a) && mt s p a) = [] := List.filter_eq_nil_iff.2 (fun i hi => by have := hmem _ _ _ hi; rw [hpast i (by omega)]; simp)
    rw [e1, e2]
    rw [List.nil_append, List.append_nil]
    refine (List.filter_congr fun i hi => ?_)
    have := hmem _ _ _ hi
    simp
    omega
  · rw [show M - q = 0 by omega]
    symm
    rw [List.range'_zero, List.filter_nil, List.filter_eq_nil_iff]
    intro i hi
    by_cases hqi : q ≤ i
    · rw [hpast i (by omega)]; simp
    · simp; omega
theorem plc_all (s p : ByteArray) (hp : 1 ≤ p.size) : plc s p 0 false = places s p := by
  rw [plc_from s p hp 0]
  simp

theorem right_loop (s p : ByteArray) (L : List Int) (hs : s.size ≤ 5864062014000) (hp : 1 ≤ p.size) (hp2 : p.size ≤ 64) (d : Nat) : ∀ (k i kk : Nat), i + d = s.size → d < k → kk ≤ i → L.drop kk = (((List.range' i d).filter (mt s p)).map fun (j : Nat) => (j : Int)) → kk ≤ L.length → jotterlaw24_right.l0 k s p L kk i = some true := by
  induction d with
  | zero =>
    intro k i kk hi hk _ hL hkl
    obtain ⟨k, rfl⟩ : ∃ m, k = m + 1 := ⟨k - 1, by omega⟩
    simp only [jotterlaw24_right.l0]
    rw [if_neg (by omega)]
    have := congrArg List.length hL
    rw [List.length_drop] at this
    simp at this
    simp
    omega
  | succ d ih =>
    intro k i kk hi hk hkk hL hkl
    obtain ⟨k, rfl⟩ : ∃ m, k = m + 1 := ⟨k - 1, by omega⟩
    simp only [jotterlaw24_right.l0]
    rw [if_pos (by omega), at_pure s p hs hp hp2 i (by omega)]
    simp only [Option.bind_some]
    rw [w64 (x := (i : Int) + 1) (by omega) (by omega)]
    rw [List.range'_succ, List.filter_cons] at hL
    by_cases hm : mt s p i = true
    · rw [if_pos hm]
      rw [if_pos hm, List.map_cons] at hL
      have hlt : kk < L.length := by
        have := congrArg List.length hL
        rw [List.length_drop] at this
        simp at this
        omega
      have h0 : L[kk]? = some (i : Int) := by
        have := congrArg (fun l => l[0]?) hL
        simpa using this
      rw [if_neg (by omega), if_pos (by omega), if_pos (by omega)]
      rw [if_pos (by unfold rd; rw [List.getD_eq_getElem?_getD, Int.toNat_natCast, h0]; rfl), w64 (x := (kk : Int) + 1) (by omega) (by omega)]
      refine ih k (i + 1) (kk + 1) (by omega) (by omega) (by omega) ?_ (by omega)
      rw [← List.tail_drop, hL]
      rfl
    · rw [if_neg hm]
      rw [if_neg hm] at hL
      exact ih k (i + 1) kk (by omega) (by omega) (by omega) hL hkl
theorem right_pure (s p : ByteArray) (hs : s.size ≤ 5864062014000) (hp : 1 ≤ p.size) (hp2 : p.size ≤ 64) : ∃ k, jotterlaw24_right.f k s p ((places s p).map fun (j : Nat) => (j : Int)) = some true :=
  ⟨s.size + 1, right_loop s p _ hs hp hp2 s.size _ 0 0 (by omega) (by omega) (by omega) rfl (by omega)⟩
end Go.Proofs.Ytfngcabckfmhnaa.B
