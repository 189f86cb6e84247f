/- SearchWords: the plain law of the words. -/
import Derived.Test.YtfngcabckfmhnaaM3
import Derived.Test.YtfngcabckfmhnaaC1
import Derived.Test.YtfngcabckfmhnaaH2
namespace Go.Proofs.Ytfngcabckfmhnaa.B
open Go.RowKit Go.Proofs.YtfngcabckfmhnaaW.PrintWords Go.Proofs.YtfngcabckfmhnaaW.PrintLast Go.Proofs.YtfngcabckfmhnaaW.PrintMore Go.Proofs.Ytfngcabckfmhnaa.PA
set_option linter.unusedVariables false
set_option linter.unusedSimpArgs false

/-- What the state says of the bytes behind it. -/
structure SInv (l : List UInt8) (k : Nat) : Prop where
  none : (stp l k).1 < 0 → k = 0 ∨ ltr (l.getD (k - 1) 0) = false
  some : ∀ f : Nat, (stp l k).1 = (f : Int) → f < k ∧ (∀ j, f ≤ j → j < k → ltr (l.getD j 0) = true) ∧ (f = 0 ∨ ltr (l.getD (f - 1) 0) = false)
theorem sinv (l : List UInt8) : ∀ k, SInv l k := by
  intro k
  induction k with
  | zero => exact ⟨fun _ => .inl rfl, fun f h => by rw [stp] at h; simp at h⟩
  | succ k ih =>
    cases h : ltr (l.getD k 0) with
    | true =>
      by_cases hf : (stp l k).1 < 0
      · refine ⟨fun h2 => ?_, fun f h2 => ?_⟩
        · rw [stp_start h hf] at h2; simp at h2; omega
        · rw [stp_start h hf] at h2
          have e : (k : Int) = (f : Int) := h2
          obtain rfl : k = f := by omega
          refine ⟨by omega, fun j h3 h4 => ?_, ih.none hf⟩
          rw [show j = k by omega]
          exact h
      · refine ⟨fun h2 => ?_, fun f h2 => ?_⟩
        · rw [stp_on h hf] at h2; omega
        · rw [stp_on h hf] at h2
          obtain ⟨h3, h4, h5⟩ := ih.some f h2
          exact ⟨by omega, fun j h6 h7 => by
            by_cases e : j = k
            · subst e; exact h
            · exact h4 j h6 (by omega), h5⟩
    | false =>
      have := stp_none h
      exact ⟨fun _ => .inr h, fun f h2 => by omega⟩
def occ (l x : List UInt8) (i : Nat) : Bool := (l.drop i).take x.length == x && (i == 0 || !ltr (l.getD (i - 1) 0)) && !ltr (l.getD (i + x.length) 0)
theorem sub_get {l x : List UInt8} {i j : Nat} (h : (l.drop i).take x.length = x) (hj : j < x.length) : l.getD (i + j) 0 = x.getD j 0 := by
  rw [List.getD_eq_getElem?_getD, List.getD_eq_getElem?_getD]
  conv => rhs; rw [← h]
  rw [List.getElem?_take_of_lt hj, List.getElem?_drop]
theorem occ_end {l x : List UInt8} {k : Nat} (hx : 1 ≤ x.length) (hl : ∀ j, j < x.length → ltr (x.getD j 0) = true) (hk : x.length ≤ k) (hn : ltr (l.getD k 0) = false) :
    occ l x (k - x.length) = decide (0 ≤ (stp l k).1 ∧ (l.drop (stp l k).1.toNat).take (k - (stp l k).1.toNat) = x) := by
  have hi := sinv l k
  have hb := stp_bounds l k
  by_cases hf : (stp l k).1 < 0
  · rw [decide_eq_false (by omega)]
    unfold occ
    rw [Bool.and_eq_false_iff, Bool.and_eq_false_iff]
    refine .inl (.inl (beq_eq_false_iff_ne.mpr fun e => ?_))
    rcases hi.none hf with h0 | h0
    · omega
    · have h1 := sub_get (i := k - x.length) (j := x.length - 1) e (by omega)
      rw [show k - x.length + (x.length - 1) = k - 1 by omega] at h1
      rw [h1, hl _ (by omega)] at h0
      cases h0
  · obtain ⟨f, hfe⟩ : ∃ f : Nat, (stp l k).1 = (f : Int) := ⟨(stp l k).1.toNat, by omega⟩
    obtain ⟨h1, h2, h3⟩ := hi.some f hfe
    rw [hfe, Int.toNat_natCast]
    by_cases e : (l.drop f).take (k - f) = x
    · rw [decide_eq_true ⟨by omega, e⟩]
      have hlen := congrArg List.length e
      rw [List.length_take, List.length_drop] at hlen
      have hxl : x.length = k - f := by
        by_cases h4 : l.length < k
        · have := h2 (k - 1) (by omega) (by omega)
          rw [List.getD_eq_getElem?_getD, List.getElem?_eq_none (by omega)] at this
          cases this
        · omega
      unfold occ
      rw [show k - x.length = f by omega, hxl, e, show f + (k - f) = k by omega, hn]
      rcases h3 with h3 | h3
      · simp [h3]
      · simp only [h3]; simp
    · rw [decide_eq_false (by intro h; exact e h.2)]
      unfold occ
      rw [Bool.and_eq_false_iff, Bool.and_eq_false_iff]
      by_cases e2 : (l.drop (k - x.length)).take x.length = x
      · left; right
        have h4 : k - x.length ≠ f := fun h => e (by rw [← h]; rw [show k - (k - x.length) = x.length by omega]; exact e2)
        have h5 : ¬ k - x.length < f := fun h => by
          have h6 := sub_get (i := k - x.length) (j := f - 1 - (k - x.length)) e2 (by omega)
          rw [show k - x.length + (f - 1 - (k - x.length)) = f - 1 by omega, ] at h6
          rcases h3 with h3 | h3
          · omega
          · rw [h6, hl _ (by omega)] at h3; cases h3
        have h7 := h2 (k - x.length - 1) (by omega) (by omega)
        rw [h7]
        simp
        omega
      · exact .inl (.inl (beq_eq_false_iff_ne.mpr e2))
theorem count_occ {l x : List UInt8} (hx : 1 ≤ x.length) (hl : ∀ j, j < x.length → ltr (x.getD j 0) = true) : ∀ k, k ≤ l.length + 1 → (stp l k).2.count x = (List.range (k - x.length)).countP (occ l x) := by
  intro k
  induction k with
  | zero => intro _; simp [stp]
  | succ k ih =>
    intro hk
    have ih := ih (by omega)
    have hb := stp_bounds l k
    have hcount : (stp l (k + 1)).2.count x = (stp l k).2.count x + (if x.length ≤ k ∧ occ l x (k - x.length) = true then 1 else 0) := by
      cases h : ltr (l.getD k 0) with
      | true =>
        have : ¬ (x.length ≤ k ∧ occ l x (k - x.length) = true) := fun ⟨h1, h2⟩ => by
          unfold occ at h2
          rw [show k - x.length + x.length = k by omega, h] at h2
          simp at h2
        rw [if_neg this]
        by_cases hf : (stp l k).1 < 0
        · rw [stp_start h hf]; rfl
        · rw [stp_on h hf]; rfl
      | false =>
        by_cases hxk : x.length ≤ k
        · rw [occ_end hx hl hxk h]
          by_cases hf : (stp l k).1 < 0
          · rw [stp_no h hf, if_neg (by simp; omega)]; rfl
          · rw [stp_end h hf, List.count_append]
            congr 1
            by_cases e : (l.drop (stp l k).1.toNat).take (k - (stp l k).1.toNat) = x
            · rw [if_pos ⟨hxk, decide_eq_true ⟨by omega, e⟩⟩, e]
              simp
            · rw [if_neg (by rintro ⟨_, h2⟩; exact e (of_decide_eq_true h2).2)]
              simp [e]
        · rw [if_neg (by intro h2; exact hxk h2.1)]
          by_cases hf : (stp l k).1 < 0
          · rw [stp_no h hf]; rfl
          · rw [stp_end h hf, List.count_append]
            have : (l.drop (stp l k).1.toNat).take (k - (stp l k).1.toNat) ≠ x := fun e => by
              have := congrArg List.length e
              rw [List.length_take] at this
              omega
            simp [this]
    rw [hcount, ih]
    by_cases hxk : x.length ≤ k
    · rw [show k + 1 - x.length = k - x.length + 1 by omega, List.range_succ, List.countP_append, List.countP_singleton]
      congr 1
      by_cases h : occ l x (k - x.length) = true
      · rw [if_pos ⟨hxk, h⟩, if_pos h]
      · rw [if_neg (fun h2 => h h2.2), if_neg h]
    · rw [if_neg (by intro h; exact hxk h.1), show k + 1 - x.length = 0 by omega, show k - x.length = 0 by omega]
      rfl
/-- Each ended run is letters, one at least. -/
theorem stp_letters (l : List UInt8) : ∀ k, k ≤ l.length → ∀ x ∈ (stp l k).2, 1 ≤ x.length ∧ ∀ b ∈ x, ltr b = true := by
  intro k
  induction k with
  | zero => intro _ x hx; cases hx
  | succ k ih =>
    intro hk x hx
    have ih := ih (by omega)
    cases h : ltr (l.getD k 0) with
    | true =>
      by_cases hf : (stp l k).1 < 0
      · rw [stp_start h hf] at hx; exact ih x hx
      · rw [stp_on h hf] at hx; exact ih x hx
    | false =>
      by_cases hf : (stp l k).1 < 0
      · rw [stp_no h hf] at hx; exact ih x hx
      · rw [stp_end h hf] at hx
        rcases List.mem_append.1 hx with hx | hx
        · exact ih x hx
        · rw [List.mem_singleton] at hx
          have hb := stp_bounds l k
          obtain ⟨f, hfe⟩ : ∃ f : Nat, (stp l k).1 = (f : Int) := ⟨(stp l k).1.toNat, by omega⟩
          obtain ⟨h1, h2, h3⟩ := (sinv l k).some f hfe
          rw [hfe, Int.toNat_natCast] at hx
          refine ⟨by rw [hx, List.length_take, List.length_drop]; omega, fun b hb => ?_⟩
          rw [hx] at hb
          obtain ⟨j, hj⟩ := List.mem_iff_getElem?.1 hb
          have hjl : j < k - f := by
            have := (List.getElem?_eq_some_iff.1 hj).1
            rw [List.length_take] at this
            omega
          rw [List.getElem?_take_of_lt hjl, List.getElem?_drop] at hj
          have := h2 (f + j) (by omega) (by omega)
          rw [List.getD_eq_getElem?_getD, hj] at this
          exact this
def nlt (l : List UInt8) : Nat := l.countP ltr
theorem stp_sum (l : List UInt8) : ∀ k, k ≤ l.length → ((stp l k).2.map List.length).sum + (if (stp l k).1 < 0 then 0 else k - (stp l k).1.toNat) = nlt (l.take k) := by
  intro k
  induction k with
  | zero => intro _; simp [stp, nlt]
  | succ k ih =>
    intro hk
    have ih := ih (by omega)
    have ht : nlt (l.take (k + 1)) = nlt (l.take k) + (if ltr (l.getD k 0) = true then 1 else 0) := by
      unfold nlt
      rw [List.take_add_one, List.countP_append, List.getElem?_eq_getElem (by omega), List.getD_eq_getElem?_getD, List.getElem?_eq_getElem (by omega)]
      simp [List.countP_singleton]
    rw [ht, ← ih]
    have hb := stp_bounds l k
    cases h : ltr (l.getD k 0) with
    | true =>
      rw [if_pos rfl]
      by_cases hf : (stp l k).1 < 0
      · simp only [stp_start h hf, if_pos hf]
        rw [if_neg (show ¬ (k : Int) < 0 by omega), Int.toNat_natCast]
        omega
      · simp only [stp_on h hf, if_neg hf]
        omega
    | false =>
      by_cases hf : (stp l k).1 < 0
      · simp only [stp_no h hf, if_pos hf]
        simp
      · rw [stp_end h hf, if_neg hf, if_pos (by show (-1 : Int) < 0; omega), List.map_append, List.sum_append]
        have : (List.drop (stp l k).1.toNat l).length = l.length - (stp l k).1.toNat := List.length_drop ..
        simp
        omega
theorem stp_mono (l : List UInt8) (x : List UInt8) (k : Nat) (h : x ∈ (stp l k).2) : ∀ d, x ∈ (stp l (k + d)).2 := by
  intro d
  induction d with
  | zero => exact h
  | succ d ih =>
    rw [show k + (d + 1) = k + d + 1 by omega, stp]
    split
    · split
      · exact ih
      · exact ih
    · split
      · exact ih
      · exact List.mem_append_left _ ih
theorem zq_in (l : List UInt8) : [90, 113] ∈ runsOf (90 :: 113 :: 32 :: l) := by
  unfold runsOf
  have h3 : [90, 113] ∈ (stp ((90 :: 113 :: 32 :: l) ++ [32]) 3).2 := by
    have e0 : ltr (((90 :: 113 :: 32 :: l) ++ [32]).getD 0 0) = true := by rfl
    have e1 : ltr (((90 :: 113 :: 32 :: l) ++ [32]).getD 1 0) = true := by rfl
    have e2 : ltr (((90 :: 113 :: 32 :: l) ++ [32]).getD 2 0) = false := by rfl
    have s1 : stp ((90 :: 113 :: 32 :: l) ++ [32]) 1 = (0, []) := stp_start e0 (by rw [stp]; show (-1 : Int) < 0; omega)
    have s2 : stp ((90 :: 113 :: 32 :: l) ++ [32]) 2 = (0, []) := by rw [stp_on e1 (by rw [s1]; simp), s1]
    rw [stp_end e2 (by rw [s2]; simp), s2]
    simp
  have := stp_mono _ _ 3 h3 (l.length + 1)
  rw [show 3 + (l.length + 1) = (90 :: 113 :: 32 :: l).length + 1 by show 3 + (l.length + 1) = l.length + 3 + 1; omega] at this
  exact this
theorem sum_zero (ds : List (List UInt8)) : (ds.map fun _ => 0).sum = 0 := by
  induction ds with
  | nil => rfl
  | cons d ds ih => rw [List.map_cons, List.sum_cons, ih]
theorem sum_words {f : List UInt8 → Nat} {ds : List (List UInt8)} (hd : ds.Nodup) : ∀ rs : List (List UInt8), (∀ r ∈ rs, r ∈ ds) → (ds.map fun d => rs.count d * f d).sum = (rs.map f).sum := by
  intro rs
  induction rs with
  | nil => intro _; simp [sum_zero]
  | cons r rs ih =>
    intro h
    have ih := ih fun x hx => h x (List.mem_cons_of_mem _ hx)
    have key : ∀ ds : List (List UInt8), ds.Nodup → (ds.map fun d => (r :: rs).count d * f d).sum = (ds.map fun d => rs.count d * f d).sum + (if r ∈ ds then f r else 0) := by
      intro ds hd
      induction ds with
      | nil => simp
      | cons d ds ihd =>
        obtain ⟨h1, h2⟩ := List.nodup_cons.1 hd
        rw [List.map_cons, List.map_cons, List.sum_cons, List.sum_cons, ihd h2]
        by_cases e : r = d
        · subst e
          rw [if_neg h1, if_pos (List.mem_cons_self ..), List.count_cons_self, Nat.add_mul]
          omega
        · rw [List.count_cons_of_ne e]
          by_cases h3 : r ∈ ds
          · rw [if_pos h3, if_pos (List.mem_cons_of_mem _ h3)]; omega
          · rw [if_neg h3, if_neg (by rw [List.mem_cons]; rintro (h | h); exact e h; exact h3 h)]; omega
    rw [key ds hd, if_pos (h r (List.mem_cons_self ..)), ih, List.map_cons, List.sum_cons]
    omega
end Go.Proofs.Ytfngcabckfmhnaa.B
