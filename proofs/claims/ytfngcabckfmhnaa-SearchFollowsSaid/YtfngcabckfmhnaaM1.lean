/- Words: the words of a text, byte by byte. -/
import Derived.Test.YtfngcabckfmhnaaB6
import Derived.Maps.OwnSet
import Derived.Maps.OwnOps
import Derived.Maps.RangeWalk
import Derived.Sort.KeysCollected
import Derived.Sort.OwnSorted
import Derived.Lib.OthersKept
namespace Go.Proofs.Ytfngcabckfmhnaa.B
open Go.RowKit Go.Proofs.YtfngcabckfmhnaaW.PrintWords Go.Proofs.YtfngcabckfmhnaaW.PrintLast Go.Proofs.YtfngcabckfmhnaaW.PrintMore Go.Proofs.Ytfngcabckfmhnaa.PA
set_option linter.unusedVariables false
set_option linter.unusedSimpArgs false

/-- a to z, A to Z. -/
def ltr (b : UInt8) : Bool := decide ((97 ≤ b.toNat ∧ b.toNat ≤ 122) ∨ (65 ≤ b.toNat ∧ b.toNat ≤ 90))
def ltrI (r : Int) : Bool := decide ((97 ≤ r ∧ r ≤ 122) ∨ (65 ≤ r ∧ r ≤ 90))
/-- Behind k bytes: where the run at hand began (-1: none), and the runs that have ended. -/
def stp (l : List UInt8) : Nat → Int × List (List UInt8)
  | 0 => (-1, [])
  | k + 1 => if ltr (l.getD k 0) then (if (stp l k).1 < 0 then ((k : Int), (stp l k).2) else stp l k)
    else if (stp l k).1 < 0 then stp l k else (-1, (stp l k).2 ++ [(l.drop (stp l k).1.toNat).take (k - (stp l k).1.toNat)])
theorem stp_start {l : List UInt8} {k : Nat} (h : ltr (l.getD k 0) = true) (hf : (stp l k).1 < 0) : stp l (k + 1) = ((k : Int), (stp l k).2) := by
  rw [stp, if_pos h, if_pos hf]
theorem stp_on {l : List UInt8} {k : Nat} (h : ltr (l.getD k 0) = true) (hf : ¬ (stp l k).1 < 0) : stp l (k + 1) = stp l k := by
  rw [stp, if_pos h, if_neg hf]
theorem stp_no {l : List UInt8} {k : Nat} (h : ltr (l.getD k 0) = false) (hf : (stp l k).1 < 0) : stp l (k + 1) = stp l k := by
  rw [stp, if_neg (by rw [h]; decide), if_pos hf]
theorem stp_end {l : List UInt8} {k : Nat} (h : ltr (l.getD k 0) = false) (hf : ¬ (stp l k).1 < 0) : stp l (k + 1) = (-1, (stp l k).2 ++ [(l.drop (stp l k).1.toNat).take (k - (stp l k).1.toNat)]) := by
  rw [stp, if_neg (by rw [h]; decide), if_neg hf]
theorem stp_bounds (l : List UInt8) : ∀ k, -1 ≤ (stp l k).1 ∧ (stp l k).1 < k ∨ (stp l k).1 = -1 := by
  intro k
  induction k with
  | zero => exact .inr rfl
  | succ k ih =>
    rw [stp]
    split
    · split
      · left; show -1 ≤ (k : Int) ∧ (k : Int) < ((k + 1 : Nat) : Int); omega
      · rcases ih with h | h <;> omega
    · split
      · rcases ih with h | h <;> omega
      · exact .inr rfl
theorem stp_none {l : List UInt8} {k : Nat} (h : ltr (l.getD k 0) = false) : (stp l (k + 1)).1 < 0 := by
  by_cases hf : (stp l k).1 < 0
  · rw [stp_no h hf]; exact hf
  · rw [stp_end h hf]; show (-1 : Int) < 0; omega
theorem stp_skip {l : List UInt8} {k : Nat} (h0 : (stp l (k + 1)).1 < 0) : ∀ d, (∀ j, k < j → j < k + 1 + d → ltr (l.getD j 0) = false) → stp l (k + 1 + d) = stp l (k + 1) := by
  intro d
  induction d with
  | zero => intro _; rfl
  | succ d ih =>
    intro h
    have e := ih fun j h1 h2 => h j h1 (by omega)
    rw [show k + 1 + (d + 1) = (k + 1 + d) + 1 by omega, stp_no (h _ (by omega) (by omega)) (by rw [e]; exact h0), e]
theorem getD_get (s : ByteArray) (j : Nat) : s.data.toList.getD j 0 = s.get! j := by
  rw [List.getD_eq_getElem?_getD, Array.getElem?_toList]
  show s.data[j]?.getD 0 = s.data[j]!
  rw [getElem!_def]
  cases s.data[j]? <;> rfl
theorem ltr_high {b : UInt8} (h : 128 ≤ b.toNat) : ltr b = false := decide_eq_false (by omega)
theorem ltrI_high {r : Int} (h : 128 ≤ r) : ltrI r = false := decide_eq_false (by omega)
theorem ltr_ltrI (b : UInt8) : ltrI (b.toNat : Int) = ltr b := by
  unfold ltr ltrI
  by_cases h : (97 ≤ b.toNat ∧ b.toNat ≤ 122) ∨ (65 ≤ b.toNat ∧ b.toNat ≤ 90)
  · rw [decide_eq_true h, decide_eq_true (by omega)]
  · rw [decide_eq_false h, decide_eq_false (by omega)]
theorem dec_all (s : ByteArray) (pos : Nat) (h : pos < s.size) :
    ltrI ((Utf8.decode s pos).1 : Int) = ltr (s.data.toList.getD pos 0) ∧ 1 ≤ (Utf8.decode s pos).2 ∧ pos + (Utf8.decode s pos).2 ≤ s.size ∧ (∀ j, pos < j → j < pos + (Utf8.decode s pos).2 → ltr (s.data.toList.getD j 0) = false) ∧ ((Utf8.decode s pos).2 = 1 ∨ ltr (s.data.toList.getD pos 0) = false) := by
  simp only [getD_get]
  have h0 : s.get! (pos + 0) = s.get! pos := rfl
  by_cases ha : (s.get! pos).toNat < 128
  · have e : Utf8.decode s pos = ((s.get! pos).toNat, 1) := by
      simp only [Utf8.decode, h0, ha, if_true]
    rw [e]
    exact ⟨ltr_ltrI _, by omega, by omega, fun j h1 h2 => by simp at h2; omega, .inl rfl⟩
  · have hl := ltr_high (b := s.get! pos) (by omega)
    have one : ∀ c, 128 ≤ c → ltrI ((c, 1) : Nat × Nat).1 = ltr (s.get! pos) ∧ 1 ≤ ((c, 1) : Nat × Nat).2 ∧ pos + ((c, 1) : Nat × Nat).2 ≤ s.size ∧ (∀ j, pos < j → j < pos + ((c, 1) : Nat × Nat).2 → ltr (s.get! j) = false) ∧ (((c, 1) : Nat × Nat).2 = 1 ∨ ltr (s.get! pos) = false) := fun c hc =>
      ⟨by rw [hl]; exact ltrI_high (by simp; omega), by simp, by simp; omega, fun j h1 h2 => by simp at h2; omega, .inl rfl⟩
    have err : 128 ≤ Utf8.runeError := by decide
    simp only [Utf8.decode, h0, ha, if_false]
    split
    · rename_i h2
      simp only [Bool.and_eq_true, beq_iff_eq, decide_eq_true_eq] at h2
      split
      · rename_i h3
        exact ⟨by rw [hl]; exact ltrI_high (by simp only; omega), by simp, by simp only; omega, fun j h4 h5 => by
          simp only at h5
          obtain rfl : j = pos + 1 := by omega
          exact ltr_high (by omega), .inr hl⟩
      · exact one _ err
    · split
      · rename_i h2
        simp only [Bool.and_eq_true, beq_iff_eq, decide_eq_true_eq] at h2
        split
        · rename_i h3
          simp only [Bool.and_eq_true, decide_eq_true_eq] at h3
          exact ⟨by rw [hl]; exact ltrI_high (by simp only; omega), by simp, by simp only; omega, fun j h4 h5 => by
            simp only at h5
            have : j = pos + 1 ∨ j = pos + 2 := by omega
            rcases this with rfl | rfl <;> exact ltr_high (by omega), .inr hl⟩
        · exact one _ err
      · split
        · rename_i h2
          simp only [Bool.and_eq_true, beq_iff_eq, decide_eq_true_eq] at h2
          split
          · rename_i h3
            simp only [Bool.and_eq_true, decide_eq_true_eq] at h3
            exact ⟨by rw [hl]; exact ltrI_high (by simp only; omega), by simp, by simp only; omega, fun j h4 h5 => by
              simp only at h5
              have : j = pos + 1 ∨ j = pos + 2 ∨ j = pos + 3 := by omega
              rcases this with rfl | rfl | rfl <;> exact ltr_high (by omega), .inr hl⟩
          · exact one _ err
        · exact one _ err
/-- A map that holds how often each word has come. -/
structure Cnt (D : DataW Unit) (ws : List (List UInt8)) : Prop where
  has : ∀ x, Maps.has D (.string x) = decide (x ∈ ws)
  at' : ∀ x, D.atKey (.string x) (.lit (.int .i64 0)) = .lit (.int .i64 (ws.count x : Int))
theorem Cnt.start : Cnt (.map []) [] := ⟨fun x => rfl, fun x => rfl⟩
theorem Cnt.step {D : DataW Unit} {ws : List (List UInt8)} (h : Cnt D ws) (hm : Maps.IsMap D) (x : List UInt8) : Cnt (D.put (.string x) (.lit (.int .i64 ((ws.count x : Int) + 1)))) (ws ++ [x]) := by
  have hk : WideAt.IsKeyLit (.string x) := by constructor
  refine ⟨fun y => ?_, fun y => ?_⟩
  · by_cases e : y = x
    · subst e
      rw [Maps.has_put_same hm hk]
      simp
    · rw [Maps.has_put_other (by simpa using e), h.has y]
      simp [e]
  · by_cases e : y = x
    · subst e
      rw [Maps.atKey_put_same hm hk, List.count_append]
      simp
    · rw [Maps.atKey_put_other (by simpa using e), h.at' y, List.count_append]
      rw [show List.count y [x] = 0 by simp [Ne.symm e]]
      rfl
/-- The words of a text, in their order; how often each stands there. -/
def runsOf (l : List UInt8) : List (List UInt8) := (stp (l ++ [32]) (l.length + 1)).2
theorem words_of {D : DataW Unit} {ws ss ss' : List (List UInt8)} {left : Lit → Bool} (h : Cnt D ws) (hC : Collected D left ss) (hl : ∀ k, left k = false) (hC' : ss'.Nodup) (hm : ∀ x, x ∈ ss' ↔ x ∈ ws) : ss.mergeSort leB = ss'.mergeSort leB := by
  refine mergeSort_of_perm ((List.perm_ext_iff_of_nodup hC.1 hC').2 fun x => ?_)
  rw [hC.2 x, h.has, hl, hm]
  simp
def once : List (List UInt8) → List (List UInt8)
  | [] => []
  | x :: l => if x ∈ once l then once l else x :: once l
theorem once_mem : ∀ (l : List (List UInt8)) x, x ∈ once l ↔ x ∈ l
  | [], x => by simp [once]
  | a :: l, x => by
    have ih := once_mem l
    rw [once]
    split
    · rename_i h
      rw [ih, List.mem_cons]
      constructor
      · exact .inr
      · rintro (rfl | h2)
        · exact (ih _).1 h
        · exact h2
    · rw [List.mem_cons, List.mem_cons, ih]
theorem once_nodup : ∀ l : List (List UInt8), (once l).Nodup
  | [] => List.nodup_nil
  | a :: l => by
    rw [once]
    split
    · exact once_nodup l
    · rename_i h
      exact List.nodup_cons.2 ⟨h, once_nodup l⟩
def wordsOf (l : List UInt8) : List (List UInt8) := (once (runsOf l)).mergeSort leB
def oftenOf (l : List UInt8) : List Int := (wordsOf l).map fun x => ((runsOf l).count x : Int)
theorem ss_words {D : DataW Unit} {l : List UInt8} {ss : List (List UInt8)} {left : Lit → Bool} (h : Cnt D (runsOf l)) (hC : Collected D left ss) (hl : ∀ k, left k = false) : ss.mergeSort leB = wordsOf l :=
  words_of h hC hl (once_nodup _) (once_mem _)
end Go.Proofs.Ytfngcabckfmhnaa.B
