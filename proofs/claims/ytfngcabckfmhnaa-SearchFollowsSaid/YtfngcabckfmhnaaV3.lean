/- SearchWords: what the walk of the law asks of the words. -/
import Derived.Test.YtfngcabckfmhnaaV2
import Derived.Test.YtfngcabckfmhnaaN1
import Derived.Laws.Cover1
import Derived.Sort.Walk0
namespace Go.Proofs.Ytfngcabckfmhnaa.B
open Go.RowKit Go.Proofs.YtfngcabckfmhnaaW.PrintWords Go.Proofs.YtfngcabckfmhnaaW.PrintLast Go.Proofs.YtfngcabckfmhnaaW.PrintMore Go.Proofs.Ytfngcabckfmhnaa.PA
set_option linter.unusedVariables false
set_option linter.unusedSimpArgs false

theorem bs_toList (x : List UInt8) : (bs x).toList = x := by rw [ByteArray.toList_eq]; rfl
theorem words_nodup (l : List UInt8) : (wordsOf l).Nodup := ((List.mergeSort_perm (once (runsOf l)) leB).nodup_iff).2 (once_nodup _)
theorem words_sorted (l : List UInt8) {i : Nat} {y x : List UInt8} (hy : (wordsOf l)[i]? = some y) (hx : (wordsOf l)[i + 1]? = some x) : Op.bytesLess (bs y).toList (bs x).toList = true := by
  rw [bs_toList, bs_toList, Go.Proofs.bytesLess_eq]
  have tr : ∀ a b c : List UInt8, leB a b = true → leB b c = true → leB a c = true := fun a b c h1 h2 => by simp only [leB, decide_eq_true_eq] at *; exact List.le_trans h1 h2
  have tt : ∀ a b : List UInt8, (leB a b || leB b a) = true := fun a b => by simp only [leB, Bool.or_eq_true, decide_eq_true_eq]; exact List.le_total a b
  have hp := List.pairwise_mergeSort tr tt (once (runsOf l))
  have hn := words_nodup l
  obtain ⟨hi, hye⟩ := List.getElem?_eq_some_iff.1 hy
  obtain ⟨hi', hxe⟩ := List.getElem?_eq_some_iff.1 hx
  have h1 := List.pairwise_iff_getElem.1 hp i (i + 1) hi hi' (by omega)
  have h2 := List.pairwise_iff_getElem.1 hn i (i + 1) hi hi' (by omega)
  have h1' : y ≤ x := by
    have : leB (wordsOf l)[i] (wordsOf l)[i + 1] = true := h1
    rw [hye, hxe] at this
    exact of_decide_eq_true this
  have h2' : y ≠ x := by rw [← hye, ← hxe]; exact h2
  refine decide_eq_true ?_
  rcases Classical.em (y < x) with h | h
  · exact h
  · exact absurd (List.le_antisymm h1' h) h2'
theorem word_letters {l : List UInt8} {x : List UInt8} (h : x ∈ wordsOf l) : 1 ≤ x.length ∧ ∀ b ∈ x, ltr b = true :=
  stp_letters (l ++ [32]) (l.length + 1) (by simp) x (wordsOf_mem.1 h)
theorem often_len (l : List UInt8) : (oftenOf l).length = (wordsOf l).length := by unfold oftenOf; rw [List.length_map]
theorem often_at {l : List UInt8} {i : Nat} {x : List UInt8} (h : (wordsOf l)[i]? = some x) : (oftenOf l)[i]? = some ((runsOf l).count x : Int) := by
  unfold oftenOf
  rw [List.getElem?_map, h]
  rfl
theorem count_pos {l : List UInt8} {x : List UInt8} (h : x ∈ wordsOf l) : 1 ≤ (runsOf l).count x := List.count_pos_iff.2 (wordsOf_mem.1 h)
/-- The sum over the first i words. -/
def sm (l : List UInt8) (i : Nat) : Nat := (((wordsOf l).take i).map fun d => (runsOf l).count d * d.length).sum
theorem sm_step {l : List UInt8} {i : Nat} {x : List UInt8} (h : (wordsOf l)[i]? = some x) : sm l (i + 1) = sm l i + (runsOf l).count x * x.length := by
  unfold sm
  rw [List.take_add_one, h]
  simp
theorem nlt_app (a b : List UInt8) : nlt (a ++ b) = nlt a + nlt b := List.countP_append ..
theorem sm_all (l : List UInt8) : sm l (wordsOf l).length = nlt l := by
  unfold sm
  rw [List.take_length]
  rw [sum_words (f := List.length) (words_nodup l) (runsOf l) (fun r hr => wordsOf_mem.2 hr)]
  have h := stp_sum (l ++ [32]) (l.length + 1) (by simp)
  have hn : (stp (l ++ [32]) (l.length + 1)).1 < 0 := stp_none (by rw [List.getD_eq_getElem?_getD, List.getElem?_append_right (Nat.le_refl _), Nat.sub_self]; rfl)
  rw [if_pos hn, List.take_of_length_le (by simp), nlt_app, Nat.add_zero] at h
  exact h
theorem sm_mono (l : List UInt8) : ∀ d i, sm l i ≤ sm l (i + d) := by
  intro d
  induction d with
  | zero => intro i; exact Nat.le_refl _
  | succ d ih =>
    intro i
    refine Nat.le_trans (ih i) ?_
    rw [show i + (d + 1) = i + d + 1 by omega]
    unfold sm
    rw [List.take_add_one, List.map_append, List.sum_append]
    exact Nat.le_add_right _ _
theorem nlt_le (l : List UInt8) : nlt l ≤ l.length := List.countP_le_length
theorem sm_le {l : List UInt8} {i : Nat} (h : i ≤ (wordsOf l).length) : sm l i ≤ l.length := by
  have := sm_mono l ((wordsOf l).length - i) i
  rw [show i + ((wordsOf l).length - i) = (wordsOf l).length by omega, sm_all] at this
  exact Nat.le_trans this (nlt_le l)
theorem words_bound (l : List UInt8) : (wordsOf l).length ≤ l.length + 1 := by
  have h1 : (wordsOf l).length = (once (runsOf l)).length := List.length_mergeSort ..
  have h2 : ∀ rs : List (List UInt8), (once rs).length ≤ rs.length := fun rs => by
    induction rs with
    | nil => exact Nat.le_refl _
    | cons a rs ih =>
      rw [once]
      split
      · exact Nat.le_succ_of_le ih
      · rw [List.length_cons, List.length_cons]; omega
  have h3 := stp_len (l ++ [32]) (l.length + 1)
  have h4 := h2 (runsOf l)
  unfold runsOf at h4 h1
  omega
/-- Has the first word that is asked for come yet? -/
def zq (l : List UInt8) (i : Nat) : Bool := decide ([90, 113] ∈ (wordsOf l).take i)
theorem zq_step {l : List UInt8} {i : Nat} {x : List UInt8} (h : (wordsOf l)[i]? = some x) : zq l (i + 1) = (zq l i || decide (x = [90, 113])) := by
  unfold zq
  rw [List.take_add_one, h]
  by_cases h1 : [90, 113] ∈ (wordsOf l).take i
  · simp [h1]
  · by_cases h2 : x = [90, 113]
    · simp [h2]
    · simp [h1, h2, Ne.symm h2]
theorem nlt_step (l : List UInt8) {k : Nat} (hk : k < l.length) : nlt (l.take (k + 1)) = nlt (l.take k) + (if ltr (l.getD k 0) = true then 1 else 0) := by
  unfold nlt
  rw [List.take_add_one, List.countP_append, List.getElem?_eq_getElem hk, List.getD_eq_getElem?_getD, List.getElem?_eq_getElem hk]
  simp [List.countP_singleton]
end Go.Proofs.Ytfngcabckfmhnaa.B
