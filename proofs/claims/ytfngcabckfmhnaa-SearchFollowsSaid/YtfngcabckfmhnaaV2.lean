/- SearchWords: what the law's own runs counts. -/
import Derived.Test.YtfngcabckfmhnaaV1
namespace Go.Proofs.Ytfngcabckfmhnaa.B
open Go.RowKit Go.Proofs.YtfngcabckfmhnaaW.PrintWords Go.Proofs.YtfngcabckfmhnaaW.PrintLast Go.Proofs.YtfngcabckfmhnaaW.PrintMore Go.Proofs.Ytfngcabckfmhnaa.PA
set_option linter.unusedVariables false
set_option linter.unusedSimpArgs false

theorem at_pure5 (s p : ByteArray) (hs : s.size ≤ 5864062014000) (hp : 1 ≤ p.size) (hp2 : p.size ≤ 100000) (i : Nat) (hi : i < s.size) : jotterlaw24_at.f s p i = some (mt s p i) := by
  unfold jotterlaw24_at.f
  rw [if_pos (by omega), w64 (x := (s.size : Int) - p.size) (by omega) (by omega)]
  by_cases h : (i : Int) ≤ (s.size : Int) - (p.size : Int)
  · rw [if_pos h, if_pos (by omega), w64 (x := (i : Int) + p.size) (by omega) (by omega), if_pos (by omega), if_pos (by omega)]
    congr 1
    rw [show ((i : Int) + (p.size : Int)).toNat = i + p.size by omega, Int.toNat_natCast, ByteArray.toList_eq, ByteArray.toList_eq]
    unfold mt bytesOf
    rw [Bool.eq_iff_iff, beq_iff_eq, beq_iff_eq, ByteArray.data_extract, Array.toList_extract, ← List.map_drop, ← List.map_take]
    rw [show (s.data.toList.extract i (i + p.size)) = (s.data.toList.drop i).take p.size by rw [List.extract_eq_take_drop, Nat.add_sub_cancel_left]]
    exact ⟨fun h => by rw [h], bytesOf_inj⟩
  · rw [if_neg h]
    congr 1
    symm
    unfold mt
    rw [beq_eq_false_iff_ne]
    intro e
    have := congrArg List.length e
    rw [List.length_take, List.length_drop, bytesOf_length, bytesOf_length] at this
    omega
theorem mt_l (s : ByteArray) (x : List UInt8) (i : Nat) : mt s (bs x) i = ((s.data.toList.drop i).take x.length == x) := by
  unfold mt bytesOf
  rw [bs_size, Bool.eq_iff_iff, beq_iff_eq, beq_iff_eq, ← List.map_drop, ← List.map_take]
  exact ⟨bytesOf_inj, fun h => by rw [h]; rfl⟩
theorem bt_l (s : ByteArray) (j : Nat) : bt s (j : Int) = ((s.data.toList.getD j 0).toNat : Int) := by
  unfold bt
  rw [List.getD_eq_getElem?_getD]
  simp only [Int.toNat_natCast]
  split
  · rename_i h
    rw [List.getElem?_eq_getElem (by rw [size_toList]; exact h)]
    rfl
  · rename_i h
    rw [List.getElem?_eq_none (by rw [size_toList]; omega)]
    rfl
theorem letter_pure (b : UInt8) : jotterlaw24_letter.f (b.toNat : Int) = some (ltr b) := by
  unfold jotterlaw24_letter.f ltr
  by_cases h1 : 97 ≤ b.toNat
  · rw [if_pos (by omega)]
    by_cases h2 : b.toNat ≤ 122
    · rw [if_pos (by omega), decide_eq_true (by omega)]
    · rw [if_neg (by omega), if_pos (by omega)]
      congr 1
      rw [decide_eq_false (by omega), decide_eq_false (by omega)]
  · rw [if_neg (by omega)]
    by_cases h3 : 65 ≤ b.toNat
    · rw [if_pos (by omega)]
      congr 1
      by_cases h4 : b.toNat ≤ 90
      · rw [decide_eq_true (by omega), decide_eq_true (by omega)]
      · rw [decide_eq_false (by omega), decide_eq_false (by omega)]
    · rw [if_neg (by omega), decide_eq_false (by omega)]
theorem occ_mt {s : ByteArray} {x : List UInt8} (hx : 1 ≤ x.length) (hl : ∀ b ∈ x, ltr b = true) {i : Nat} (hi : i < s.size) :
    occ (s.data.toList ++ [32]) x i = (mt s (bs x) i && (i == 0 || !ltr (s.data.toList.getD (i - 1) 0)) && (decide (s.size ≤ i + x.length) || !ltr (s.data.toList.getD (i + x.length) 0))) := by
  have hlen : s.data.toList.length = s.size := size_toList s
  have e1 : (s.data.toList ++ [32]).getD (i - 1) 0 = s.data.toList.getD (i - 1) 0 := by
    rw [List.getD_eq_getElem?_getD, List.getD_eq_getElem?_getD, List.getElem?_append_left (by omega)]
  rw [mt_l]
  unfold occ
  rw [e1]
  by_cases h : i + x.length ≤ s.size
  · have e2 : ((s.data.toList ++ [32]).drop i).take x.length = (s.data.toList.drop i).take x.length := by
      rw [List.drop_append_of_le_length (by omega), List.take_append_of_le_length (by rw [List.length_drop]; omega)]
    rw [e2]
    congr 1
    by_cases h2 : i + x.length < s.size
    · rw [decide_eq_false (by omega), List.getD_eq_getElem?_getD, List.getD_eq_getElem?_getD, List.getElem?_append_left (by omega)]
      rfl
    · rw [decide_eq_true (by omega), List.getD_eq_getElem?_getD, List.getElem?_append_right (by omega), show i + x.length - s.data.toList.length = 0 by omega]
      rfl
  · have e2 : ((s.data.toList.drop i).take x.length == x) = false := by
      rw [beq_eq_false_iff_ne]
      intro e
      have := congrArg List.length e
      rw [List.length_take, List.length_drop] at this
      omega
    have e3 : (((s.data.toList ++ [32]).drop i).take x.length == x) = false := by
      rw [beq_eq_false_iff_ne]
      intro e
      have h1 := congrArg List.length e
      rw [List.length_take, List.length_drop, List.length_append, List.length_singleton] at h1
      have h2 := sub_get (l := s.data.toList ++ [32]) (i := i) (j := x.length - 1) e (by omega)
      rw [List.getD_eq_getElem?_getD, List.getElem?_append_right (by omega), show i + (x.length - 1) - s.data.toList.length = 0 by omega] at h2
      have h3 := hl (x.getD (x.length - 1) 0) (by rw [List.getD_eq_getElem?_getD, List.getElem?_eq_getElem (by omega)]; exact List.getElem_mem _)
      rw [← h2] at h3
      cases h3
    rw [e2, e3]
    rfl
theorem runs_loop (s : ByteArray) (x : List UInt8) (hs : s.size ≤ 5000) (hx : 1 ≤ x.length) (hx2 : x.length ≤ 5001) (hl : ∀ b ∈ x, ltr b = true) (d : Nat) : ∀ (k i n : Nat), i + d = s.size → d < k → n ≤ i →
    jotterlaw24_runs.l0 k s (bs x) n i = some ((n + (List.range' i d).countP (occ (s.data.toList ++ [32]) x) : Nat) : Int) := by
  induction d with
  | zero =>
    intro k i n hi hk hn
    obtain ⟨k, rfl⟩ : ∃ m, k = m + 1 := ⟨k - 1, by omega⟩
    simp only [jotterlaw24_runs.l0]
    rw [if_neg (by omega)]
    rfl
  | succ d ih =>
    intro k i n hi hk hn
    obtain ⟨k, rfl⟩ : ∃ m, k = m + 1 := ⟨k - 1, by omega⟩
    have hm := at_pure5 s (bs x) (by omega) (by rw [bs_size]; omega) (by rw [bs_size]; omega) i (by omega)
    have ho := occ_mt hx hl (s := s) (i := i) (by omega)
    have hz : ((bs x).size : Int) = (x.length : Int) := by rw [bs_size]
    have skip : jotterlaw24_runs.l0 k s (bs x) n ((i : Int) + 1) = some ((n + (List.range' (i + 1) d).countP (occ (s.data.toList ++ [32]) x) : Nat) : Int) := ih k (i + 1) n (by omega) (by omega) (by omega)
    have take : jotterlaw24_runs.l0 k s (bs x) ((n : Int) + 1) ((i : Int) + 1) = some ((n + 1 + (List.range' (i + 1) d).countP (occ (s.data.toList ++ [32]) x) : Nat) : Int) := ih k (i + 1) (n + 1) (by omega) (by omega) (by omega)
    simp only [jotterlaw24_runs.l0]
    rw [if_pos (show (i : Int) < (s.size : Int) by omega), hm, Option.bind_some, hz, w64 (x := (i : Int) + 1) (by omega) (by omega), w64 (x := (i : Int) - 1) (by omega) (by omega), w64 (x := (n : Int) + 1) (by omega) (by omega), w64 (x := (i : Int) + (x.length : Int)) (by omega) (by omega), List.range'_succ, List.countP_cons]
    have e2 : (i : Int) + (x.length : Int) = ((i + x.length : Nat) : Int) := by push_cast; rfl
    have behind : ∀ r : Option Int, (if (i : Int) + (x.length : Int) < (s.size : Int) then (if 0 ≤ (i : Int) + (x.length : Int) then ((jotterlaw24_letter.f (bt s ((i : Int) + (x.length : Int)))).bind fun t => if t = true then jotterlaw24_runs.l0 k s (bs x) n ((i : Int) + 1) else jotterlaw24_runs.l0 k s (bs x) ((n : Int) + 1) ((i : Int) + 1)) else none) else jotterlaw24_runs.l0 k s (bs x) ((n : Int) + 1) ((i : Int) + 1)) =
        some ((n + ((List.range' (i + 1) d).countP (occ (s.data.toList ++ [32]) x) + (if (decide (s.size ≤ i + x.length) || !ltr (s.data.toList.getD (i + x.length) 0)) = true then 1 else 0)) : Nat) : Int) := fun _ => by
      by_cases h : i + x.length < s.size
      · rw [if_pos (by omega), if_pos (by omega), e2, bt_l, letter_pure, Option.bind_some, decide_eq_false (show ¬ s.size ≤ i + x.length by omega)]
        cases ltr (s.data.toList.getD (i + x.length) 0) with
        | true => rw [if_pos rfl, skip]; rfl
        | false => rw [if_neg (by decide), take]; congr 2; simp; omega
      · rw [if_neg (by omega), decide_eq_true (show s.size ≤ i + x.length by omega), take]
        congr 2
        simp
        omega
    cases hmt : mt s (bs x) i with
    | false =>
      rw [if_neg (by decide), skip, ho, hmt]
      rfl
    | true =>
      rw [if_pos rfl]
      by_cases h0 : 0 < i
      · rw [if_pos (by omega), if_pos (by omega), if_pos (by omega), show (i : Int) - 1 = ((i - 1 : Nat) : Int) by omega, bt_l, letter_pure, Option.bind_some]
        cases hlt : ltr (s.data.toList.getD (i - 1) 0) with
        | true =>
          rw [if_pos rfl, skip, ho, hmt, hlt, if_neg (by simp; omega)]
          rfl
        | false =>
          rw [if_neg (by decide), behind none, ho, hmt, hlt]
          simp
      · rw [if_neg (by omega), behind none, ho, hmt, show i = 0 by omega]
        simp
theorem runs_pure (s : ByteArray) (x : List UInt8) (hs : s.size ≤ 5000) (hm : x ∈ runsOf s.data.toList) : ∃ k, jotterlaw24_runs.f k s (bs x) = some ((runsOf s.data.toList).count x : Int) := by
  have hlen : s.data.toList.length = s.size := size_toList s
  obtain ⟨h1, h2⟩ := stp_letters (s.data.toList ++ [32]) (s.data.toList.length + 1) (by simp) x hm
  have h3 := stp_short (s.data.toList ++ [32]) (s.data.toList.length + 1) x hm
  refine ⟨s.size + 1, ?_⟩
  have e := runs_loop s x hs h1 (by omega) h2 s.size (s.size + 1) 0 0 (by omega) (by omega) (by omega)
  unfold jotterlaw24_runs.f
  refine e.trans ?_
  have c := count_occ (l := s.data.toList ++ [32]) h1 (fun j hj => h2 _ (by rw [List.getD_eq_getElem?_getD, List.getElem?_eq_getElem hj]; exact List.getElem_mem _)) (s.data.toList.length + 1) (by simp)
  congr 2
  rw [Nat.zero_add, ← List.range_eq_range']
  unfold runsOf
  rw [c, hlen]
  rcases Nat.lt_or_ge s.size x.length with hxl | hxl
  · rw [show s.size + 1 - x.length = 0 by omega]
    refine (List.countP_eq_zero.2 fun i hi => ?_)
    rw [List.mem_range] at hi
    rw [occ_mt h1 h2 hi, mt_l]
    have : ((s.data.toList.drop i).take x.length == x) = false := by
      rw [beq_eq_false_iff_ne]
      intro e
      have := congrArg List.length e
      rw [List.length_take, List.length_drop] at this
      omega
    rw [this]
    simp
  · obtain ⟨a, ha⟩ : ∃ a, s.size = (s.size + 1 - x.length) + a := ⟨x.length - 1, by omega⟩
    conv => lhs; rw [ha, List.range_add, List.countP_append]
    rw [show ((List.range a).map ((s.size + 1 - x.length) + ·)).countP (occ (s.data.toList ++ [32]) x) = 0 from ?_]
    · rfl
    · refine List.countP_eq_zero.2 fun i hi => ?_
      obtain ⟨j, hj, rfl⟩ := List.mem_map.1 hi
      rw [List.mem_range] at hj
      rw [occ_mt h1 h2 (by omega), mt_l]
      have : ((s.data.toList.drop ((s.size + 1 - x.length) + j)).take x.length == x) = false := by
        rw [beq_eq_false_iff_ne]
        intro e
        have := congrArg List.length e
        rw [List.length_take, List.length_drop] at this
        omega
      rw [this]
      simp
end Go.Proofs.Ytfngcabckfmhnaa.B
