/- SearchBack: what the walk of the law needs. -/
import Derived.Test.YtfngcabckfmhnaaK1
namespace Go.Proofs.Ytfngcabckfmhnaa.B
open Go.RowKit Go.Proofs.YtfngcabckfmhnaaW.PrintWords Go.Proofs.YtfngcabckfmhnaaW.PrintLast Go.Proofs.YtfngcabckfmhnaaW.PrintMore Go.Proofs.Ytfngcabckfmhnaa.PA
set_option linter.unusedVariables false
set_option linter.unusedSimpArgs false

/-- The bytes but for the strange one. -/
def wo (s : ByteArray) : List Int := (bytesOf s).filter fun x => decide (x ≠ 126)
theorem wo_range (s : ByteArray) : ∀ x ∈ wo s, (0 ≤ x ∧ x ≤ 255) ∧ x ≠ 126 := fun x hx => by
  obtain ⟨h1, h2⟩ := List.mem_filter.1 hx
  exact ⟨bytesOf_range s x h1, of_decide_eq_true h2⟩
theorem wo_length (s : ByteArray) : (wo s).length ≤ s.size := by
  rw [← bytesOf_length s]
  exact List.length_filter_le _ _
theorem without_loop (s : ByteArray) (hs : s.size ≤ 140737488351232) (d : Nat) : ∀ (k i : Nat) (ys : List Int), i + d = s.size → d < k → ys.length ≤ i → ys ++ ((bytesOf s).drop i).filter (fun x => decide (x ≠ 126)) = wo s →
    jotterlaw24_without.l0 k s 126 ys i = some (strOfNums (wo s)) := by
  induction d with
  | zero =>
    intro k i ys hi hk hl he
    obtain ⟨k, rfl⟩ : ∃ m, k = m + 1 := ⟨k - 1, by omega⟩
    simp only [jotterlaw24_without.l0]
    rw [if_neg (by omega)]
    rw [List.drop_eq_nil_of_le (by rw [bytesOf_length]; omega)] at he
    simp at he
    rw [he]
  | succ d ih =>
    intro k i ys hi hk hl he
    obtain ⟨k, rfl⟩ : ∃ m, k = m + 1 := ⟨k - 1, by omega⟩
    simp only [jotterlaw24_without.l0]
    rw [if_pos (by omega), if_pos (by omega), w64 (x := (i : Int) + 1) (by omega) (by omega)]
    have hg := bytesOf_get (s := s) (i := i) (by omega)
    have hd : (bytesOf s).drop i = bt s (i : Int) :: (bytesOf s).drop (i + 1) := by
      rw [List.drop_eq_getElem_cons (show i < (bytesOf s).length by rw [bytesOf_length]; omega)]
      congr 1
      rw [List.getElem?_eq_getElem (show i < (bytesOf s).length by rw [bytesOf_length]; omega)] at hg
      exact Option.some.inj hg
    rw [hd] at he
    by_cases hc : bt s (i : Int) = 126
    · rw [if_pos hc]
      rw [List.filter_cons_of_neg (by simp [hc])] at he
      exact ih k (i + 1) ys (by omega) (by omega) (by omega) he
    · rw [if_neg hc, if_pos (by omega)]
      rw [List.filter_cons_of_pos (by simp [hc])] at he
      exact ih k (i + 1) _ (by omega) (by omega) (by rw [List.length_append, List.length_singleton]; omega) (by rw [List.append_assoc]; exact he)
theorem without_pure (s : ByteArray) (hs : s.size ≤ 140737488351232) : ∃ k, jotterlaw24_without.f k s 126 = some (strOfNums (wo s)) :=
  ⟨s.size + 1, without_loop s hs s.size _ 0 [] (by omega) (by omega) (by simp) rfl⟩
theorem plB_bytes {q : ByteArray} (h : plB q = true) : ∀ x ∈ bytesOf q, 32 ≤ x ∧ x ≤ 126 := fun x hx => by
  rw [← bytes_range q] at hx
  obtain ⟨j, hj, rfl⟩ := List.mem_map.1 hx
  rw [List.mem_range] at hj
  exact plB_byte h j hj
/-- A pattern that SearchBack may ask for. -/
structure Pat (p : ByteArray) : Prop where
  pl : plB p = true
  lo : 1 ≤ p.size
  hi : p.size ≤ 5
  no : ∀ x ∈ bytesOf p, x ≠ 126
theorem pat_b : Pat ⟨#[98]⟩ := ⟨by rfl, by decide, by decide, fun x hx => by
  have hx : x ∈ [(98 : Int)] := hx
  simp at hx
  omega⟩
theorem pat_of {l : List Int} (h : ∀ x ∈ l, (32 ≤ x ∧ x ≤ 126) ∧ x ≠ 126) (h1 : 1 ≤ l.length) (h5 : l.length ≤ 5) : Pat (strOfNums l) :=
  ⟨plB_of (by omega) fun x hx => (h x hx).1, by rw [strOfNums_size]; exact h1, by rw [strOfNums_size]; exact h5, fun x hx => by
    rw [bytesOf_strOfNums l fun x hx => by have := (h x hx).1; omega] at hx
    exact (h x hx).2⟩
theorem wo_pat {q : ByteArray} (h : plB q = true) : ∀ x ∈ wo q, (32 ≤ x ∧ x ≤ 126) ∧ x ≠ 126 := fun x hx => by
  obtain ⟨h1, h2⟩ := List.mem_filter.1 hx
  exact ⟨plB_bytes h x h1, of_decide_eq_true h2⟩
theorem extract_nums (l : List Int) (n : Nat) : (strOfNums l).extract 0 n = strOfNums (l.take n) := by
  apply ByteArray.ext
  apply Array.toList_inj.1
  rw [ByteArray.data_extract, Array.toList_extract, strOfNums_data, strOfNums_data]
  simp [List.map_take]
theorem tildes_bytes (m : Nat) : bytesOf (strOfNums (List.replicate m 126)) = List.replicate m 126 :=
  bytesOf_strOfNums _ fun x hx => by obtain ⟨_, rfl⟩ := List.mem_replicate.1 hx; decide
theorem tildes_pl (m : Nat) (h : m ≤ 5) : plB (strOfNums (List.replicate m 126)) = true :=
  plB_of (by rw [List.length_replicate]; omega) fun x hx => by obtain ⟨_, rfl⟩ := List.mem_replicate.1 hx; decide
theorem tildes_cut (m : Nat) (h : m ≤ 5) : (⟨#[126, 126, 126, 126, 126]⟩ : ByteArray).extract 0 m = strOfNums (List.replicate m 126) := by
  have e : (⟨#[126, 126, 126, 126, 126]⟩ : ByteArray) = strOfNums (List.replicate 5 126) := rfl
  rw [e, extract_nums, List.take_replicate, Nat.min_eq_left h]
/-- What stands between the two swaps, and behind them. -/
theorem back_law (s p : ByteArray) (hs : ∀ x ∈ bytesOf s, x ≠ 126) (hp : Pat p) (m : Nat) (L : List Nat) (hL : L = plc s p 0 true) (W : ByteArray)
    (hW : W = strOfNums (outB (bytesOf s) p.size (strOfNums (List.replicate (m + 1) 126)) L L.length ++ (bytesOf s).drop (srcP p.size L L.length))) :
    plc W p 0 false = [] ∧ (plc W (strOfNums (List.replicate (m + 1) 126)) 0 true).length = L.length ∧
    outB (bytesOf W) (m + 1) p (plc W (strOfNums (List.replicate (m + 1) 126)) 0 true) (plc W (strOfNums (List.replicate (m + 1) 126)) 0 true).length ++ (bytesOf W).drop (srcP (m + 1) (plc W (strOfNums (List.replicate (m + 1) 126)) 0 true) (plc W (strOfNums (List.replicate (m + 1) 126)) 0 true).length) = bytesOf s := by
  have hP : 1 ≤ (bytesOf p).length := by rw [bytesOf_length]; exact hp.lo
  rw [out_G s p _ L hL, tildes_bytes] at hW
  have hWb : bytesOf W = G (bytesOf s) (bytesOf p) (List.replicate (m + 1) 126) 0 := by
    rw [hW]
    refine bytesOf_strOfNums _ fun x hx => ?_
    rcases G_mem hP _ 0 rfl x hx with h | h
    · exact bytesOf_range s x h
    · obtain ⟨_, rfl⟩ := List.mem_replicate.1 h
      decide
  have hb := back_back (m := m) hP hs (bytesOf W) (bytesOf s).length 0 0 (by omega) (by rw [hWb]; rfl)
  refine ⟨?_, ?_, ?_⟩
  · rw [plc_sc, hWb]
    exact scan_none _ _ _ (back_none hP hp.no) _ _ _
  · rw [plc_sc, tildes_bytes, hb.2, hL, plc_sc]
  · have := out_G W (strOfNums (List.replicate (m + 1) 126)) p _ rfl
    rw [strOfNums_size, List.length_replicate, tildes_bytes] at this
    rw [this, hb.1]
    rfl
structure Inv2 (w wr : World) (g : Nat) (vO : Value) (ops : List S46) (t : List Int) (r : Option Nat) (ps : List (List Int)) (i : Nat) : Prop where
  o : Kd.R k46 46 wr w.heap.size (fun _ => True) vO ops
  x : Idx wr g r ps
  f : fl ps = t
  b : Below w.heap.size w wr
  hg : w.heap.size ≤ g
  r : ∀ k, r = some k → w.heap.size ≤ k
  n : ps.length ≤ 500 + i
theorem Inv2.step {w wr W' : World} {g : Nat} {vO : Value} {ops : List S46} {t : List Int} {r : Option Nat} {ps : List (List Int)} {i : Nat} (h : Inv2 w wr g vO ops t r ps i) (hb : Below wr.heap.size wr W') : Inv2 w W' g vO ops t r ps i :=
  ⟨Kd.R_below h.o hb, h.x.below hb, h.f, below_then h.b h.b.size hb, h.hg, h.r, h.n⟩
end Go.Proofs.Ytfngcabckfmhnaa.B
