/- The walk of the law's own needle: some pattern of 1 to 64 characters. -/
import Derived.Test.YtfngcabckfmhnaaB2
namespace Go.Proofs.Ytfngcabckfmhnaa.B
open Go.RowKit Go.Proofs.YtfngcabckfmhnaaW.PrintWords Go.Proofs.YtfngcabckfmhnaaW.PrintLast Go.Proofs.YtfngcabckfmhnaaW.PrintMore Go.Proofs.Ytfngcabckfmhnaa.PA
set_option linter.unusedVariables false
set_option linter.unusedSimpArgs false

/-- Block B begins with these bytes, and they may be written. -/
def Bts (w : World) (B : Nat) (xs : List Int) : Prop := ∀ j x, xs[j]? = some x → w.cell? ⟨B, j, none⟩ = some (.int .u8 x) ∧ w.frozen? ⟨B, j, none⟩ = false

theorem Bts.set {w : World} {B : Nat} {xs : List Int} (h : Bts w B xs) (i : Nat) (y : Int) : Bts (w.setCell ⟨B, i, none⟩ (.int .u8 y)) B (xs.set i y) := by
  intro j x hj
  rw [List.getElem?_set] at hj
  by_cases hij : i = j
  · subst hij
    rw [if_pos rfl] at hj
    by_cases hl : i < xs.length
    · rw [if_pos hl] at hj
      obtain rfl := Option.some.inj hj
      obtain ⟨h1, h2⟩ := h i _ (List.getElem?_eq_getElem hl)
      exact ⟨World.cell?_setCell_same _ _ _ h1, by rw [World.frozen?_setCell]; exact h2⟩
    · rw [if_neg hl] at hj; cases hj
  · rw [if_neg hij] at hj
    obtain ⟨h1, h2⟩ := h j x hj
    exact ⟨by rw [World.cell?_setCell_other _ _ _ _ (fun e => hij (by injection e))]; exact h1, by rw [World.frozen?_setCell]; exact h2⟩

theorem mem_set_take {P : Int → Prop} {xs : List Int} {i : Nat} {y : Int} (h : ∀ x ∈ xs.take i, P x) (hy : P y) : ∀ x ∈ (xs.set i y).take (i + 1), P x := by
  intro x hx
  obtain ⟨j, hj, rfl⟩ := List.mem_iff_getElem.1 hx
  rw [List.length_take, List.length_set] at hj
  rw [List.getElem_take, List.getElem_set]
  split
  · exact hy
  · exact h _ (List.mem_iff_getElem.2 ⟨j, by rw [List.length_take]; omega, List.getElem_take⟩)
theorem mem_take_succ {P : Int → Prop} {xs : List Int} {i : Nat} {y : Int} (h : ∀ x ∈ xs.take i, P x) (hi : xs[i]? = some y) (hy : P y) : ∀ x ∈ xs.take (i + 1), P x := by
  intro x hx
  rw [List.take_add_one, hi] at hx
  simp only [Option.toList_some, List.mem_append, List.mem_singleton] at hx
  rcases hx with hx | rfl
  · exact h x hx
  · exact hy
theorem mem_set_all {P : Int → Prop} {xs : List Int} {i : Nat} {y : Int} (h : ∀ x ∈ xs, P x) (hy : P y) : ∀ x ∈ xs.set i y, P x := fun x hx => by
  rcases List.mem_or_eq_of_mem_set hx with hx | rfl
  · exact h x hx
  · exact hy
theorem bytesOf_range (s : ByteArray) : ∀ x ∈ bytesOf s, 0 ≤ x ∧ x ≤ 255 := fun x hx => by
  obtain ⟨b, _, rfl⟩ := List.mem_map.1 hx
  have := b.toNat_lt
  omega
theorem bts_made (w : World) (s : ByteArray) (n : Nat) : Bts (Lib.bytesWorld w 5 s) w.heap.size ((bytesOf s).take n) := by
  intro j x hj
  rw [List.getElem?_take] at hj
  split at hj
  · have hl : j < s.size := by have := (List.getElem?_eq_some_iff.1 hj).1; rwa [bytesOf_length] at this
    rw [Lib.bytesWorld_cell _ _ _ _ hl]
    have hl' : j < s.data.toList.length := by rw [data_length]; exact hl
    refine ⟨?_, ?_⟩
    · unfold bytesOf at hj
      rw [List.getElem?_map, List.getElem?_eq_getElem hl'] at hj
      obtain rfl := Option.some.inj hj
      rw [List.getD_eq_getElem?_getD, List.getElem?_eq_getElem hl']
      rfl
    · have hb : j < (Lib.bytesCells w 5 s).size := by unfold Lib.bytesCells; simp; show j < _; have := hl; omega
      unfold World.frozen?
      rw [show (⟨w.heap.size, j, none⟩ : Addr).block = w.heap.size from rfl, Lib.bytesWorld_at_new]
      simp
      omega
  · cases hj
theorem plB_of {xs : List Int} (hl : xs.length ≤ 64) (h : ∀ x ∈ xs, 32 ≤ x ∧ x ≤ 126) : plB (strOfNums xs) = true := by
  unfold plB
  rw [strOfNums_size, strOfNums_data]
  simp only [hl, decide_true, Bool.true_and, List.all_eq_true, List.mem_map]
  rintro _ ⟨x, hx, rfl⟩
  obtain ⟨h1, h2⟩ := h x hx
  unfold okB
  rw [UInt8.toNat_ofNat_of_lt' (by show x.toNat < 256; omega)]
  simp
  omega

def NeedleAns (w : World) (e : Ending) (w' : World) : Prop := ∃ p : ByteArray, e = .returned (.string p) ∧ plB p = true ∧ 1 ≤ p.size ∧ Below w.heap.size w w'

set_option maxHeartbeats 8000000 in
set_option maxRecDepth 100000 in
theorem needle_any (s : ByteArray) (w : World) (hs : s.size ≤ 140737488351232) : Calls Try.prog 13 #[.string s] w (NeedleAns w) := by
  have HS := Aside0.mk hs
  clear hs
  have kb := fun W => print_bytes (P := Try.prog) 9 53 5 Try.underlying9 Try.underlying53 Try.underlying5 s W
  by_cases hl : (64 : Int) < (s.size : Int)
  · have c1 := decide_eq_true hl
    have C0 := Aside0.mk hl
    have hg : (64 : Int) ≤ (grownCap w s.size 0 5 : Int) := by have := grownCap_ge w s.size 0 5; omega
    clear hl
    go_enter Try.func13, Try.ntmps13
    go_wp2
    go_loopw [4] (fun v4 wr => ∃ (i : Nat) (xs : List Int), v4 = .int .i64 i ∧ i ≤ 64 ∧ Aside0 (Bts wr w.heap.size xs) ∧ Aside0 (xs.length = 64) ∧ Aside0 (∀ x ∈ xs.take i, 32 ≤ x ∧ x ≤ 126) ∧ Aside0 (∀ x ∈ xs, 0 ≤ x ∧ x ≤ 255) ∧ Aside0 (Below w.heap.size w wr)) (fun v4 _ => 64 - (intOf v4).toNat)
    case atStart => exact ⟨0, _, rfl, Nat.zero_le _, ⟨bts_made w s 64⟩, ⟨by rw [List.length_take, bytesOf_length]; have := C0.out; omega⟩, ⟨by simp⟩, ⟨fun x hx => bytesOf_range s x (List.mem_of_mem_take hx)⟩, ⟨bytes_below (Below.refl _ _) (Nat.le_refl _) _ _⟩⟩
    case round =>
      clear c1
      obtain ⟨i, xs, rfl, hi, HB, HN, HG, HU, HW⟩ := hrel
      by_cases hlt : (i : Int) < 64
      · have c2 := decide_eq_true hlt
        obtain ⟨x, hx⟩ : ∃ x, xs[i]? = some x := ⟨_, List.getElem?_eq_getElem (by rw [HN.out]; omega)⟩
        obtain ⟨hc, hf⟩ := HB.out i x hx
        have HX := Aside0.mk hx
        obtain ⟨hu0, hu1⟩ := HU.out x (List.mem_of_getElem? hx)
        clear hx
        by_cases c3 : x < 32
        · have c3' := decide_eq_true c3
          go_wp2
          go_roundw
          case rel => exact ⟨i + 1, xs.set i (32 + x % 95), by go_num, by omega, ⟨HB.out.set i _⟩, ⟨by rw [List.length_set]; exact HN.out⟩, ⟨mem_set_take HG.out (by omega)⟩, ⟨mem_set_all HU.out (by omega)⟩, ⟨HW.out.setCell (Nat.le_refl _) _⟩⟩
          case measure => simp [intOf]; omega
        · have c3' := decide_eq_false c3
          by_cases c4 : 126 < x
          · have c4' := decide_eq_true c4
            go_wp2
            go_roundw
            case rel => exact ⟨i + 1, xs.set i (32 + x % 95), by go_num, by omega, ⟨HB.out.set i _⟩, ⟨by rw [List.length_set]; exact HN.out⟩, ⟨mem_set_take HG.out (by omega)⟩, ⟨mem_set_all HU.out (by omega)⟩, ⟨HW.out.setCell (Nat.le_refl _) _⟩⟩
            case measure => simp [intOf]; omega
          · have c4' := decide_eq_false c4
            go_wp2
            go_roundw
            case rel => exact ⟨i + 1, xs, by go_num, by omega, HB, HN, ⟨mem_take_succ HG.out HX.out (by omega)⟩, HU, HW⟩
            case measure => simp [intOf]; omega
      · have c2 := decide_eq_false hlt
        have hA : ∀ x ∈ xs, 32 ≤ x ∧ x ≤ 126 := fun x hx => HG.out x (by rw [List.take_of_length_le (by rw [HN.out]; omega)]; exact hx)
        have HA := Aside0.mk hA
        clear hA
        have hs := run_convert_bytes_arg (P := Try.prog) wr 53 5 Try.underlying53 Try.underlying5 w.heap.size 0 64 (grownCap w s.size 0 5) xs HN.out (fun j hj => by rw [Nat.zero_add]; exact (HB.out j _ (by rw [List.getD_eq_getElem?_getD, List.getElem?_eq_getElem (by rw [HN.out]; exact hj)]; rfl)).1) 9 Try.underlying9
        go_wp2
        go_ret
        exact ⟨_, rfl, plB_of (by rw [HN.out]; have := C0.out; omega) HA.out, by rw [strOfNums_size, HN.out]; have := C0.out; omega, HW.out⟩
  · have c1 := decide_eq_false hl
    have C0 := Aside0.mk hl
    have hsz : s.size ≤ 64 := by omega
    clear hl
    go_enter Try.func13, Try.ntmps13
    go_wp2
    go_loopw [4] (fun v4 wr => ∃ (i : Nat) (xs : List Int), v4 = .int .i64 i ∧ i ≤ s.size ∧ Aside0 (Bts wr w.heap.size xs) ∧ Aside0 (xs.length = s.size) ∧ Aside0 (∀ x ∈ xs.take i, 32 ≤ x ∧ x ≤ 126) ∧ Aside0 (∀ x ∈ xs, 0 ≤ x ∧ x ≤ 255) ∧ Aside0 (Below w.heap.size w wr)) (fun v4 _ => s.size - (intOf v4).toNat)
    case atStart => exact ⟨0, _, rfl, Nat.zero_le _, ⟨bts_made w s s.size⟩, ⟨by rw [List.length_take, bytesOf_length]; have := C0.out; omega⟩, ⟨by simp⟩, ⟨fun x hx => bytesOf_range s x (List.mem_of_mem_take hx)⟩, ⟨bytes_below (Below.refl _ _) (Nat.le_refl _) _ _⟩⟩
    case round =>
      clear c1
      obtain ⟨i, xs, rfl, hi, HB, HN, HG, HU, HW⟩ := hrel
      by_cases hlt : (i : Int) < (s.size : Int)
      · have c2 := decide_eq_true hlt
        obtain ⟨x, hx⟩ : ∃ x, xs[i]? = some x := ⟨_, List.getElem?_eq_getElem (by rw [HN.out]; omega)⟩
        obtain ⟨hc, hf⟩ := HB.out i x hx
        have HX := Aside0.mk hx
        obtain ⟨hu0, hu1⟩ := HU.out x (List.mem_of_getElem? hx)
        clear hx
        by_cases c3 : x < 32
        · have c3' := decide_eq_true c3
          go_wp2
          go_roundw
          case rel => exact ⟨i + 1, xs.set i (32 + x % 95), by go_num, by omega, ⟨HB.out.set i _⟩, ⟨by rw [List.length_set]; exact HN.out⟩, ⟨mem_set_take HG.out (by omega)⟩, ⟨mem_set_all HU.out (by omega)⟩, ⟨HW.out.setCell (Nat.le_refl _) _⟩⟩
          case measure => simp [intOf]; omega
        · have c3' := decide_eq_false c3
          by_cases c4 : 126 < x
          · have c4' := decide_eq_true c4
            go_wp2
            go_roundw
            case rel => exact ⟨i + 1, xs.set i (32 + x % 95), by go_num, by omega, ⟨HB.out.set i _⟩, ⟨by rw [List.length_set]; exact HN.out⟩, ⟨mem_set_take HG.out (by omega)⟩, ⟨mem_set_all HU.out (by omega)⟩, ⟨HW.out.setCell (Nat.le_refl _) _⟩⟩
            case measure => simp [intOf]; omega
          · have c4' := decide_eq_false c4
            go_wp2
            go_roundw
            case rel => exact ⟨i + 1, xs, by go_num, by omega, HB, HN, ⟨mem_take_succ HG.out HX.out (by omega)⟩, HU, HW⟩
            case measure => simp [intOf]; omega
      · have c2 := decide_eq_false hlt
        have hA : ∀ x ∈ xs, 32 ≤ x ∧ x ≤ 126 := fun x hx => HG.out x (by rw [List.take_of_length_le (by rw [HN.out]; omega)]; exact hx)
        have HA := Aside0.mk hA
        clear hA
        have hs := run_convert_bytes_arg (P := Try.prog) wr 53 5 Try.underlying53 Try.underlying5 w.heap.size 0 s.size (grownCap w s.size 0 5) xs HN.out (fun j hj => by rw [Nat.zero_add]; exact (HB.out j _ (by rw [List.getD_eq_getElem?_getD, List.getElem?_eq_getElem (by rw [HN.out]; exact hj)]; rfl)).1) 9 Try.underlying9
        by_cases h0 : (s.size : Int) = 0
        · have c5 : ((s.size : Int) == 0) = true := by simpa using h0
          clear h0
          go_wp2
          go_ret
          exact ⟨_, rfl, by decide, by decide, HW.out⟩
        · have c5 : ((s.size : Int) == 0) = false := by simpa using h0
          have C5 := Aside0.mk h0
          clear h0
          go_wp2
          go_ret
          exact ⟨_, rfl, plB_of (by rw [HN.out]; have := C0.out; omega) HA.out, by rw [strOfNums_size, HN.out]; have := C5.out; omega, HW.out⟩
end Go.Proofs.Ytfngcabckfmhnaa.B
