/- The walk of search.Index.Text: the index's bytes as a string. -/
import Derived.Test.YtfngcabckfmhnaaB0
import Derived.Laws.RangeAny
import Derived.Laws.RangeString
namespace Go.Proofs.Ytfngcabckfmhnaa.B
open Go.RowKit Go.Proofs.YtfngcabckfmhnaaW.PrintWords Go.Proofs.YtfngcabckfmhnaaW.PrintLast Go.Proofs.YtfngcabckfmhnaaW.PrintMore Go.Proofs.Ytfngcabckfmhnaa.PA
set_option linter.unusedVariables false
set_option linter.unusedSimpArgs false

theorem fl_take {ps : List (List Int)} {i : Nat} {l : List Int} (h : ps[i]? = some l) : fl (ps.take (i + 1)) = fl (ps.take i) ++ l := by
  unfold fl
  rw [List.take_add_one, h]
  simp
theorem fl_all (ps : List (List Int)) : fl (ps.take ps.length) = fl ps := by rw [List.take_length]
theorem fl_step {ps : List (List Int)} {i : Nat} {l : List Int} (h : ps[i]? = some l) : (fl (ps.take i)).length + l.length ≤ (fl ps).length := by
  have h1 := fl_take h
  have h2 : fl ps = fl (ps.take (i + 1)) ++ fl (ps.drop (i + 1)) := by unfold fl; rw [← List.flatten_append, List.take_append_drop]
  rw [h2, h1]
  simp only [List.length_append]
  omega

set_option maxHeartbeats 8000000 in
set_option maxRecDepth 100000 in
theorem text_any (w : World) (g : Nat) (r : Option Nat) (ps : List (List Int)) (h : Idx w g r ps) (hn : (fl ps).length ≤ 140737488351232) :
    Calls Try.prog 20 #[.pointer (some ⟨g, 0, none⟩)] w fun e w' => e = .returned (.string (strOfNums (fl ps))) ∧ Below w.heap.size w w' := by
  obtain ⟨A, c, h0, h1, hl, hps⟩ := h.open_
  have HP := Aside0.mk hps
  clear hps
  obtain ⟨i5, hi5, hz5, hz1, hz2⟩ := info_parts info5
  have HI := Aside0.mk (And.intro hz5 (And.intro hz1 hz2))
  clear hz5 hz1 hz2
  go_enter Try.func20, Try.ntmps20
  go_wp2_with (at_make; go_loud (refine wpList_make_own _ rfl _ _ 53 rfl w.heap.size 5 i5 (.int .u8 0) 1 Try.underlying53 hi5 HI.out.1 HI.out.2.1 .i64 .i64 _ (fl ps).length rfl rfl rfl (by rw [HI.out.2.2]; omega) (by unfold maxLen; omega) (Nat.le_refl _) ?_; intro w1 hown hgrow; have hb := (Below.refl w.heap.size w).grown hgrow (Nat.le_refl _) (fun k e => by cases e); replace h0 := pw_cell_below hb h0; replace h1 := pw_cell_below hb h1; have HB := Aside0.mk hb; have HO := Aside0.mk hown; clear hb hown hgrow))
  go_loopw [3, 5, 16] (fun v3 v5 v16 wr => ∃ i : Nat, i ≤ ps.length ∧ v16 = .int .i64 i ∧ Aside0 (Kd.R (Kd.int .u8) 5 wr w.heap.size (fun _ => True) v3 (fl (ps.take i))) ∧ Aside0 (Below w.heap.size w wr)) (fun _ _ v16 _ => ps.length - (intOf v16).toNat)
  case atStart => exact ⟨0, Nat.zero_le _, rfl, ⟨Kd.R_of_own (enc := Value.int .u8) (h1 := fun _ => rfl) HO.out (fun _ _ => trivial)⟩, HB⟩
  case round =>
    obtain ⟨i, hi, rfl, HR, HB⟩ := hrel
    by_cases hlt : i < ps.length
    · obtain ⟨l, hl'⟩ : ∃ l, ps[i]? = some l := ⟨_, List.getElem?_eq_getElem hlt⟩
      obtain ⟨ad, B, d, rfl, hc, hld, hC⟩ := HP.out i _ hl'
      replace hc := pw_cell_below HB.out hc
      have HL := Aside0.mk hl'
      have HC := Aside0.mk (Kd.C_below hC HB.out)
      clear hl' hC h0 h1
      go_wp2_with (at_builtin; go_loud (refine Kd.R_append_rows (Kd.int .u8) (w0 := w) w.heap.size rfl (.tmp 20) (.tmp 21) 53 5 (.int .u8 0) 1 rfl Try.underlying53 info5 rfl (by decide) (by omega) u3 (fl (ps.take i)) l _ _ _ (fun _ => True) (fun _ => False) rfl rfl HR.out HC.out (fun _ _ h => h) (fun _ h => h.elim) (fun _ _ => trivial) HB.out HB.out.size (by have := fl_step HL.out; omega) ?_; intro v1 w1 ho hb hg hat; rw [← fl_take HL.out] at ho; replace HR := Aside0.mk ho; replace HB := Aside0.mk hb; clear ho hb hg hat))
      go_roundw
      case rel => exact ⟨i + 1, by omega, by go_num, HR, HB⟩
      case measure => simp [intOf]; omega
    · obtain rfl : i = ps.length := by omega
      have hs := own_string (P := Try.prog) (dst := 9) Try.underlying53 Try.underlying5 Try.underlying9 (Kd.own_of_R HR.out)
      rw [fl_all] at hs
      go_wp2_with fail
      go_ret
      exact ⟨rfl, HB.out⟩
end Go.Proofs.Ytfngcabckfmhnaa.B
/- The walk of search.plain: may all of a string's characters stand in a pattern? -/
namespace Go.Proofs.Ytfngcabckfmhnaa.B
open Go.RowKit Go.Proofs.YtfngcabckfmhnaaW.PrintWords Go.Proofs.YtfngcabckfmhnaaW.PrintLast Go.Proofs.YtfngcabckfmhnaaW.PrintMore Go.Proofs.Ytfngcabckfmhnaa.PA
set_option linter.unusedVariables false
set_option linter.unusedSimpArgs false

theorem ret_bool {a b : Bool} (h : a = b) : Ending.returned (.bool a) = .returned (.bool b) := by rw [h]
theorem ret_int {k : IntKind} {a b : Int} (h : a = b) : Ending.returned (.int k a) = .returned (.int k b) := by rw [h]
theorem ret_string {a b : ByteArray} (h : a = b) : Ending.returned (.string a) = .returned (.string b) := by rw [h]

/-- May this byte stand in a pattern? -/
def okB (b : UInt8) : Bool := 32 ≤ b.toNat && b.toNat ≤ 126
/-- May this string be a pattern's (the empty one too)? -/
def plB (s : ByteArray) : Bool := decide (s.size ≤ 64) && s.data.toList.all okB

theorem size_toList (s : ByteArray) : s.data.toList.length = s.size := data_length s
theorem take_all_succ {s : ByteArray} {k : Nat} (h : k < s.size) : (s.data.toList.take (k + 1)).all okB = ((s.data.toList.take k).all okB && okB (s[k]'h)) := by
  rw [List.take_succ_eq_append_getElem (by rw [size_toList]; exact h)]
  simp only [List.all_append, List.all_cons, List.all_nil, Bool.and_true]
  rfl
theorem all_false_of {s : ByteArray} {k : Nat} (h : k < s.size) (hb : okB (s[k]'h) = false) : s.data.toList.all okB = false := by
  rw [Bool.eq_false_iff]
  intro hc
  rw [List.all_eq_true] at hc
  have := hc (s[k]'h) (by show s.data[k] ∈ _; simp)
  rw [hb] at this
  cases this
theorem all_of_take {s : ByteArray} {k : Nat} (h : ¬ k < s.size) (hb : (s.data.toList.take k).all okB = true) : s.data.toList.all okB = true := by
  rwa [List.take_of_length_le (by rw [size_toList]; omega)] at hb

def PlainAns (s : ByteArray) (w : World) (e : Ending) (w' : World) : Prop := e = .returned (.bool (plB s)) ∧ Below w.heap.size w w'

set_option maxHeartbeats 8000000 in
set_option maxRecDepth 100000 in
theorem plain_any (s : ByteArray) (w : World) : Calls Try.prog 37 #[.string s] w (PlainAns s w) := by
  by_cases hs : (64 : Int) < (s.size : Int)
  · have HR : Aside0 (plB s = false) := ⟨by unfold plB; simp [show ¬ s.size ≤ 64 by omega]⟩
    have c1 := decide_eq_true hs
    clear hs
    go_enter Try.func37, Try.ntmps37
    go_wp2
    go_ret
    exact ⟨ret_bool HR.out.symm, Below.refl _ _⟩
  · have HS := Aside0.mk hs
    have c0 := decide_eq_false hs
    clear hs
    go_enter Try.func37, Try.ntmps37
    go_wp2
    go_loopw [4] (fun v4 wr => ∃ pos : Nat, wr = w.iter s pos ∧ Aside0 ((s.data.toList.take pos).all okB = true) ∧ Aside0 (pos ≤ s.size)) (fun _ wr => s.size - wr.iterPos w.heap.size)
    case atStart => exact ⟨0, rfl, ⟨by simp⟩, ⟨Nat.zero_le _⟩⟩
    case round =>
      clear c0
      obtain ⟨pos, rfl, HG, HP⟩ := hrel
      by_cases hp : pos < s.size
      · by_cases ha : (s[pos]'hp).toNat < 128
        · have hnx : ∀ ty, (Instr.next (.pointer (some ⟨w.heap.size, 0, none⟩)) true ty).run Try.prog (w.iter s pos) = _ := fun ty => run_next_ascii w s pos ty hp ha
          have HT := Aside0.mk (take_all_succ hp)
          have HF := Aside0.mk (@all_false_of s pos hp)
          have HA := Aside0.mk ha
          clear ha
          by_cases c1 : (((s[pos]'hp).toNat : Nat) : Int) < 32
          · have c1' := decide_eq_true c1
            have C1 := Aside0.mk c1
            clear c1
            go_wp2
            go_ret
            refine ⟨?_, (Below.refl _ _).alloc (Nat.le_refl _) _⟩
            exact ret_bool (by unfold plB; rw [HF.out (by unfold okB; have := C1.out; simp; omega)]; simp)
          · have c1' := decide_eq_false c1
            have C1 := Aside0.mk c1
            clear c1
            by_cases c2 : (126 : Int) < (((s[pos]'hp).toNat : Nat) : Int)
            · have c2' := decide_eq_true c2
              have C2 := Aside0.mk c2
              clear c2
              go_wp2
              go_ret
              refine ⟨?_, (Below.refl _ _).alloc (Nat.le_refl _) _⟩
              exact ret_bool (by unfold plB; rw [HF.out (by unfold okB; have := C2.out; simp; omega)]; simp)
            · have c2' := decide_eq_false c2
              have C2 := Aside0.mk c2
              clear c2
              go_wp2
              go_roundw
              case rel => exact ⟨pos + 1, rfl, ⟨by rw [HT.out, HG.out]; unfold okB; have := C1.out; have := C2.out; simp; omega⟩, ⟨by omega⟩⟩
              case measure => simp; omega
        · have hd := decode_high s pos hp (by omega)
          have hnx : ∀ ty, (Instr.next (.pointer (some ⟨w.heap.size, 0, none⟩)) true ty).run Try.prog (w.iter s pos) = _ := fun ty => run_next_any w s pos ty hp
          have c1' : decide (((Utf8.decode s pos).1 : Int) < 32) = false := decide_eq_false (by omega)
          have c2' : decide (126 < ((Utf8.decode s pos).1 : Int)) = true := decide_eq_true (by omega)
          have HF := Aside0.mk (@all_false_of s pos hp)
          have HA := Aside0.mk ha
          clear ha hd
          go_wp2
          go_ret
          refine ⟨?_, (Below.refl _ _).alloc (Nat.le_refl _) _⟩
          exact ret_bool (by unfold plB; rw [HF.out (by unfold okB; have := HA.out; simp; omega)]; simp)
      · have hnx : ∀ ty, (Instr.next (.pointer (some ⟨w.heap.size, 0, none⟩)) true ty).run Try.prog (w.iter s pos) = _ := fun ty => run_next_end w s pos ty hp
        have HT := Aside0.mk (@all_of_take s pos hp)
        go_wp2
        go_ret
        refine ⟨?_, (Below.refl _ _).alloc (Nat.le_refl _) _⟩
        exact ret_bool (by unfold plB; rw [HT.out HG.out]; have := HS.out; simp; omega)
end Go.Proofs.Ytfngcabckfmhnaa.B
/- The walk of the law's own needle: some pattern of 1 to 64 characters. -/
namespace Go.Proofs.Ytfngcabckfmhnaa.B
open Go.RowKit Go.Proofs.YtfngcabckfmhnaaW.PrintWords Go.Proofs.YtfngcabckfmhnaaW.PrintLast Go.Proofs.YtfngcabckfmhnaaW.PrintMore Go.Proofs.Ytfngcabckfmhnaa.PA
set_option linter.unusedVariables false
set_option linter.unusedSimpArgs false

/-- Block B begins with these bytes, and they may be written. -/
def Bts (w : World) (B : Nat) (xs : List Int) : Prop := ∀ j x, xs[j]? = some x → w.cell? ⟨B, j, none⟩ = some (.int .u8 x) ∧ w.frozen? ⟨B, j, none⟩ = false

theorem Bts.set {w : World} {B : Nat} {xs : List Int} (h : Bts w B xs) (i : Nat) (y : Int) : Bts (w.setCell ⟨B, i, none⟩ (.int .u8 y)) B (xs.set i y) := by
  intro j x hj
  rw [List.getElem?_set] at hj
  by_cases hij : i = j
  · subst hij
    rw [if_pos rfl] at hj
    by_cases hl : i < xs.length
    · rw [if_pos hl] at hj
      obtain rfl := Option.some.inj hj
      obtain ⟨h1, h2⟩ := h i _ (List.getElem?_eq_getElem hl)
      exact ⟨World.cell?_setCell_same _ _ _ h1, by rw [World.frozen?_setCell]; exact h2⟩
    · rw [if_neg hl] at hj; cases hj
  · rw [if_neg hij] at hj
    obtain ⟨h1, h2⟩ := h j x hj
    exact ⟨by rw [World.cell?_setCell_other _ _ _ _ (fun e => hij (by injection e))]; exact h1, by rw [World.frozen?_setCell]; exact h2⟩

theorem mem_set_take {P : Int → Prop} {xs : List Int} {i : Nat} {y : Int} (h : ∀ x ∈ xs.take i, P x) (hy : P y) : ∀ x ∈ (xs.set i y).take (i + 1), P x := by
  intro x hx
  obtain ⟨j, hj, rfl⟩ := List.mem_iff_getElem.1 hx
  rw [List.length_take, List.length_set] at hj
  rw [List.getElem_take, List.getElem_set]
  split
  · exact hy
  · exact h _ (List.mem_iff_getElem.2 ⟨j, by rw [List.length_take]; omega, List.getElem_take⟩)
theorem mem_take_succ {P : Int → Prop} {xs : List Int} {i : Nat} {y : Int} (h : ∀ x ∈ xs.take i, P x) (hi : xs[i]? = some y) (hy : P y) : ∀ x ∈ xs.take (i + 1), P x := by
  intro x hx
  rw [List.take_add_one, hi] at hx
  simp only [Option.toList_some, List.mem_append, List.mem_singleton] at hx
  rcases hx with hx | rfl
  · exact h x hx
  · exact hy
theorem mem_set_all {P : Int → Prop} {xs : List Int} {i : Nat} {y : Int} (h : ∀ x ∈ xs, P x) (hy : P y) : ∀ x ∈ xs.set i y, P x := fun x hx => by
  rcases List.mem_or_eq_of_mem_set hx with hx | rfl
  · exact h x hx
  · exact hy
theorem bytesOf_range (s : ByteArray) : ∀ x ∈ bytesOf s, 0 ≤ x ∧ x ≤ 255 := fun x hx => by
  obtain ⟨b, _, rfl⟩ := List.mem_map.1 hx
  have := b.toNat_lt
  omega
theorem bts_made (w : World) (s : ByteArray) (n : Nat) : Bts (Lib.bytesWorld w 5 s) w.heap.size ((bytesOf s).take n) := by
  intro j x hj
  rw [List.getElem?_take] at hj
  split at hj
  · have hl : j < s.size := by have := (List.getElem?_eq_some_iff.1 hj).1; rwa [bytesOf_length] at this
    rw [Lib.bytesWorld_cell _ _ _ _ hl]
    have hl' : j < s.data.toList.length := by rw [data_length]; exact hl
    refine ⟨?_, ?_⟩
    · unfold bytesOf at hj
      rw [List.getElem?_map, List.getElem?_eq_getElem hl'] at hj
      obtain rfl := Option.some.inj hj
      rw [List.getD_eq_getElem?_getD, List.getElem?_eq_getElem hl']
      rfl
    · have hb : j < (Lib.bytesCells w 5 s).size := by unfold Lib.bytesCells; simp; show j < _; have := hl; omega
      unfold World.frozen?
      rw [show (⟨w.heap.size, j, none⟩ : Addr).block = w.heap.size from rfl, Lib.bytesWorld_at_new]
      simp
      omega
  · cases hj
theorem plB_of {xs : List Int} (hl : xs.length ≤ 64) (h : ∀ x ∈ xs, 32 ≤ x ∧ x ≤ 126) : plB (strOfNums xs) = true := by
  unfold plB
  rw [strOfNums_size, strOfNums_data]
  simp only [hl, decide_true, Bool.true_and, List.all_eq_true, List.mem_map]
  rintro _ ⟨x, hx, rfl⟩
  obtain ⟨h1, h2⟩ := h x hx
  unfold okB
  rw [UInt8.toNat_ofNat_of_lt' (by show x.toNat < 256; omega)]
  simp
  omega

def NeedleAns (w : World) (e : Ending) (w' : World) : Prop := ∃ p : ByteArray, e = .returned (.string p) ∧ plB p = true ∧ 1 ≤ p.size ∧ Below w.heap.size w w'

set_option maxHeartbeats 8000000 in
set_option maxRecDepth 100000 in
theorem needle_any (s : ByteArray) (w : World) (hs : s.size ≤ 140737488351232) : Calls Try.prog 13 #[.string s] w (NeedleAns w) := by
  have HS := Aside0.mk hs
  clear hs
  have kb := fun W => print_bytes (P := Try.prog) 9 53 5 Try.underlying9 Try.underlying53 Try.underlying5 s W
  by_cases hl : (64 : Int) < (s.size : Int)
  · have c1 := decide_eq_true hl
    have C0 := Aside0.mk hl
    have hg : (64 : Int) ≤ (grownCap w s.size 0 5 : Int) := by have := grownCap_ge w s.size 0 5; omega
    clear hl
    go_enter Try.func13, Try.ntmps13
    go_wp2
    go_loopw [4] (fun v4 wr => ∃ (i : Nat) (xs : List Int), v4 = .int .i64 i ∧ i ≤ 64 ∧ Aside0 (Bts wr w.heap.size xs) ∧ Aside0 (xs.length = 64) ∧ Aside0 (∀ x ∈ xs.take i, 32 ≤ x ∧ x ≤ 126) ∧ Aside0 (∀ x ∈ xs, 0 ≤ x ∧ x ≤ 255) ∧ Aside0 (Below w.heap.size w wr)) (fun v4 _ => 64 - (intOf v4).toNat)
    case atStart => exact ⟨0, _, rfl, Nat.zero_le _, ⟨bts_made w s 64⟩, ⟨by rw [List.length_take, bytesOf_length]; have := C0.out; omega⟩, ⟨by simp⟩, ⟨fun x hx => bytesOf_range s x (List.mem_of_mem_take hx)⟩, ⟨bytes_below (Below.refl _ _) (Nat.le_refl _) _ _⟩⟩
    case round =>
      clear c1
      obtain ⟨i, xs, rfl, hi, HB, HN, HG, HU, HW⟩ := hrel
      by_cases hlt : (i : Int) < 64
      · have c2 := decide_eq_true hlt
        obtain ⟨x, hx⟩ : ∃ x, xs[i]? = some x := ⟨_, List.getElem?_eq_getElem (by rw [HN.out]; omega)⟩
        obtain ⟨hc, hf⟩ := HB.out i x hx
        have HX := Aside0.mk hx
        obtain ⟨hu0, hu1⟩ := HU.out x (List.mem_of_getElem? hx)
        clear hx
        by_cases c3 : x < 32
        · have c3' := decide_eq_true c3
          go_wp2
          go_roundw
          case rel => exact ⟨i + 1, xs.set i (32 + x % 95), by go_num, by omega, ⟨HB.out.set i _⟩, ⟨by rw [List.length_set]; exact HN.out⟩, ⟨mem_set_take HG.out (by omega)⟩, ⟨mem_set_all HU.out (by omega)⟩, ⟨HW.out.setCell (Nat.le_refl _) _⟩⟩
          case measure => simp [intOf]; omega
        · have c3' := decide_eq_false c3
          by_cases c4 : 126 < x
          · have c4' := decide_eq_true c4
            go_wp2
            go_roundw
            case rel => exact ⟨i + 1, xs.set i (32 + x % 95), by go_num, by omega, ⟨HB.out.set i _⟩, ⟨by rw [List.length_set]; exact HN.out⟩, ⟨mem_set_take HG.out (by omega)⟩, ⟨mem_set_all HU.out (by omega)⟩, ⟨HW.out.setCell (Nat.le_refl _) _⟩⟩
            case measure => simp [intOf]; omega
          · have c4' := decide_eq_false c4
            go_wp2
            go_roundw
            case rel => exact ⟨i + 1, xs, by go_num, by omega, HB, HN, ⟨mem_take_succ HG.out HX.out (by omega)⟩, HU, HW⟩
            case measure => simp [intOf]; omega
      · have c2 := decide_eq_false hlt
        have hA : ∀ x ∈ xs, 32 ≤ x ∧ x ≤ 126 := fun x hx => HG.out x (by rw [List.take_of_length_le (by rw [HN.out]; omega)]; exact hx)
        have HA := Aside0.mk hA
        clear hA
        have hs := run_convert_bytes_arg (P := Try.prog) wr 53 5 Try.underlying53 Try.underlying5 w.heap.size 0 64 (grownCap w s.size 0 5) xs HN.out (fun j hj => by rw [Nat.zero_add]; exact (HB.out j _ (by rw [List.getD_eq_getElem?_getD, List.getElem?_eq_getElem (by rw [HN.out]; exact hj)]; rfl)).1) 9 Try.underlying9
        go_wp2
        go_ret
        exact ⟨_, rfl, plB_of (by rw [HN.out]; have := C0.out; omega) HA.out, by rw [strOfNums_size, HN.out]; have := C0.out; omega, HW.out⟩
  · have c1 := decide_eq_false hl
    have C0 := Aside0.mk hl
    have hsz : s.size ≤ 64 := by omega
    clear hl
    go_enter Try.func13, Try.ntmps13
    go_wp2
    go_loopw [4] (fun v4 wr => ∃ (i : Nat) (xs : List Int), v4 = .int .i64 i ∧ i ≤ s.size ∧ Aside0 (Bts wr w.heap.size xs) ∧ Aside0 (xs.length = s.size) ∧ Aside0 (∀ x ∈ xs.take i, 32 ≤ x ∧ x ≤ 126) ∧ Aside0 (∀ x ∈ xs, 0 ≤ x ∧ x ≤ 255) ∧ Aside0 (Below w.heap.size w wr)) (fun v4 _ => s.size - (intOf v4).toNat)
    case atStart => exact ⟨0, _, rfl, Nat.zero_le _, ⟨bts_made w s s.size⟩, ⟨by rw [List.length_take, bytesOf_length]; have := C0.out; omega⟩, ⟨by simp⟩, ⟨fun x hx => bytesOf_range s x (List.mem_of_mem_take hx)⟩, ⟨bytes_below (Below.refl _ _) (Nat.le_refl _) _ _⟩⟩
    case round =>
      clear c1
      obtain ⟨i, xs, rfl, hi, HB, HN, HG, HU, HW⟩ := hrel
      by_cases hlt : (i : Int) < (s.size : Int)
      · have c2 := decide_eq_true hlt
        obtain ⟨x, hx⟩ : ∃ x, xs[i]? = some x := ⟨_, List.getElem?_eq_getElem (by rw [HN.out]; omega)⟩
        obtain ⟨hc, hf⟩ := HB.out i x hx
        have HX := Aside0.mk hx
        obtain ⟨hu0, hu1⟩ := HU.out x (List.mem_of_getElem? hx)
        clear hx
        by_cases c3 : x < 32
        · have c3' := decide_eq_true c3
          go_wp2
          go_roundw
          case rel => exact ⟨i + 1, xs.set i (32 + x % 95), by go_num, by omega, ⟨HB.out.set i _⟩, ⟨by rw [List.length_set]; exact HN.out⟩, ⟨mem_set_take HG.out (by omega)⟩, ⟨mem_set_all HU.out (by omega)⟩, ⟨HW.out.setCell (Nat.le_refl _) _⟩⟩
          case measure => simp [intOf]; omega
        · have c3' := decide_eq_false c3
          by_cases c4 : 126 < x
          · have c4' := decide_eq_true c4
            go_wp2
            go_roundw
            case rel => exact ⟨i + 1, xs.set i (32 + x % 95), by go_num, by omega, ⟨HB.out.set i _⟩, ⟨by rw [List.length_set]; exact HN.out⟩, ⟨mem_set_take HG.out (by omega)⟩, ⟨mem_set_all HU.out (by omega)⟩, ⟨HW.out.setCell (Nat.le_refl _) _⟩⟩
            case measure => simp [intOf]; omega
          · have c4' := decide_eq_false c4
            go_wp2
            go_roundw
            case rel => exact ⟨i + 1, xs, by go_num, by omega, HB, HN, ⟨mem_take_succ HG.out HX.out (by omega)⟩, HU, HW⟩
            case measure => simp [intOf]; omega
      · have c2 := decide_eq_false hlt
        have hA : ∀ x ∈ xs, 32 ≤ x ∧ x ≤ 126 := fun x hx => HG.out x (by rw [List.take_of_length_le (by rw [HN.out]; omega)]; exact hx)
        have HA := Aside0.mk hA
        clear hA
        have hs := run_convert_bytes_arg (P := Try.prog) wr 53 5 Try.underlying53 Try.underlying5 w.heap.size 0 s.size (grownCap w s.size 0 5) xs HN.out (fun j hj => by rw [Nat.zero_add]; exact (HB.out j _ (by rw [List.getD_eq_getElem?_getD, List.getElem?_eq_getElem (by rw [HN.out]; exact hj)]; rfl)).1) 9 Try.underlying9
        by_cases h0 : (s.size : Int) = 0
        · have c5 : ((s.size : Int) == 0) = true := by simpa using h0
          clear h0
          go_wp2
          go_ret
          exact ⟨_, rfl, by decide, by decide, HW.out⟩
        · have c5 : ((s.size : Int) == 0) = false := by simpa using h0
          have C5 := Aside0.mk h0
          clear h0
          go_wp2
          go_ret
          exact ⟨_, rfl, plB_of (by rw [HN.out]; have := C0.out; omega) HA.out, by rw [strOfNums_size, HN.out]; have := C5.out; omega, HW.out⟩
end Go.Proofs.Ytfngcabckfmhnaa.B
