/- SearchNext: the walk of the law: whatever the input, it returns true, and what was there stays. -/
import Derived.Test.YtfngcabckfmhnaaC1
namespace Go.Proofs.Ytfngcabckfmhnaa.B
open Go.RowKit Go.Proofs.YtfngcabckfmhnaaW.PrintWords Go.Proofs.YtfngcabckfmhnaaW.PrintLast Go.Proofs.YtfngcabckfmhnaaW.PrintMore Go.Proofs.Ytfngcabckfmhnaa.PA
set_option linter.unusedVariables false
set_option linter.unusedSimpArgs false

/-- The first of them from q on, or -1. -/
def fge (L : List Nat) (q : Int) : Int := fst1 (L.filter fun (j : Nat) => decide (q ≤ (j : Int)))
def gt1 (L : List Nat) (i : Nat) : Int := match L[i]? with
  | some a => (a : Int)
  | none => -1
def lst (L : List Nat) : Nat → Int
  | 0 => -1
  | i + 1 => gt1 L i

theorem gt1_some {L : List Nat} {i : Nat} (h : i < L.length) : gt1 L i = ((L[i]'h : Nat) : Int) := by unfold gt1; rw [List.getElem?_eq_getElem h]
theorem gt1_none {L : List Nat} {i : Nat} (h : L.length ≤ i) : gt1 L i = -1 := by unfold gt1; rw [List.getElem?_eq_none h]
theorem places_sorted (s p : ByteArray) : (places s p).Pairwise (· < ·) := by
  unfold places
  exact List.Pairwise.filter _ (List.pairwise_lt_range' (s := 0) (n := s.size))
theorem places_lt (s p : ByteArray) : ∀ a ∈ places s p, a < s.size := fun a ha => by
  unfold places at ha
  have := (List.mem_filter.1 ha).1
  rw [List.mem_range'_1] at this
  omega
theorem plc_fge (s p : ByteArray) (hp : 1 ≤ p.size) (q : Int) : fst1 (plc s p q.toNat false) = fge (places s p) q := by
  unfold fge
  rw [plc_from s p hp]
  congr 1
  refine List.filter_congr fun i _ => ?_
  rw [Bool.eq_iff_iff, decide_eq_true_iff, decide_eq_true_iff]
  omega
theorem fge_drop {L : List Nat} {i : Nat} (h : i < L.length) (q : Int) : fge (L.drop i) q = if q ≤ gt1 L i then gt1 L i else fge (L.drop (i + 1)) q := by
  unfold fge
  rw [List.drop_eq_getElem_cons h, List.filter_cons, gt1_some h]
  by_cases hq : q ≤ ((L[i]'h : Nat) : Int)
  · rw [if_pos (by simpa using hq), if_pos hq]; rfl
  · rw [if_neg (by simpa using hq), if_neg hq]
theorem fge_first {L : List Nat} {q : Int} (h : ∀ a ∈ L, q ≤ (a : Int)) : fge L q = gt1 L 0 := by
  unfold fge
  rw [List.filter_eq_self.2 (fun a ha => by simpa using h a ha)]
  cases L <;> rfl
theorem fge_lst {L : List Nat} (hs : L.Pairwise (· < ·)) : ∀ i, i ≤ L.length → fge L (lst L i + 1) = gt1 L i := by
  intro i hi
  have key : fge L (lst L i + 1) = fge (L.drop i) (lst L i + 1) := by
    unfold fge
    obtain ⟨q, hq⟩ : ∃ q, q = lst L i + 1 := ⟨_, rfl⟩
    rw [← hq]
    have e : L.filter (fun (j : Nat) => decide (q ≤ (j : Int))) = ((L.take i).filter fun (j : Nat) => decide (q ≤ (j : Int))) ++ (L.drop i).filter fun (j : Nat) => decide (q ≤ (j : Int)) := by
      rw [← List.filter_append, List.take_append_drop]
    rw [e, hq, List.filter_eq_nil_iff.2 ?_, List.nil_append]
    intro a ha
    cases i with
    | zero => simp at ha
    | succ i =>
      have hil : i < L.length := by omega
      obtain ⟨j, hj, rfl⟩ := List.mem_iff_getElem.1 ha
      rw [List.length_take] at hj
      rw [List.getElem_take]
      simp only [lst, gt1_some hil, decide_eq_true_eq]
      rcases Nat.lt_or_ge j i with h | h
      · have := List.pairwise_iff_getElem.1 hs j i (by omega) hil h; omega
      · obtain rfl : j = i := by omega
        omega
  rw [key, fge_first]
  · unfold gt1
    rw [List.getElem?_drop, Nat.add_zero]
  · intro a ha
    obtain ⟨j, hj, rfl⟩ := List.mem_iff_getElem.1 ha
    rw [List.length_drop] at hj
    rw [List.getElem_drop]
    cases i with
    | zero => simp only [lst]; omega
    | succ i =>
      have hil : i < L.length := by omega
      simp only [lst, gt1_some hil]
      have := List.pairwise_iff_getElem.1 hs i (i + 1 + j) hil (by omega) (by omega)
      omega

theorem places_length (s p : ByteArray) : (places s p).length ≤ s.size := by
  unfold places
  have := List.length_filter_le (mt s p) (List.range' 0 s.size)
  rw [List.length_range'] at this
  exact this
theorem gt1_bounds {L : List Nat} {B : Nat} (h : ∀ a ∈ L, a ≤ B) (i : Nat) : -1 ≤ gt1 L i ∧ gt1 L i ≤ B := by
  by_cases hi : i < L.length
  · rw [gt1_some hi]
    have := h _ (List.getElem_mem hi)
    omega
  · rw [gt1_none (by omega)]
    omega
theorem lst_bounds {L : List Nat} {B : Nat} (h : ∀ a ∈ L, a ≤ B) (i : Nat) : -1 ≤ lst L i ∧ lst L i ≤ B := by
  cases i with
  | zero => simp only [lst]; omega
  | succ i => exact gt1_bounds h i

def TrueAns (w : World) (e : Ending) (w' : World) : Prop := e = .returned (.bool true) ∧ Below w.heap.size w w'

/-- A row of numbers that is read: element i. -/
theorem atI {W : World} {A : Option Addr} {L : List Nat} (h : Kd.C (Kd.int .i64) W A L.length (L.map fun (j : Nat) => (j : Int))) {i : Nat} (hi : i < L.length) :
    ∃ ad, A = some ad ∧ W.cell? (ad.add i) = some (.int .i64 (gt1 L i)) := by
  obtain ⟨ad, e, hc⟩ := Kd.at_int h (i : Int) (by omega) (by omega)
  refine ⟨ad, e, ?_⟩
  rw [Int.toNat_natCast] at hc
  rw [hc]
  unfold rd
  rw [List.getD_eq_getElem?_getD, Int.toNat_natCast, gt1_some hi, List.getElem?_map, List.getElem?_eq_getElem hi]
  rfl

set_option maxHeartbeats 16000000 in
set_option maxRecDepth 100000 in
theorem next_walk (text pattern : ByteArray) (pos : Int) (w : World) (hpt : pattern.size ≤ 140737488351232) :
    Calls Try.prog 3 #[.string text, .string pattern, .int .i64 pos] w (TrueAns w) := by
  obtain ⟨n, hn⟩ : ∃ n, n = min text.size 1500 := ⟨_, rfl⟩
  obtain ⟨ke, hke⟩ := elems_pure text 1500 (by omega)
  rw [← hn] at hke
  have hn' : n ≤ 1500 := by omega
  have HN := Aside0.mk hn'
  obtain ⟨xs, hxs⟩ : ∃ xs, xs = elemsL text n := ⟨_, rfl⟩
  have HXL : Aside0 (xs.length = n) := ⟨by rw [hxs]; exact elemsL_length _ _⟩
  rw [← hxs] at hke
  have HKE := Aside0.mk hke
  clear hke hn hn' hxs
  obtain ⟨kt, hkt⟩ := text_pure xs (by rw [HXL.out]; have := HN.out; omega)
  obtain ⟨s, hs⟩ : ∃ s, s = strOfNums (xs.map (·.f0)) := ⟨_, rfl⟩
  have HSZ : Aside0 (s.size = n) := ⟨by rw [hs, strOfNums_size, List.length_map]; exact HXL.out⟩
  rw [← hs] at hkt
  have HKT := Aside0.mk hkt
  have HS := Aside0.mk hs
  clear hkt hs
  go_enter Try.func3, Try.ntmps3
  go_wp2_with (first
    | (go_at_call 11; refine (jotterlaw24_elems.calls ke text 1500 xs _ HKE.out).mono ?_; rintro e w1 ⟨v0, rfl, hr1, hb1⟩; obtain ⟨A0, c0, rfl, hc0, hC0⟩ := Kd.R_reads hr1; have HC0 := Aside0.mk hC0; have Hc0 := Aside0.mk hc0; have HB1 := Aside0.mk hb1; clear hr1 hc0 hC0 hb1)
    | (go_at_call 12; refine (new_any A0 c0 xs w1 HC0.out Hc0.out (by rw [HXL.out]; have := HN.out; omega)).mono ?_; rintro e w2 ⟨g, r, ps, rfl, hi2, hf2, hg2, hr2, _, hb2⟩; have HI2 := Aside0.mk hi2; have HF2 := Aside0.mk hf2; have HB2 := Aside0.mk hb2; clear hi2 hf2 hg2 hr2 hb2)
    | (go_at_call 13; refine (needle_any pattern w2 hpt).mono ?_; rintro e w3 ⟨p, rfl, hp1, hp2, hb3⟩; have HP1 := Aside0.mk hp1; have HP2 := Aside0.mk hp2; have HB3 := Aside0.mk hb3; clear hp1 hp2 hb3)
    | (go_at_call 14; refine (find_ok w3 g r ps (HI2.out.below HB3.out) (by rw [HF2.out, List.length_map, HXL.out]; have := HN.out; omega) p HP2.out HP1.out).mono ?_; rintro e w4 ⟨v, rfl, hv, hb4⟩; rw [HF2.out, ← HS.out, plc_all s p HP2.out] at hv; obtain ⟨kr, hkr⟩ := right_pure s p (by rw [HSZ.out]; have := HN.out; omega) HP2.out (plB_size HP1.out); have hsrt := places_sorted s p; have hltp := places_lt s p; obtain ⟨L, hL⟩ : ∃ L, L = places s p := ⟨_, rfl⟩; rw [← hL] at hv hsrt hltp hkr; have HKR := Aside0.mk hkr; have HL := Aside0.mk hL; have HSRT := Aside0.mk hsrt; have HLT := Aside0.mk hltp; clear hkr hL hsrt hltp; obtain ⟨AV, cV, rfl, hcV, hCV⟩ := Kd.R_reads hv; rw [List.length_map] at hcV hCV ⊢; have HCV := Aside0.mk hCV; have HcV := Aside0.mk hcV; have HB4 := Aside0.mk hb4; clear hv hb4 hcV hCV)
    | (go_at_call 16; refine (doc_Text.calls kt A0 c0 xs s w4 (Kd.C_below (Kd.C_below (Kd.C_below HC0.out HB2.out) HB3.out) HB4.out) Hc0.out HKT.out).mono ?_; rintro e w5 ⟨rfl, hb5⟩; have HB5 := Aside0.mk hb5; clear hb5)
    | (go_at_call 15; have qr := jotterlaw24_right.calls kr s p AV cV (L.map fun (j : Nat) => (j : Int)) true w5 (by rw [List.length_map]; exact Kd.C_below HCV.out HB5.out) (by rw [List.length_map]; exact HcV.out) HKR.out; rw [List.length_map] at qr; refine qr.mono ?_; clear qr; rintro e w6 ⟨rfl, ⟨nd, rfl⟩⟩))
  have HI4 := Aside0.mk ((HI2.out.below HB3.out).below HB4.out)
  have HF4 : Aside0 ((fl ps).length ≤ 5864062014000) := ⟨by rw [HF2.out, List.length_map, HXL.out]; have := HN.out; omega⟩
  have HT : Aside0 (strOfNums (fl ps) = s) := ⟨by rw [HF2.out, ← HS.out]⟩
  have HLl : Aside0 (L.length ≤ 1500) := ⟨by rw [HL.out]; have := places_length s p; have := HSZ.out; have := HN.out; omega⟩
  have hll : (L.length : Int) ≤ 1500 := by have := HLl.out; omega
  have HW4 : Aside0 (Below w.heap.size w w4) := ⟨below_then (below_then (below_then HB1.out HB1.out.size HB2.out) (by have := HB1.out.size; have := HB2.out.size; omega) HB3.out) (by have := HB1.out.size; have := HB2.out.size; have := HB3.out.size; omega) HB4.out⟩
  have HW5 : Aside0 (Below w4.heap.size w4 (w5.drewN nd)) := ⟨pw_below_drewN HB5.out nd⟩
  clear HB1 HB2 HB3 HB4 HB5 HI2 HKE HKT HKR HC0 Hc0
  go_loopw [12, 13] (fun v12 v13 wr => ∃ i : Nat, v13 = .int .i64 (i : Int) ∧ (i : Int) ≤ (L.length : Int) + 1 ∧ v12 = .int .i64 (lst L i) ∧ Aside0 (Below w4.heap.size w4 wr)) (fun _ v13 _ => L.length + 2 - (intOf v13).toNat)
  case atStart => exact ⟨0, rfl, by omega, rfl, HW5⟩
  case round =>
    clear HW5
    obtain ⟨i, rfl, hi, rfl, HB⟩ := hrel
    obtain ⟨hlo, hhi⟩ := lst_bounds (B := 1500) (fun a ha => by have := HLT.out a ha; have := HSZ.out; have := HN.out; omega) i
    by_cases hle : (i : Int) ≤ (L.length : Int)
    · have c1 := decide_eq_true hle
      by_cases hlt : (i : Int) < (L.length : Int)
      · have c2 := decide_eq_true hlt
        obtain ⟨ad, rfl, hc⟩ := atI HCV.out (i := i) (by omega)
        replace hc := pw_cell_below HB.out hc
        go_wp2_with (go_at_call 17; refine (next_ok wr g r ps (HI4.out.below HB.out) HF4.out p HP2.out HP1.out (lst L i + 1)).mono ?_; rintro e w7 ⟨rfl, hb7⟩; rw [HT.out, plc_fge s p HP2.out, ← HL.out, fge_lst HSRT.out i (by omega)]; replace hc := pw_cell_below hb7 hc; replace HB := Aside0.mk (below_then HB.out HB.out.size hb7); clear hb7)
        go_roundw
        case rel => exact ⟨i + 1, by go_num, by omega, rfl, HB⟩
        case measure => simp [intOf]; omega
      · have c2 := decide_eq_false hlt
        have HE : Aside0 (gt1 L i = -1) := ⟨gt1_none (by omega)⟩
        go_wp2_with (go_at_call 17; refine (next_ok wr g r ps (HI4.out.below HB.out) HF4.out p HP2.out HP1.out (lst L i + 1)).mono ?_; rintro e w7 ⟨rfl, hb7⟩; rw [HT.out, plc_fge s p HP2.out, ← HL.out, fge_lst HSRT.out i (by omega), HE.out]; replace HB := Aside0.mk (below_then HB.out HB.out.size hb7); clear hb7)
        go_roundw
        case rel => exact ⟨i + 1, by go_num, by omega, by rw [show lst L (i + 1) = gt1 L i from rfl, HE.out], HB⟩
        case measure => simp [intOf]; omega
    · have c1 := decide_eq_false hle
      clear hlo hhi
      go_wp2
      go_loopw [17, 18] (fun v17 v18 wr => ∃ (m : Nat) (x : Int), v18 = .int .i64 x ∧ Aside0 (x = (m : Int) - 1) ∧ (m : Int) ≤ (L.length : Int) ∧ v17 = .int .i64 (fge (L.drop m) pos) ∧ Aside0 (Below w4.heap.size w4 wr)) (fun _ v18 _ => (intOf v18 + 1).toNat)
      case atStart => exact ⟨L.length, _, rfl, ⟨rfl⟩, by omega, by rw [List.drop_length]; rfl, HB⟩
      case round =>
        clear HB c1
        obtain ⟨m, x, rfl, HX, hm, rfl, HB⟩ := hrel
        cases m with
        | zero =>
          obtain rfl : x = -1 := by have := HX.out; omega
          go_wp2_with (go_at_call 17; refine (next_ok wr g r ps (HI4.out.below HB.out) HF4.out p HP2.out HP1.out pos).mono ?_; rintro e w7 ⟨rfl, hb7⟩; rw [HT.out, plc_fge s p HP2.out, ← HL.out]; replace HB := Aside0.mk (below_then HB.out HB.out.size hb7); clear hb7)
          go_ret
          exact ⟨ret_bool (by simp), below_then HW4.out HW4.out.size HB.out⟩
        | succ j =>
          obtain rfl : x = (j : Int) := by have := HX.out; omega
          obtain ⟨ad, rfl, hc⟩ := atI HCV.out (i := j) (by omega)
          replace hc := pw_cell_below HB.out hc
          have HF := Aside0.mk (fge_drop (L := L) (i := j) (by omega) pos)
          have b0 : (j : Int) < (L.length : Int) := by omega
          by_cases hp : pos ≤ gt1 L j
          · have c2 := decide_eq_true hp
            have HP := Aside0.mk hp
            clear hp
            go_wp2
            go_roundw
            case rel => exact ⟨j, (j : Int) - 1, rfl, ⟨rfl⟩, by omega, by rw [HF.out, if_pos HP.out], HB⟩
            case measure => simp [intOf]
          · have c2 := decide_eq_false hp
            have HP := Aside0.mk hp
            clear hp
            go_wp2
            go_roundw
            case rel => exact ⟨j, (j : Int) - 1, rfl, ⟨rfl⟩, by omega, by rw [HF.out, if_neg HP.out], HB⟩
            case measure => simp [intOf]
end Go.Proofs.Ytfngcabckfmhnaa.B
