/- The walks of search.Index.Find and Next. -/
import Derived.Test.YtfngcabckfmhnaaB5
namespace Go.Proofs.Ytfngcabckfmhnaa.B
open Go.RowKit Go.Proofs.YtfngcabckfmhnaaW.PrintWords Go.Proofs.YtfngcabckfmhnaaW.PrintLast Go.Proofs.YtfngcabckfmhnaaW.PrintMore Go.Proofs.Ytfngcabckfmhnaa.PA
set_option linter.unusedVariables false
set_option linter.unusedSimpArgs false

theorem plB_size {p : ByteArray} (h : plB p = true) : p.size ≤ 64 := by
  unfold plB at h
  simp only [Bool.and_eq_true, decide_eq_true_eq] at h
  exact h.1

/-- A row of these numbers, new since w. -/
def NRow (w w' : World) (v : Value) (l : List Nat) : Prop := Kd.R (Kd.int .i64) 3 w' w.heap.size (fun _ => True) v (l.map fun (j : Nat) => (j : Int))
def FindAns (w : World) (l : List Nat) (e : Ending) (w' : World) : Prop := ∃ v, e = .returned (.tuple #[v, .int .i64 0]) ∧ NRow w w' v l ∧ Below w.heap.size w w'
def FindBad (w : World) (e : Ending) (w' : World) : Prop := e = .returned (.tuple #[.slice none 0 0, .int .i64 240]) ∧ Below w.heap.size w w'
/-- The first of them, or -1. -/
def fst1 : List Nat → Int
  | [] => -1
  | a :: _ => a
def NextAns (w : World) (l : List Nat) (e : Ending) (w' : World) : Prop := e = .returned (.tuple #[.int .i64 (fst1 l), .int .i64 0]) ∧ Below w.heap.size w w'
def NextBad (w : World) (e : Ending) (w' : World) : Prop := e = .returned (.tuple #[.int .i64 0, .int .i64 240]) ∧ Below w.heap.size w w'

theorem toList_ne {p : ByteArray} (h : 1 ≤ p.size) : p.toList.isEmpty = false := by
  rw [ByteArray.toList_eq]
  have := size_toList p
  cases hc : p.data.toList with
  | nil => rw [hc] at this; simp at this; omega
  | cons => rfl
theorem toList_em {p : ByteArray} (h : p.size = 0) : p.toList.isEmpty = true := by
  rw [ByteArray.toList_eq]
  have := size_toList p
  cases hc : p.data.toList with
  | nil => rfl
  | cons => rw [hc] at this; simp at this; omega

set_option maxHeartbeats 8000000 in
set_option maxRecDepth 100000 in
theorem find_ok (w : World) (g : Nat) (r : Option Nat) (ps : List (List Int)) (h : Idx w g r ps) (hn : (fl ps).length ≤ 5864062014000) (p : ByteArray) (hp : 1 ≤ p.size) (hpl : plB p = true) :
    Calls Try.prog 14 #[.pointer (some ⟨g, 0, none⟩), .string p] w (FindAns w (plc (strOfNums (fl ps)) p 0 false)) := by
  have HI := Aside0.mk h
  have HN := Aside0.mk hn
  have HP := Aside0.mk hp
  have HPL := Aside0.mk hpl
  have hne := toList_ne hp
  clear h hn hp hpl
  go_enter Try.func14, Try.ntmps14
  go_wp2_with (first
    | (go_at_call 37; refine (plain_any p _).mono ?_; rintro e w1 ⟨rfl, hb1⟩; rw [HPL.out]; have HB := Aside0.mk hb1; clear hb1)
    | (go_at_call 38; refine (places_any w1 g r ps (HI.out.below HB.out) HN.out p HP.out (plB_size HPL.out) 0 (by omega) false).mono ?_; rintro e w2 ⟨v, rfl, hv, hb2⟩; have HV := Aside0.mk hv; have HB2 := Aside0.mk hb2; clear hv hb2))
  go_ret2
  exact ⟨v, rfl, Kd.R_lower HV.out HB.out.size, below_then HB.out HB.out.size HB2.out⟩
set_option maxHeartbeats 8000000 in
set_option maxRecDepth 100000 in
theorem find_bad (w : World) (a : Value) (p : ByteArray) (hpl : plB p = false ∨ p.size = 0) :
    Calls Try.prog 14 #[a, .string p] w (FindBad w) := by
  by_cases hp : p.size = 0
  · have hne := toList_em hp
    clear hpl hp
    go_enter Try.func14, Try.ntmps14
    go_wp2
    go_ret2
    exact ⟨rfl, Below.refl _ _⟩
  · have HPL := Aside0.mk (hpl.resolve_right hp)
    have hne := toList_ne (p := p) (by omega)
    clear hpl hp
    go_enter Try.func14, Try.ntmps14
    go_wp2_with (go_at_call 37; refine (plain_any p _).mono ?_; rintro e w1 ⟨rfl, hb1⟩; rw [HPL.out]; have HB := Aside0.mk hb1; clear hb1)
    go_ret2
    exact ⟨rfl, HB.out⟩

theorem nrow_first {W : World} {B : Nat} {v : Value} {a : Nat} {l : List Nat} (h : Kd.R (Kd.int .i64) 3 W B (fun _ => True) v ((a :: l).map fun (j : Nat) => (j : Int))) :
    ∃ b c, v = .slice (some ⟨b, 0, none⟩) (l.length + 1) c ∧ W.cell? ⟨b, 0, none⟩ = some (.int .i64 (a : Int)) := by
  obtain ⟨b, c, rfl, _, _, _⟩ := Kd.R_form h (by simp)
  refine ⟨b, c, by simp, ?_⟩
  obtain ⟨_, _, hC⟩ := Kd.R_reads' h
  obtain ⟨ad, e, hc⟩ := Kd.at_int hC 0 (by omega) (by simp)
  cases e
  rw [show ((0 : Int)).toNat = 0 from rfl] at hc
  have : (⟨b, 0, none⟩ : Addr).add 0 = ⟨b, 0, none⟩ := add_plain b 0
  rw [this] at hc
  exact hc

theorem plc_past {s p : ByteArray} {q : Nat} (hp : 1 ≤ p.size) (h : s.size < q) : plc s p q false = [] := by
  unfold plc
  rw [show s.size + 1 - p.size - q = 0 by omega]
  rfl

set_option maxHeartbeats 8000000 in
set_option maxRecDepth 100000 in
theorem next_ok (w : World) (g : Nat) (r : Option Nat) (ps : List (List Int)) (h : Idx w g r ps) (hn : (fl ps).length ≤ 5864062014000) (p : ByteArray) (hp : 1 ≤ p.size) (hpl : plB p = true) (pos : Int) :
    Calls Try.prog 17 #[.pointer (some ⟨g, 0, none⟩), .string p, .int .i64 pos] w (NextAns w (plc (strOfNums (fl ps)) p pos.toNat false)) := by
  have HI := Aside0.mk h
  have HN := Aside0.mk hn
  have HP := Aside0.mk hp
  have HPL := Aside0.mk hpl
  have hne := toList_ne hp
  obtain ⟨A, c, h0, h1, hl, hps⟩ := h.open_
  clear h hn hp hpl hps hl
  by_cases hgt : ((fl ps).length : Int) < pos
  · have c1 := decide_eq_true hgt
    have HE : Aside0 (plc (strOfNums (fl ps)) p pos.toNat false = []) := ⟨plc_past HP.out (by rw [strOfNums_size]; omega)⟩
    rw [HE.out]
    go_enter Try.func17, Try.ntmps17
    go_wp2_with (go_at_call 37; refine (plain_any p _).mono ?_; rintro e w1 ⟨rfl, hb1⟩; rw [HPL.out]; replace h0 := pw_cell_below hb1 h0; replace h1 := pw_cell_below hb1 h1; have HB := Aside0.mk hb1; clear hb1)
    go_ret2
    exact ⟨rfl, HB.out⟩
  · have c1 := decide_eq_false hgt
    have HG := Aside0.mk hgt
    obtain ⟨L, hL⟩ : ∃ L, plc (strOfNums (fl ps)) p pos.toNat false = L := ⟨_, rfl⟩
    rw [hL]
    have HL := Aside0.mk hL
    clear hL hgt
    cases L with
    | nil =>
      go_enter Try.func17, Try.ntmps17
      go_wp2_with (first
        | (go_at_call 37; refine (plain_any p _).mono ?_; rintro e w1 ⟨rfl, hb1⟩; rw [HPL.out]; replace h0 := pw_cell_below hb1 h0; replace h1 := pw_cell_below hb1 h1; have HB := Aside0.mk hb1; clear hb1)
        | (go_at_call 38; refine (places_any w1 g r ps (HI.out.below HB.out) HN.out p HP.out (plB_size HPL.out) pos (by have := HG.out; have := HN.out; omega) false).mono ?_; rintro e w2 ⟨v, rfl, hv, hb2⟩; rw [HL.out] at hv; have HV := Aside0.mk hv; have HB2 := Aside0.mk hb2; clear hv hb2; obtain ⟨AV, cV, rfl⟩ := Kd.R_slice HV.out))
      go_ret2
      exact ⟨rfl, below_then HB.out HB.out.size HB2.out⟩
    | cons a l =>
      go_enter Try.func17, Try.ntmps17
      go_wp2_with (first
        | (go_at_call 37; refine (plain_any p _).mono ?_; rintro e w1 ⟨rfl, hb1⟩; rw [HPL.out]; replace h0 := pw_cell_below hb1 h0; replace h1 := pw_cell_below hb1 h1; have HB := Aside0.mk hb1; clear hb1)
        | (go_at_call 38; refine (places_any w1 g r ps (HI.out.below HB.out) HN.out p HP.out (plB_size HPL.out) pos (by have := HG.out; have := HN.out; omega) false).mono ?_; rintro e w2 ⟨v, rfl, hv, hb2⟩; rw [HL.out] at hv; have HV := Aside0.mk hv; have HB2 := Aside0.mk hb2; clear hv hb2; obtain ⟨bV, cV, rfl, hc0⟩ := nrow_first HV.out))
      go_ret2
      exact ⟨rfl, below_then HB.out HB.out.size HB2.out⟩
theorem next_bad (w : World) (a : Value) (p : ByteArray) (pos : Int) (hpl : plB p = false ∨ p.size = 0) :
    Calls Try.prog 17 #[a, .string p, .int .i64 pos] w (NextBad w) := by
  by_cases hp : p.size = 0
  · have hne := toList_em hp
    clear hpl hp
    go_enter Try.func17, Try.ntmps17
    go_wp2
    go_ret2
    exact ⟨rfl, Below.refl _ _⟩
  · have HPL := Aside0.mk (hpl.resolve_right hp)
    have hne := toList_ne (p := p) (by omega)
    clear hpl hp
    go_enter Try.func17, Try.ntmps17
    go_wp2_with (go_at_call 37; refine (plain_any p _).mono ?_; rintro e w1 ⟨rfl, hb1⟩; rw [HPL.out]; have HB := Aside0.mk hb1; clear hb1)
    go_ret2
    exact ⟨rfl, HB.out⟩
end Go.Proofs.Ytfngcabckfmhnaa.B
