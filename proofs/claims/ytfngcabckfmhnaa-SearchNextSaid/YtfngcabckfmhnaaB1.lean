/- The walk of search.Index.Text: the index's bytes as a string. -/
import Derived.Test.YtfngcabckfmhnaaB0
namespace Go.Proofs.Ytfngcabckfmhnaa.B
open Go.RowKit Go.Proofs.YtfngcabckfmhnaaW.PrintWords Go.Proofs.YtfngcabckfmhnaaW.PrintLast Go.Proofs.YtfngcabckfmhnaaW.PrintMore Go.Proofs.Ytfngcabckfmhnaa.PA
set_option linter.unusedVariables false
set_option linter.unusedSimpArgs false

theorem fl_take {ps : List (List Int)} {i : Nat} {l : List Int} (h : ps[i]? = some l) : fl (ps.take (i + 1)) = fl (ps.take i) ++ l := by
  unfold fl
  rw [List.take_add_one, h]
  simp
theorem fl_all (ps : List (List Int)) : fl (ps.take ps.length) = fl ps := by rw [List.take_length]
theorem fl_step {ps : List (List Int)} {i : Nat} {l : List Int} (h : ps[i]? = some l) : (fl (ps.take i)).length + l.length ≤ (fl ps).length := by
  have h1 := fl_take h
  have h2 : fl ps = fl (ps.take (i + 1)) ++ fl (ps.drop (i + 1)) := by unfold fl; rw [← List.flatten_append, List.take_append_drop]
  rw [h2, h1]
  simp only [List.length_append]
  omega

set_option maxHeartbeats 8000000 in
set_option maxRecDepth 100000 in
theorem text_any (w : World) (g : Nat) (r : Option Nat) (ps : List (List Int)) (h : Idx w g r ps) (hn : (fl ps).length ≤ 140737488351232) :
    Calls Try.prog 20 #[.pointer (some ⟨g, 0, none⟩)] w fun e w' => e = .returned (.string (strOfNums (fl ps))) ∧ Below w.heap.size w w' := by
  obtain ⟨A, c, h0, h1, hl, hps⟩ := h.open_
  have HP := Aside0.mk hps
  clear hps
  obtain ⟨i5, hi5, hz5, hz1, hz2⟩ := info_parts info5
  have HI := Aside0.mk (And.intro hz5 (And.intro hz1 hz2))
  clear hz5 hz1 hz2
  go_enter Try.func20, Try.ntmps20
  go_wp2_with (at_make; go_loud (refine wpList_make_own _ rfl _ _ 53 rfl w.heap.size 5 i5 (.int .u8 0) 1 Try.underlying53 hi5 HI.out.1 HI.out.2.1 .i64 .i64 _ (fl ps).length rfl rfl rfl (by rw [HI.out.2.2]; omega) (by unfold maxLen; omega) (Nat.le_refl _) ?_; intro w1 hown hgrow; have hb := (Below.refl w.heap.size w).grown hgrow (Nat.le_refl _) (fun k e => by cases e); replace h0 := pw_cell_below hb h0; replace h1 := pw_cell_below hb h1; have HB := Aside0.mk hb; have HO := Aside0.mk hown; clear hb hown hgrow))
  go_loopw [3, 5, 16] (fun v3 v5 v16 wr => ∃ i : Nat, i ≤ ps.length ∧ v16 = .int .i64 i ∧ Aside0 (Kd.R (Kd.int .u8) 5 wr w.heap.size (fun _ => True) v3 (fl (ps.take i))) ∧ Aside0 (Below w.heap.size w wr)) (fun _ _ v16 _ => ps.length - (intOf v16).toNat)
  case atStart => exact ⟨0, Nat.zero_le _, rfl, ⟨Kd.R_of_own (enc := Value.int .u8) (h1 := fun _ => rfl) HO.out (fun _ _ => trivial)⟩, HB⟩
  case round =>
    obtain ⟨i, hi, rfl, HR, HB⟩ := hrel
    by_cases hlt : i < ps.length
    · obtain ⟨l, hl'⟩ : ∃ l, ps[i]? = some l := ⟨_, List.getElem?_eq_getElem hlt⟩
      obtain ⟨ad, B, d, rfl, hc, hld, hC⟩ := HP.out i _ hl'
      replace hc := pw_cell_below HB.out hc
      have HL := Aside0.mk hl'
      have HC := Aside0.mk (Kd.C_below hC HB.out)
      clear hl' hC h0 h1
      go_wp2_with (at_builtin; go_loud (refine Kd.R_append_rows (Kd.int .u8) (w0 := w) w.heap.size rfl (.tmp 20) (.tmp 21) 53 5 (.int .u8 0) 1 rfl Try.underlying53 info5 rfl (by decide) (by omega) u3 (fl (ps.take i)) l _ _ _ (fun _ => True) (fun _ => False) rfl rfl HR.out HC.out (fun _ _ h => h) (fun _ h => h.elim) (fun _ _ => trivial) HB.out HB.out.size (by have := fl_step HL.out; omega) ?_; intro v1 w1 ho hb hg hat; rw [← fl_take HL.out] at ho; replace HR := Aside0.mk ho; replace HB := Aside0.mk hb; clear ho hb hg hat))
      go_roundw
      case rel => exact ⟨i + 1, by omega, by go_num, HR, HB⟩
      case measure => simp [intOf]; omega
    · obtain rfl : i = ps.length := by omega
      have hs := own_string (P := Try.prog) (dst := 9) Try.underlying53 Try.underlying5 Try.underlying9 (Kd.own_of_R HR.out)
      rw [fl_all] at hs
      go_wp2_with fail
      go_ret
      exact ⟨rfl, HB.out⟩
end Go.Proofs.Ytfngcabckfmhnaa.B
