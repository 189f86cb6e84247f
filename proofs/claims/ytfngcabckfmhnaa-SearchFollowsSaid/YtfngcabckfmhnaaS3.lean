/- The walk of search.Index.Swap: client, first and too many operations. -/
import Derived.Test.YtfngcabckfmhnaaS1
import Derived.Test.YtfngcabckfmhnaaC1
namespace Go.Proofs.Ytfngcabckfmhnaa.B
open Go.RowKit Go.Proofs.YtfngcabckfmhnaaW.PrintWords Go.Proofs.YtfngcabckfmhnaaW.PrintLast Go.Proofs.YtfngcabckfmhnaaW.PrintMore Go.Proofs.Ytfngcabckfmhnaa.PA
attribute [local go_sem] max2_int max_two
set_option linter.unusedVariables false
set_option linter.unusedSimpArgs false

theorem BOX8 (w : World) (client first : Int) : ((w.alloc (.cells #[.int .i64 client] 3)).alloc (.cells #[.int .i64 first] 3)).heap[w.heap.size]? = some (.cells #[.int .i64 client] 3 (0, 0)) := blk_alloc (heap_alloc_new w _) _
theorem BOX9 (w : World) (client first : Int) : ((w.alloc (.cells #[.int .i64 client] 3)).alloc (.cells #[.int .i64 first] 3)).heap[w.heap.size + 1]? = some (.cells #[.int .i64 first] 3 (0, 0)) := by
  have := heap_alloc_new (w.alloc (.cells #[.int .i64 client] 3)) (.cells #[.int .i64 first] 3)
  simpa using this
theorem scan_length (m : Nat → Bool) (wd : Nat) (ap : Bool) : ∀ n i nx, (scan m wd ap n i nx).length ≤ n := by
  intro n
  induction n with
  | zero => intro i nx; simp [scan]
  | succ n ih =>
    intro i nx
    simp only [scan]
    split
    · exact Nat.le_succ_of_le (ih _ _)
    · split
      · simp only [List.length_cons]; exact Nat.succ_le_succ (ih _ _)
      · exact Nat.le_succ_of_le (ih _ _)
theorem plc_length (t : List (List Int)) (p : ByteArray) : (plc (strOfNums (fl t)) p 0 true).length ≤ (fl t).length + 1 := by
  unfold plc
  have := scan_length (mt (strOfNums (fl t)) p) p.size true ((strOfNums (fl t)).size + 1 - p.size - 0) 0 0
  rw [strOfNums_size] at this ⊢
  omega
theorem scan_mem (m : Nat → Bool) (wd : Nat) (ap : Bool) : ∀ n i nx a, a ∈ scan m wd ap n i nx → i ≤ a ∧ a < i + n := by
  intro n
  induction n with
  | zero => intro i nx a h; simp [scan] at h
  | succ n ih =>
    intro i nx a h
    simp only [scan] at h
    split at h
    · have := ih _ _ _ h; omega
    · split at h
      · rcases List.mem_cons.1 h with h | h
        · omega
        · have := ih _ _ _ h; omega
      · have := ih _ _ _ h; omega
theorem plc_bound (t : List (List Int)) (p : ByteArray) : ∀ a ∈ plc (strOfNums (fl t)) p 0 true, a ≤ (fl t).length := by
  intro a ha
  unfold plc at ha
  have := scan_mem _ _ _ _ _ _ _ ha
  rw [strOfNums_size] at this
  omega
theorem prod_bound {k a b : Int} (h0 : 0 ≤ k) (h1 : k ≤ 64) (h2 : 0 ≤ a) (h3 : a ≤ 64) (h4 : 0 ≤ b) (h5 : b ≤ 64) : -4096 ≤ k * (a - b) ∧ k * (a - b) ≤ 4096 := by
  have e1 : k * a ≤ 64 * 64 := Int.le_trans (Int.mul_le_mul_of_nonneg_left h3 h0) (Int.mul_le_mul_of_nonneg_right h1 (by omega))
  have e2 : k * b ≤ 64 * 64 := Int.le_trans (Int.mul_le_mul_of_nonneg_left h5 h0) (Int.mul_le_mul_of_nonneg_right h1 (by omega))
  have e3 : 0 ≤ k * a := Int.mul_nonneg h0 h2
  have e4 : 0 ≤ k * b := Int.mul_nonneg h0 h4
  rw [Int.mul_sub]
  omega
theorem range_snoc (q : ByteArray) (x : Int) (j : Nat) : ((List.range (j + 1)).map fun (j : Nat) => ((1 : Int), x + (j : Int), bt q j)) = ((List.range j).map fun (j : Nat) => ((1 : Int), x + (j : Int), bt q j)) ++ [((1 : Int), x + (j : Int), bt q j)] := by rw [List.range_succ, List.map_append]; rfl

set_option maxHeartbeats 16000000 in
set_option maxRecDepth 100000 in
theorem swap_maker (w : World) (g : Nat) (r : Option Nat) (ps : List (List Int)) (h : Idx w g r ps) (hn : (fl ps).length ≤ 5864062014000) (p q : ByteArray) (hp : 1 ≤ p.size) (hpl : plB p = true) (hql : plB q = true) (client first : Int) (hbad : client < 1 ∨ 64 < client ∨ first < 1 ∨ 65 < first ∨ 65 - first < (((plc (strOfNums (fl ps)) p 0 true).length * (p.size + q.size) : Nat) : Int)) :
    Calls Try.prog 21 #[.pointer (some ⟨g, 0, none⟩), .string p, .string q, .int .i64 client, .int .i64 first] w (SwapBad w 222) := by
  have HI := Aside0.mk h
  have HN := Aside0.mk hn
  have HPL := Aside0.mk hpl
  have HQL := Aside0.mk hql
  have HP := Aside0.mk hp
  have hne := toList_ne hp
  have hnp : (p.size : Int) ≤ 64 := by have := plB_size hpl; omega
  have hnq : (q.size : Int) ≤ 64 := by have := plB_size hql; omega
  obtain ⟨L, hL⟩ : ∃ L, L = plc (strOfNums (fl ps)) p 0 true := ⟨_, rfl⟩
  have HL := Aside0.mk hL
  have hLl : L.length ≤ (fl ps).length + 1 := by rw [hL]; exact plc_length _ _
  obtain ⟨N, hN⟩ : ∃ N : Nat, N = L.length * (p.size + q.size) := ⟨_, rfl⟩
  have hNb : N ≤ (5864062014001) * 128 := by rw [hN]; exact Nat.mul_le_mul (by omega) (by omega)
  have hM : wrap64 ((L.length : Int) * ((p.size : Int) + (q.size : Int))) = (N : Int) := by
    rw [show (L.length : Int) * ((p.size : Int) + (q.size : Int)) = (N : Int) by rw [hN]; push_cast; rfl]
    exact w64 (by omega) (by omega)
  rw [← hL, ← hN] at hbad
  clear h hn hpl hql hp hL hLl hNb hN
  by_cases c1 : client < 1
  · have d1 := decide_eq_true c1
    clear c1 hbad
    go_enter Try.func21, Try.ntmps21
    go_wp2_with (first
      | (go_at_call 37; first
        | ((with_reducible refine (plain_any p _).mono ?_); rintro e w1 ⟨rfl, hb1⟩; rw [HPL.out]; have HB := Aside0.mk (below_then (below_alloc (below_alloc (Below.refl _ _) _) _ : Below w.heap.size w _) (by simp; omega) hb1); have k8 := blk_below (BOX8 w client first) hb1; have k9 := blk_below (BOX9 w client first) hb1; have K8 := Aside0.mk k8; have K9 := Aside0.mk k9; clear hb1 k8 k9)
        | ((with_reducible refine (plain_any q _).mono ?_); rintro e w2 ⟨rfl, hb2⟩; rw [HQL.out]; have HB2 := Aside0.mk (below_then HB.out HB.out.size hb2); replace K8 := Aside0.mk (blk_below K8.out hb2); replace K9 := Aside0.mk (blk_below K9.out hb2); clear hb2))
      | (go_at_call 38; refine (places_any w2 g r ps (HI.out.below HB2.out) HN.out p HP.out (plB_size HPL.out) 0 (by omega) true).mono ?_; rintro e w3 ⟨v, rfl, hv, hb3⟩; rw [show (0 : Int).toNat = 0 from rfl, ← HL.out] at hv; obtain ⟨AV, cV, rfl, hcV, hCV⟩ := Kd.R_reads hv; rw [List.length_map] at hcV hCV ⊢; have HCV := Aside0.mk hCV; have HcV := Aside0.mk hcV; have HV := Aside0.mk hv; have HB3 := Aside0.mk (below_then HB2.out HB2.out.size hb3); replace K8 := Aside0.mk (blk_below K8.out hb3); replace K9 := Aside0.mk (blk_below K9.out hb3); have x8 : w3.cell? ⟨w.heap.size, 0, none⟩ = some (.int .i64 client) := (blk_cell K8.out 0).trans rfl; have x9 : w3.cell? ⟨w.heap.size + 1, 0, none⟩ = some (.int .i64 first) := (blk_cell K9.out 0).trans rfl; clear hv hb3 hcV hCV))
    go_ret2
    exact ⟨rfl, HB3.out⟩
  · have d1 := decide_eq_false c1
    by_cases c2 : 64 < client
    · have d2 := decide_eq_true c2
      clear c1 c2 hbad
      go_enter Try.func21, Try.ntmps21
      go_wp2_with (first
        | (go_at_call 37; first
          | ((with_reducible refine (plain_any p _).mono ?_); rintro e w1 ⟨rfl, hb1⟩; rw [HPL.out]; have HB := Aside0.mk (below_then (below_alloc (below_alloc (Below.refl _ _) _) _ : Below w.heap.size w _) (by simp; omega) hb1); have k8 := blk_below (BOX8 w client first) hb1; have k9 := blk_below (BOX9 w client first) hb1; have K8 := Aside0.mk k8; have K9 := Aside0.mk k9; clear hb1 k8 k9)
          | ((with_reducible refine (plain_any q _).mono ?_); rintro e w2 ⟨rfl, hb2⟩; rw [HQL.out]; have HB2 := Aside0.mk (below_then HB.out HB.out.size hb2); replace K8 := Aside0.mk (blk_below K8.out hb2); replace K9 := Aside0.mk (blk_below K9.out hb2); clear hb2))
        | (go_at_call 38; refine (places_any w2 g r ps (HI.out.below HB2.out) HN.out p HP.out (plB_size HPL.out) 0 (by omega) true).mono ?_; rintro e w3 ⟨v, rfl, hv, hb3⟩; rw [show (0 : Int).toNat = 0 from rfl, ← HL.out] at hv; obtain ⟨AV, cV, rfl, hcV, hCV⟩ := Kd.R_reads hv; rw [List.length_map] at hcV hCV ⊢; have HCV := Aside0.mk hCV; have HcV := Aside0.mk hcV; have HV := Aside0.mk hv; have HB3 := Aside0.mk (below_then HB2.out HB2.out.size hb3); replace K8 := Aside0.mk (blk_below K8.out hb3); replace K9 := Aside0.mk (blk_below K9.out hb3); have x8 : w3.cell? ⟨w.heap.size, 0, none⟩ = some (.int .i64 client) := (blk_cell K8.out 0).trans rfl; have x9 : w3.cell? ⟨w.heap.size + 1, 0, none⟩ = some (.int .i64 first) := (blk_cell K9.out 0).trans rfl; clear hv hb3 hcV hCV))
      go_ret2
      exact ⟨rfl, HB3.out⟩
    · have d2 := decide_eq_false c2
      by_cases c3 : first < 1
      · have d3 := decide_eq_true c3
        clear c1 c2 c3 hbad
        go_enter Try.func21, Try.ntmps21
        go_wp2_with (first
          | (go_at_call 37; first
            | ((with_reducible refine (plain_any p _).mono ?_); rintro e w1 ⟨rfl, hb1⟩; rw [HPL.out]; have HB := Aside0.mk (below_then (below_alloc (below_alloc (Below.refl _ _) _) _ : Below w.heap.size w _) (by simp; omega) hb1); have k8 := blk_below (BOX8 w client first) hb1; have k9 := blk_below (BOX9 w client first) hb1; have K8 := Aside0.mk k8; have K9 := Aside0.mk k9; clear hb1 k8 k9)
            | ((with_reducible refine (plain_any q _).mono ?_); rintro e w2 ⟨rfl, hb2⟩; rw [HQL.out]; have HB2 := Aside0.mk (below_then HB.out HB.out.size hb2); replace K8 := Aside0.mk (blk_below K8.out hb2); replace K9 := Aside0.mk (blk_below K9.out hb2); clear hb2))
          | (go_at_call 38; refine (places_any w2 g r ps (HI.out.below HB2.out) HN.out p HP.out (plB_size HPL.out) 0 (by omega) true).mono ?_; rintro e w3 ⟨v, rfl, hv, hb3⟩; rw [show (0 : Int).toNat = 0 from rfl, ← HL.out] at hv; obtain ⟨AV, cV, rfl, hcV, hCV⟩ := Kd.R_reads hv; rw [List.length_map] at hcV hCV ⊢; have HCV := Aside0.mk hCV; have HcV := Aside0.mk hcV; have HV := Aside0.mk hv; have HB3 := Aside0.mk (below_then HB2.out HB2.out.size hb3); replace K8 := Aside0.mk (blk_below K8.out hb3); replace K9 := Aside0.mk (blk_below K9.out hb3); have x8 : w3.cell? ⟨w.heap.size, 0, none⟩ = some (.int .i64 client) := (blk_cell K8.out 0).trans rfl; have x9 : w3.cell? ⟨w.heap.size + 1, 0, none⟩ = some (.int .i64 first) := (blk_cell K9.out 0).trans rfl; clear hv hb3 hcV hCV))
        go_ret2
        exact ⟨rfl, HB3.out⟩
      · have d3 := decide_eq_false c3
        by_cases c4 : 65 < first
        · have d4 := decide_eq_true c4
          clear c1 c2 c3 c4 hbad
          go_enter Try.func21, Try.ntmps21
          go_wp2_with (first
            | (go_at_call 37; first
              | ((with_reducible refine (plain_any p _).mono ?_); rintro e w1 ⟨rfl, hb1⟩; rw [HPL.out]; have HB := Aside0.mk (below_then (below_alloc (below_alloc (Below.refl _ _) _) _ : Below w.heap.size w _) (by simp; omega) hb1); have k8 := blk_below (BOX8 w client first) hb1; have k9 := blk_below (BOX9 w client first) hb1; have K8 := Aside0.mk k8; have K9 := Aside0.mk k9; clear hb1 k8 k9)
              | ((with_reducible refine (plain_any q _).mono ?_); rintro e w2 ⟨rfl, hb2⟩; rw [HQL.out]; have HB2 := Aside0.mk (below_then HB.out HB.out.size hb2); replace K8 := Aside0.mk (blk_below K8.out hb2); replace K9 := Aside0.mk (blk_below K9.out hb2); clear hb2))
            | (go_at_call 38; refine (places_any w2 g r ps (HI.out.below HB2.out) HN.out p HP.out (plB_size HPL.out) 0 (by omega) true).mono ?_; rintro e w3 ⟨v, rfl, hv, hb3⟩; rw [show (0 : Int).toNat = 0 from rfl, ← HL.out] at hv; obtain ⟨AV, cV, rfl, hcV, hCV⟩ := Kd.R_reads hv; rw [List.length_map] at hcV hCV ⊢; have HCV := Aside0.mk hCV; have HcV := Aside0.mk hcV; have HV := Aside0.mk hv; have HB3 := Aside0.mk (below_then HB2.out HB2.out.size hb3); replace K8 := Aside0.mk (blk_below K8.out hb3); replace K9 := Aside0.mk (blk_below K9.out hb3); have x8 : w3.cell? ⟨w.heap.size, 0, none⟩ = some (.int .i64 client) := (blk_cell K8.out 0).trans rfl; have x9 : w3.cell? ⟨w.heap.size + 1, 0, none⟩ = some (.int .i64 first) := (blk_cell K9.out 0).trans rfl; clear hv hb3 hcV hCV))
          go_ret2
          exact ⟨rfl, HB3.out⟩
        · have d4 := decide_eq_false c4
          have hf1 : 1 ≤ first := by omega
          have hf2 : first ≤ 65 := by omega
          have d5 : decide (65 - first < (N : Int)) = true := decide_eq_true (by omega)
          clear c1 c2 c3 c4 hbad
          go_enter Try.func21, Try.ntmps21
          go_wp2_with (first
            | (go_at_call 37; first
              | ((with_reducible refine (plain_any p _).mono ?_); rintro e w1 ⟨rfl, hb1⟩; rw [HPL.out]; have HB := Aside0.mk (below_then (below_alloc (below_alloc (Below.refl _ _) _) _ : Below w.heap.size w _) (by simp; omega) hb1); have k8 := blk_below (BOX8 w client first) hb1; have k9 := blk_below (BOX9 w client first) hb1; have K8 := Aside0.mk k8; have K9 := Aside0.mk k9; clear hb1 k8 k9)
              | ((with_reducible refine (plain_any q _).mono ?_); rintro e w2 ⟨rfl, hb2⟩; rw [HQL.out]; have HB2 := Aside0.mk (below_then HB.out HB.out.size hb2); replace K8 := Aside0.mk (blk_below K8.out hb2); replace K9 := Aside0.mk (blk_below K9.out hb2); clear hb2))
            | (go_at_call 38; refine (places_any w2 g r ps (HI.out.below HB2.out) HN.out p HP.out (plB_size HPL.out) 0 (by omega) true).mono ?_; rintro e w3 ⟨v, rfl, hv, hb3⟩; rw [show (0 : Int).toNat = 0 from rfl, ← HL.out] at hv; obtain ⟨AV, cV, rfl, hcV, hCV⟩ := Kd.R_reads hv; rw [List.length_map] at hcV hCV ⊢; have HCV := Aside0.mk hCV; have HcV := Aside0.mk hcV; have HV := Aside0.mk hv; have HB3 := Aside0.mk (below_then HB2.out HB2.out.size hb3); replace K8 := Aside0.mk (blk_below K8.out hb3); replace K9 := Aside0.mk (blk_below K9.out hb3); have x8 : w3.cell? ⟨w.heap.size, 0, none⟩ = some (.int .i64 client) := (blk_cell K8.out 0).trans rfl; have x9 : w3.cell? ⟨w.heap.size + 1, 0, none⟩ = some (.int .i64 first) := (blk_cell K9.out 0).trans rfl; clear hv hb3 hcV hCV))
          go_ret2
          exact ⟨rfl, HB3.out⟩
end Go.Proofs.Ytfngcabckfmhnaa.B
