/- The walk of search.Index.Swap: its operations. -/
import Derived.Test.YtfngcabckfmhnaaS3
import Derived.Test.YtfngcabckfmhnaaN1
import Derived.IntWalk
namespace Go.Proofs.Ytfngcabckfmhnaa.B
open Go.RowKit Go.Proofs.YtfngcabckfmhnaaW.PrintWords Go.Proofs.YtfngcabckfmhnaaW.PrintLast Go.Proofs.YtfngcabckfmhnaaW.PrintMore Go.Proofs.Ytfngcabckfmhnaa.PA
attribute [local go_sem] max2_int max_two
set_option linter.unusedVariables false
set_option linter.unusedSimpArgs false

set_option maxHeartbeats 16000000 in
set_option maxRecDepth 100000 in
theorem swap_ok0 (w : World) (g : Nat) (r : Option Nat) (ps : List (List Int)) (h : Idx w g r ps) (hn : (fl ps).length ≤ 5864062014000) (p q : ByteArray) (hp : 1 ≤ p.size) (hpl : plB p = true) (hql : plB q = true) (client first : Int) (hc : 1 ≤ client ∧ client ≤ 64) (hf : 1 ≤ first ∧ first ≤ 65) (hmany : (((plc (strOfNums (fl ps)) p 0 true).length * (p.size + q.size) : Nat) : Int) ≤ 65 - first) (hfull : (plc (strOfNums (fl ps)) p 0 true).length * (p.size + q.size) = 0 ∨ (((fl ps).length : Int) ≤ 4096 ∧ ((fl ps).length : Int) + ((plc (strOfNums (fl ps)) p 0 true).length : Int) * ((q.size : Int) - (p.size : Int)) ≤ 4096)) (hz : ¬ (0 : Int) < (((plc (strOfNums (fl ps)) p 0 true).length * (p.size + q.size) : Nat) : Int)) :
    Calls Try.prog 21 #[.pointer (some ⟨g, 0, none⟩), .string p, .string q, .int .i64 client, .int .i64 first] w (SwapAns w (mkOps client first (raws p.size q (plc (strOfNums (fl ps)) p 0 true) (plc (strOfNums (fl ps)) p 0 true).length))) := by
  have HI := Aside0.mk h
  have HN := Aside0.mk hn
  have HPL := Aside0.mk hpl
  have HQL := Aside0.mk hql
  have HP := Aside0.mk hp
  have hne := toList_ne hp
  have hnp : (p.size : Int) ≤ 64 := by have := plB_size hpl; omega
  have hnq : (q.size : Int) ≤ 64 := by have := plB_size hql; omega
  obtain ⟨L, hL⟩ : ∃ L, L = plc (strOfNums (fl ps)) p 0 true := ⟨_, rfl⟩
  have HL := Aside0.mk hL
  have hLl : L.length ≤ (fl ps).length + 1 := by rw [hL]; exact plc_length _ _
  obtain ⟨N, hN⟩ : ∃ N : Nat, N = L.length * (p.size + q.size) := ⟨_, rfl⟩
  have hNb : N ≤ (5864062014001) * 128 := by rw [hN]; exact Nat.mul_le_mul (by omega) (by omega)
  have hM : wrap64 ((L.length : Int) * ((p.size : Int) + (q.size : Int))) = (N : Int) := by
    rw [show (L.length : Int) * ((p.size : Int) + (q.size : Int)) = (N : Int) by rw [hN]; push_cast; rfl]
    exact w64 (by omega) (by omega)
  have hf1 := hf.1
  have hf2 := hf.2
  have hc1 := hc.1
  have hc2 := hc.2
  rw [← hL, ← hN] at hmany
  rw [← hL] at hfull ⊢
  rw [← hL, ← hN] at hz
  have d1 : decide (client < 1) = false := decide_eq_false (by omega)
  have d2 : decide (64 < client) = false := decide_eq_false (by omega)
  have d3 : decide (first < 1) = false := decide_eq_false (by omega)
  have d4 : decide (65 < first) = false := decide_eq_false (by omega)
  have d5 : decide (65 - first < (N : Int)) = false := decide_eq_false (by omega)
  have HNN : Aside0 (N ≤ 64 ∧ N = L.length * (p.size + q.size)) := ⟨by omega, hN⟩
  have hlen : (L.length : Int) ≤ 64 := by
    have : L.length * 1 ≤ L.length * (p.size + q.size) := Nat.mul_le_mul_left _ (by omega)
    omega
  have HF := Aside0.mk hfull
  have HFS := Aside0.mk hf
  have HBI : Aside0 (∀ (k i : Nat), L[k]? = some i → i ≤ 5864062014000) := ⟨fun k i hk => by rw [hL] at hk; have := plc_bound _ _ _ (List.mem_of_getElem? hk); omega⟩
  obtain ⟨A0, c0, _, g1w, _, _⟩ := h.open_
  have hnn : ((fl ps).length : Int) ≤ 5864062014000 := by omega
  clear h hn hpl hql hp hL hLl hNb hN hmany hfull hf hc
  have e0 : decide (0 < (N : Int)) = false := decide_eq_false hz
  have e0' : decide (0 < N) = false := decide_eq_false (by omega)
  have HL0 : Aside0 (L.length = 0) := ⟨by
    rcases Nat.eq_zero_or_pos L.length with h0 | h0
    · exact h0
    · exfalso
      have h1 : 1 * 1 ≤ L.length * (p.size + q.size) := Nat.mul_le_mul h0 (by have := HP.out; omega)
      rw [← HNN.out.2] at h1
      omega⟩
  clear hz
  go_enter Try.func21, Try.ntmps21
  go_wp2_with (first
    | (go_at_call 37; first
      | ((with_reducible refine (plain_any p _).mono ?_); rintro e w1 ⟨rfl, hb1⟩; rw [HPL.out]; have HB := Aside0.mk (below_then (below_alloc (below_alloc (Below.refl _ _) _) _ : Below w.heap.size w _) (by simp; omega) hb1); have k8 := blk_below (BOX8 w client first) hb1; have k9 := blk_below (BOX9 w client first) hb1; have K8 := Aside0.mk k8; have K9 := Aside0.mk k9; clear hb1 k8 k9)
      | ((with_reducible refine (plain_any q _).mono ?_); rintro e w2 ⟨rfl, hb2⟩; rw [HQL.out]; have HB2 := Aside0.mk (below_then HB.out HB.out.size hb2); replace K8 := Aside0.mk (blk_below K8.out hb2); replace K9 := Aside0.mk (blk_below K9.out hb2); clear hb2))
    | (go_at_call 38; refine (places_any w2 g r ps (HI.out.below HB2.out) HN.out p HP.out (plB_size HPL.out) 0 (by omega) true).mono ?_; rintro e w3 ⟨v, rfl, hv, hb3⟩; rw [show (0 : Int).toNat = 0 from rfl, ← HL.out] at hv; obtain ⟨AV, cV, rfl, hcV, hCV⟩ := Kd.R_reads hv; rw [List.length_map] at hcV hCV ⊢; have HCV := Aside0.mk hCV; have HcV := Aside0.mk hcV; have HV := Aside0.mk hv; have HB3 := Aside0.mk (below_then HB2.out HB2.out.size hb3); replace K8 := Aside0.mk (blk_below K8.out hb3); replace K9 := Aside0.mk (blk_below K9.out hb3); have x8 : w3.cell? ⟨w.heap.size, 0, none⟩ = some (.int .i64 client) := (blk_cell K8.out 0).trans rfl; have x9 : w3.cell? ⟨w.heap.size + 1, 0, none⟩ = some (.int .i64 first) := (blk_cell K9.out 0).trans rfl; clear hv hb3 hcV hCV))
  go_quiet (fail)
  go_wp2
  try simp only [hM]
  clear hM
  have HVR : Aside0 (Kd.R (Kd.int .i64) 3 w3 w2.heap.size (fun _ => True) (.slice AV L.length cV) (L.map fun (j : Nat) => (j : Int))) := ⟨by have := HV.out; rwa [List.length_map] at this⟩
  have hrow := fun (W : World) (o : Obj) (n : Nat) => Kd.R_alloc (Kd.R_drewN HVR.out n) o
  have HROW := Aside0.mk hrow
  have o15 : w3.heap.size = w3.heap.size := rfl
  have HS0 : Aside0 (∀ n : Nat, SwS w ((w3.drewN n).alloc (.cells #[.slice none 0 0] 39)) w.heap.size (w.heap.size + 1) w3.heap.size client first (mkOps client first [])) := ⟨fun n => ⟨blk_alloc (blk_drewN K8.out n) _, blk_alloc (blk_drewN K9.out n) _, ⟨_, by have := heap_alloc_new (w3.drewN n) (.cells #[.slice none 0 0] 39); exact this, Kd.R_nil _ _ _ _ _⟩, below_alloc (pw_below_drewN HB3.out n) _, HB3.out.size⟩⟩
  clear hrow o15
  go_loopw [91] (fun v91 wr => ∃ k : Nat, v91 = .int .i64 (k : Int) ∧ (k : Int) ≤ (L.length : Int) ∧ Aside0 (SwS w wr w.heap.size (w.heap.size + 1) w3.heap.size client first (mkOps client first (raws p.size q L k))) ∧ Aside0 (Kd.R (Kd.int .i64) 3 wr w2.heap.size (fun _ => True) (.slice AV L.length cV) (L.map fun (j : Nat) => (j : Int)))) (fun v91 _ => L.length - (intOf v91).toNat)
  case atStart => exact ⟨0, rfl, by omega, ⟨HS0.out _⟩, ⟨HROW.out w _ _⟩⟩
  case round =>
    obtain ⟨k, rfl, hk, HS, HV⟩ := hrel
    have hk0 : (0 : Int) ≤ (k : Int) := by omega
    have hlt : ¬ (k : Int) < (L.length : Int) := by have := HL0.out; omega
    have c1 := decide_eq_false hlt
    obtain rfl : k = L.length := by omega
    obtain ⟨v9, hv9, hr9⟩ := HS.out.out
    obtain ⟨A9, c9, rfl⟩ := Kd.R_slice hr9
    have x15 : wr.cell? ⟨w3.heap.size, 0, none⟩ = some (.slice A9 (mkOps client first (raws p.size q L L.length)).length c9) := (blk_cell hv9 0).trans rfl
    have HR9 := Aside0.mk hr9
    clear hv9 hr9
    go_wp2
    go_ret2
    exact ⟨_, rfl, HR9.out, HS.out.bel⟩
end Go.Proofs.Ytfngcabckfmhnaa.B
/- The walk of search.Index.Swap: its operations. -/
namespace Go.Proofs.Ytfngcabckfmhnaa.B
open Go.RowKit Go.Proofs.YtfngcabckfmhnaaW.PrintWords Go.Proofs.YtfngcabckfmhnaaW.PrintLast Go.Proofs.YtfngcabckfmhnaaW.PrintMore Go.Proofs.Ytfngcabckfmhnaa.PA
attribute [local go_sem] max2_int max_two
set_option linter.unusedVariables false
set_option linter.unusedSimpArgs false

set_option maxHeartbeats 16000000 in
set_option maxRecDepth 100000 in
theorem swap_ok1 (w : World) (g : Nat) (r : Option Nat) (ps : List (List Int)) (h : Idx w g r ps) (hn : (fl ps).length ≤ 5864062014000) (p q : ByteArray) (hp : 1 ≤ p.size) (hpl : plB p = true) (hql : plB q = true) (client first : Int) (hc : 1 ≤ client ∧ client ≤ 64) (hf : 1 ≤ first ∧ first ≤ 65) (hmany : (((plc (strOfNums (fl ps)) p 0 true).length * (p.size + q.size) : Nat) : Int) ≤ 65 - first) (hfull : (plc (strOfNums (fl ps)) p 0 true).length * (p.size + q.size) = 0 ∨ (((fl ps).length : Int) ≤ 4096 ∧ ((fl ps).length : Int) + ((plc (strOfNums (fl ps)) p 0 true).length : Int) * ((q.size : Int) - (p.size : Int)) ≤ 4096)) (hz : (0 : Int) < (((plc (strOfNums (fl ps)) p 0 true).length * (p.size + q.size) : Nat) : Int)) :
    Calls Try.prog 21 #[.pointer (some ⟨g, 0, none⟩), .string p, .string q, .int .i64 client, .int .i64 first] w (SwapAns w (mkOps client first (raws p.size q (plc (strOfNums (fl ps)) p 0 true) (plc (strOfNums (fl ps)) p 0 true).length))) := by
  have HI := Aside0.mk h
  have HN := Aside0.mk hn
  have HPL := Aside0.mk hpl
  have HQL := Aside0.mk hql
  have HP := Aside0.mk hp
  have hne := toList_ne hp
  have hnp : (p.size : Int) ≤ 64 := by have := plB_size hpl; omega
  have hnq : (q.size : Int) ≤ 64 := by have := plB_size hql; omega
  obtain ⟨L, hL⟩ : ∃ L, L = plc (strOfNums (fl ps)) p 0 true := ⟨_, rfl⟩
  have HL := Aside0.mk hL
  have hLl : L.length ≤ (fl ps).length + 1 := by rw [hL]; exact plc_length _ _
  obtain ⟨N, hN⟩ : ∃ N : Nat, N = L.length * (p.size + q.size) := ⟨_, rfl⟩
  have hNb : N ≤ (5864062014001) * 128 := by rw [hN]; exact Nat.mul_le_mul (by omega) (by omega)
  have hM : wrap64 ((L.length : Int) * ((p.size : Int) + (q.size : Int))) = (N : Int) := by
    rw [show (L.length : Int) * ((p.size : Int) + (q.size : Int)) = (N : Int) by rw [hN]; push_cast; rfl]
    exact w64 (by omega) (by omega)
  have hf1 := hf.1
  have hf2 := hf.2
  have hc1 := hc.1
  have hc2 := hc.2
  rw [← hL, ← hN] at hmany
  rw [← hL] at hfull ⊢
  rw [← hL, ← hN] at hz
  have d1 : decide (client < 1) = false := decide_eq_false (by omega)
  have d2 : decide (64 < client) = false := decide_eq_false (by omega)
  have d3 : decide (first < 1) = false := decide_eq_false (by omega)
  have d4 : decide (65 < first) = false := decide_eq_false (by omega)
  have d5 : decide (65 - first < (N : Int)) = false := decide_eq_false (by omega)
  have HNN : Aside0 (N ≤ 64 ∧ N = L.length * (p.size + q.size)) := ⟨by omega, hN⟩
  have hlen : (L.length : Int) ≤ 64 := by
    have : L.length * 1 ≤ L.length * (p.size + q.size) := Nat.mul_le_mul_left _ (by omega)
    omega
  have HF := Aside0.mk hfull
  have HFS := Aside0.mk hf
  have HBI : Aside0 (∀ (k i : Nat), L[k]? = some i → i ≤ 5864062014000) := ⟨fun k i hk => by rw [hL] at hk; have := plc_bound _ _ _ (List.mem_of_getElem? hk); omega⟩
  obtain ⟨A0, c0, _, g1w, _, _⟩ := h.open_
  have hnn : ((fl ps).length : Int) ≤ 5864062014000 := by omega
  clear h hn hpl hql hp hL hLl hNb hN hmany hfull hf hc
  obtain ⟨MX, hMX⟩ : ∃ MX : Int, MX = (if ((fl ps).length : Int) < ((fl ps).length : Int) + (L.length : Int) * ((q.size : Int) - (p.size : Int)) then ((fl ps).length : Int) + (L.length : Int) * ((q.size : Int) - (p.size : Int)) else ((fl ps).length : Int)) := ⟨_, rfl⟩
  have e0 : decide (0 < (N : Int)) = true := decide_eq_true hz
  have e0' : decide (0 < N) = true := decide_eq_true (by omega)
  have hPb : -4096 ≤ (L.length : Int) * ((q.size : Int) - (p.size : Int)) ∧ (L.length : Int) * ((q.size : Int) - (p.size : Int)) ≤ 4096 := prod_bound (by omega) (by omega) (by omega) (by omega) (by omega) (by omega)
  have e1 : decide ((4096 : Int) < MX) = false := decide_eq_false (by
    rcases HF.out with h | h
    · rw [← HNN.out.2] at h; omega
    · rw [hMX]; split <;> omega)
  clear hz
  go_enter Try.func21, Try.ntmps21
  go_wp2_with (first
    | (go_at_call 37; first
      | ((with_reducible refine (plain_any p _).mono ?_); rintro e w1 ⟨rfl, hb1⟩; rw [HPL.out]; have HB := Aside0.mk (below_then (below_alloc (below_alloc (Below.refl _ _) _) _ : Below w.heap.size w _) (by simp; omega) hb1); have k8 := blk_below (BOX8 w client first) hb1; have k9 := blk_below (BOX9 w client first) hb1; have K8 := Aside0.mk k8; have K9 := Aside0.mk k9; clear hb1 k8 k9)
      | ((with_reducible refine (plain_any q _).mono ?_); rintro e w2 ⟨rfl, hb2⟩; rw [HQL.out]; have HB2 := Aside0.mk (below_then HB.out HB.out.size hb2); replace K8 := Aside0.mk (blk_below K8.out hb2); replace K9 := Aside0.mk (blk_below K9.out hb2); clear hb2))
    | (go_at_call 38; refine (places_any w2 g r ps (HI.out.below HB2.out) HN.out p HP.out (plB_size HPL.out) 0 (by omega) true).mono ?_; rintro e w3 ⟨v, rfl, hv, hb3⟩; rw [show (0 : Int).toNat = 0 from rfl, ← HL.out] at hv; obtain ⟨AV, cV, rfl, hcV, hCV⟩ := Kd.R_reads hv; rw [List.length_map] at hcV hCV ⊢; have HCV := Aside0.mk hCV; have HcV := Aside0.mk hcV; have HV := Aside0.mk hv; have HB3 := Aside0.mk (below_then HB2.out HB2.out.size hb3); replace K8 := Aside0.mk (blk_below K8.out hb3); replace K9 := Aside0.mk (blk_below K9.out hb3); have x8 : w3.cell? ⟨w.heap.size, 0, none⟩ = some (.int .i64 client) := (blk_cell K8.out 0).trans rfl; have x9 : w3.cell? ⟨w.heap.size + 1, 0, none⟩ = some (.int .i64 first) := (blk_cell K9.out 0).trans rfl; clear hv hb3 hcV hCV))
  obtain ⟨A1, c1', _, g1w3, _, _⟩ := (HI.out.below HB3.out).open_
  go_quiet (fail)
  rw [← hMX, e1]
  clear hMX hPb
  go_wp2
  try simp only [hM]
  clear hM
  have HVR : Aside0 (Kd.R (Kd.int .i64) 3 w3 w2.heap.size (fun _ => True) (.slice AV L.length cV) (L.map fun (j : Nat) => (j : Int))) := ⟨by have := HV.out; rwa [List.length_map] at this⟩
  have hrow := fun (W : World) (o : Obj) (n : Nat) => Kd.R_alloc (Kd.R_drewN HVR.out n) o
  have HROW := Aside0.mk hrow
  have o15 : w3.heap.size = w3.heap.size := rfl
  have HS0 : Aside0 (∀ n : Nat, SwS w ((w3.drewN n).alloc (.cells #[.slice none 0 0] 39)) w.heap.size (w.heap.size + 1) w3.heap.size client first (mkOps client first [])) := ⟨fun n => ⟨blk_alloc (blk_drewN K8.out n) _, blk_alloc (blk_drewN K9.out n) _, ⟨_, by have := heap_alloc_new (w3.drewN n) (.cells #[.slice none 0 0] 39); exact this, Kd.R_nil _ _ _ _ _⟩, below_alloc (pw_below_drewN HB3.out n) _, HB3.out.size⟩⟩
  clear hrow o15
  go_loopw [91] (fun v91 wr => ∃ k : Nat, v91 = .int .i64 (k : Int) ∧ (k : Int) ≤ (L.length : Int) ∧ Aside0 (SwS w wr w.heap.size (w.heap.size + 1) w3.heap.size client first (mkOps client first (raws p.size q L k))) ∧ Aside0 (Kd.R (Kd.int .i64) 3 wr w2.heap.size (fun _ => True) (.slice AV L.length cV) (L.map fun (j : Nat) => (j : Int)))) (fun v91 _ => L.length - (intOf v91).toNat)
  case atStart => exact ⟨0, rfl, by omega, ⟨HS0.out _⟩, ⟨HROW.out w _ _⟩⟩
  case round =>
    obtain ⟨k, rfl, hk, HS, HV⟩ := hrel
    have hk0 : (0 : Int) ≤ (k : Int) := by omega
    by_cases hlt : (k : Int) < (L.length : Int)
    · have c1 := decide_eq_true hlt
      obtain ⟨i, hi⟩ : ∃ i, L[k]? = some i := ⟨_, List.getElem?_eq_getElem (by omega)⟩
      have HIK := Aside0.mk hi
      obtain ⟨hr1, hr2, hCr⟩ := Kd.R_reads' HV.out
      clear hr1 hr2
      rw [List.length_map] at hCr
      obtain ⟨ad, rfl, hcell⟩ := atI hCr (i := k) (by omega)
      rw [show gt1 L k = (i : Int) by unfold gt1; rw [hi]] at hcell
      have hib : i ≤ 5864062014000 := HBI.out k i hi
      obtain ⟨D2, hD2⟩ : ∃ D2 : Int, D2 = (k : Int) * ((q.size : Int) - (p.size : Int)) := ⟨_, rfl⟩
      have hD2b : -4096 ≤ D2 ∧ D2 ≤ 4096 := by rw [hD2]; exact prod_bound (by omega) (by omega) (by omega) (by omega) (by omega) (by omega)
      have hDk : wrap64 ((k : Int) * ((q.size : Int) - (p.size : Int))) = D2 := by rw [← hD2]; exact w64 (by omega) (by omega)
      have hDk' : IntKind.i64.wrap ((k : Int) * ((q.size : Int) - (p.size : Int))) = D2 := by rw [← hD2]; exact IntWalk.i64_in _ (by omega)
      have HD2 := Aside0.mk hD2
      have hD2l := hD2b.1
      have hD2h := hD2b.2
      have HLn : Aside0 ((raws p.size q L k).length + (p.size + q.size) ≤ 64) := ⟨by
        rw [raws_length]
        have h1 : (k + 1) * (p.size + q.size) ≤ L.length * (p.size + q.size) := Nat.mul_le_mul_right _ (by omega)
        rw [Nat.succ_mul] at h1
        have := HNN.out
        omega⟩
      have hraw : raws p.size q L (k + 1) = raws p.size q L k ++ (List.replicate p.size ((2 : Int), (i : Int) + D2, (0 : Int)) ++ (List.range q.size).map fun (j : Nat) => ((1 : Int), (i : Int) + D2 + (j : Int), bt q j)) := by
        rw [raws, rawAt, HD2.out, List.getD_eq_getElem?_getD, HIK.out]
        rfl
      have HRAW := Aside0.mk hraw
      clear hi hCr hD2 hD2b hraw
      go_wp2
      clear hDk hDk'
      obtain ⟨W1, rfl⟩ : ∃ W1 : World, W1 = wr := ⟨_, rfl⟩
      go_loopw [103] (fun v103 wr => ∃ j : Nat, v103 = .int .i64 (j : Int) ∧ (j : Int) ≤ (p.size : Int) ∧ Aside0 (SwS w wr w.heap.size (w.heap.size + 1) w3.heap.size client first (mkOps client first (raws p.size q L k ++ List.replicate j ((2 : Int), (i : Int) + D2, (0 : Int))))) ∧ Aside0 (Kd.R (Kd.int .i64) 3 wr w2.heap.size (fun _ => True) (.slice (some ad) L.length cV) (L.map fun (j : Nat) => (j : Int)))) (fun v103 _ => p.size - (intOf v103).toNat)
      case atStart => exact ⟨0, rfl, by omega, ⟨by rw [List.replicate_zero, List.append_nil]; exact HS.out⟩, HV⟩
      case round =>
        clear HS HV hcell
        obtain ⟨j, rfl, hj, HS, HV⟩ := hrel
        by_cases hjl : (j : Int) < (p.size : Int)
        · have c2 := decide_eq_true hjl
          go_wp2_with (go_at_call 40; go_loud (refine (put_any w wr w.heap.size (w.heap.size + 1) w3.heap.size client first _ HS.out 2 ((i : Int) + D2) 0 (by rw [mkOps_length, List.length_append, List.length_replicate]; have := HLn.out; omega) HFS.out).mono ?_; rintro e w8 ⟨rfl, hs8, hk8⟩; rw [← mkOps_snoc client first _ ((2 : Int), (i : Int) + D2, (0 : Int)), List.append_assoc, ← List.replicate_succ'] at hs8; have HS8 := Aside0.mk hs8; have HV8 := Aside0.mk (hk8.row HV.out); clear hs8 hk8))
          go_roundw
          case rel => exact ⟨j + 1, by go_num, by omega, HS8, HV8⟩
          case measure => simp [intOf]; omega
        · have c2 := decide_eq_false hjl
          obtain rfl : j = p.size := by omega
          go_wp2
          obtain ⟨W2, rfl⟩ : ∃ W2 : World, W2 = wr := ⟨_, rfl⟩
          go_loopw [111, 20] (fun v111 v20 wr => ∃ j : Nat, v111 = .int .i64 (j : Int) ∧ (j : Int) ≤ (q.size : Int) ∧ Aside0 (SwS w wr w.heap.size (w.heap.size + 1) w3.heap.size client first (mkOps client first (raws p.size q L k ++ (List.replicate p.size ((2 : Int), (i : Int) + D2, (0 : Int)) ++ (List.range j).map fun (j : Nat) => ((1 : Int), (i : Int) + D2 + (j : Int), bt q j))))) ∧ Aside0 (Kd.R (Kd.int .i64) 3 wr w2.heap.size (fun _ => True) (.slice (some ad) L.length cV) (L.map fun (j : Nat) => (j : Int)))) (fun v111 _ _ => q.size - (intOf v111).toNat)
          case atStart => exact ⟨0, rfl, by omega, ⟨by rw [List.range_zero, List.map_nil, List.append_nil]; exact HS.out⟩, HV⟩
          case round =>
            clear HS HV c2
            obtain ⟨j, rfl, hj, HS, HV⟩ := hrel
            by_cases hjl : (j : Int) < (q.size : Int)
            · have c2 := decide_eq_true hjl
              have hj0 : (0 : Int) ≤ (j : Int) := by omega
              have hqs : ∀ h : j < q.size, ((q[j]'h).toNat : Int) = bt q j := fun h => bt_at q ((j : Nat) : Int) (by rw [Int.toNat_natCast]; exact h)
              go_wp2_with (go_at_call 40; go_loud (refine (put_any w wr w.heap.size (w.heap.size + 1) w3.heap.size client first _ HS.out 1 ((i : Int) + D2 + (j : Int)) (bt q j) (by rw [mkOps_length, List.length_append, List.length_append, List.length_replicate, List.length_map, List.length_range]; have := HLn.out; omega) HFS.out).mono ?_; rintro e w8 ⟨rfl, hs8, hk8⟩; rw [← mkOps_snoc client first _ ((1 : Int), (i : Int) + D2 + (j : Int), bt q j), List.append_assoc, List.append_assoc, ← range_snoc] at hs8; have HS8 := Aside0.mk hs8; have HV8 := Aside0.mk (hk8.row HV.out); clear hs8 hk8))
              go_roundw
              case rel => exact ⟨j + 1, by go_num, by omega, HS8, HV8⟩
              case measure => simp [intOf]; omega
            · have c2 := decide_eq_false hjl
              obtain rfl : j = q.size := by omega
              go_wp2
              go_roundw
              case rel => exact ⟨k + 1, by go_num, by omega, ⟨by rw [HRAW.out]; exact HS.out⟩, HV⟩
              case measure => simp [intOf]; omega
    · have c1 := decide_eq_false hlt
      obtain rfl : k = L.length := by omega
      obtain ⟨v9, hv9, hr9⟩ := HS.out.out
      obtain ⟨A9, c9, rfl⟩ := Kd.R_slice hr9
      have x15 : wr.cell? ⟨w3.heap.size, 0, none⟩ = some (.slice A9 (mkOps client first (raws p.size q L L.length)).length c9) := (blk_cell hv9 0).trans rfl
      have HR9 := Aside0.mk hr9
      clear hv9 hr9
      go_wp2
      go_ret2
      exact ⟨_, rfl, HR9.out, HS.out.bel⟩
end Go.Proofs.Ytfngcabckfmhnaa.B
