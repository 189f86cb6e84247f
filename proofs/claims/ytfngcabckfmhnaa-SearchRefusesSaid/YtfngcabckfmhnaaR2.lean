/- SearchRefuses: the walk of the law. -/
import Derived.Test.YtfngcabckfmhnaaR0
namespace Go.Proofs.Ytfngcabckfmhnaa.B
open Go.RowKit Go.Proofs.YtfngcabckfmhnaaW.PrintWords Go.Proofs.YtfngcabckfmhnaaW.PrintLast Go.Proofs.YtfngcabckfmhnaaW.PrintMore Go.Proofs.Ytfngcabckfmhnaa.PA
set_option linter.unusedVariables false
set_option linter.unusedSimpArgs false
set_option maxHeartbeats 32000000 in
set_option maxRecDepth 100000 in
theorem refuses_mid (T : ByteArray) (N B K P C CL SQ : Int) (w : World) (hT : T.size ≤ 140737488351232) (hB : 0 ≤ B ∧ B ≤ 255) (hC : 0 ≤ C ∧ C ≤ 255) (m : Nat) (hm : jotterlaw24_into.f N 70 = some (m : Int)) (hm2 : 1 ≤ m ∧ m ≤ 64) :
    Calls Try.prog 6 #[.agg #[.string T, .int .i64 N, .int .u8 B], .agg #[.int .i64 K, .int .i64 P, .int .u8 C, .int .i64 CL, .int .i64 SQ]] w (TrueAns w) := by
  have HBB := Aside0.mk hB
  have HCC := Aside0.mk hC
  have HM := Aside0.mk hm
  have HM2 := Aside0.mk hm2
  have hT2 : ¬ 9223372036854775807 < 1 + T.size := by omega
  replace hT2 := eq_false hT2
  obtain ⟨n, hn⟩ : ∃ n, n = min (({ data := #[98] } : ByteArray) ++ T).size 500 := ⟨_, rfl⟩
  obtain ⟨ke, hke⟩ := elems_pure (({ data := #[98] } : ByteArray) ++ T) 500 (by omega)
  rw [← hn] at hke
  have hS1 : (({ data := #[98] } : ByteArray) ++ T).size = 1 + T.size := by rw [ByteArray.size_append]; rfl
  have hn' : 1 ≤ n ∧ n ≤ 500 := by rw [hn, hS1]; omega
  have HN := Aside0.mk hn'
  have HNt : Aside0 (n ≤ (({ data := #[98] } : ByteArray) ++ T).size) := ⟨by omega⟩
  obtain ⟨xs, hxs⟩ : ∃ xs, xs = elemsL (({ data := #[98] } : ByteArray) ++ T) n := ⟨_, rfl⟩
  have HX := Aside0.mk hxs
  have HXL : Aside0 (xs.length = n) := ⟨by rw [hxs]; exact elemsL_length _ _⟩
  rw [← hxs] at hke
  have HKE := Aside0.mk hke
  clear hke hn hn' hxs hS1 hB hC hm hm2 hT
  obtain ⟨kt, hkt⟩ := text_pure xs (by rw [HXL.out]; have := HN.out; omega)
  obtain ⟨s, hs⟩ : ∃ s, s = strOfNums (xs.map (·.f0)) := ⟨_, rfl⟩
  have HLB : Aside0 ((65 : Int) - 65 < (((plc s ⟨#[98]⟩ 0 true).length * ((⟨#[98]⟩ : ByteArray).size + (⟨#[]⟩ : ByteArray).size) : Nat) : Int)) := ⟨plc_lots (by rw [hs, HX.out]; exact plc_first T n HN.out.1 HNt.out)⟩
  rw [← hs] at hkt
  have HKT := Aside0.mk hkt
  have HSS := Aside0.mk hs
  clear hkt hs
  go_enter Try.func6, Try.ntmps6
  go_wp2_with (first
    | (go_at_call 11; go_loud (refine (jotterlaw24_elems.calls ke (({ data := #[98] } : ByteArray) ++ T) 500 xs _ HKE.out).mono ?_; rintro e w1 ⟨v0, rfl, hr1, hb1⟩; obtain ⟨A0, c0, rfl⟩ := Kd.R_slice hr1; have HR := Aside0.mk hr1; have HQ := Aside0.mk (boxes w T N B K P C CL SQ hb1); clear hr1 hb1; replace HR := Aside0.mk (Kd.R_lower HR.out HQ.out.1)))
    | (go_at_call 16; go_loud (obtain ⟨_, hc0, hC0⟩ := Kd.R_reads' HR.out; refine (doc_Text.calls kt A0 c0 xs s w1 hC0 hc0 HKT.out).mono ?_; clear hc0 hC0; rintro e w2 ⟨rfl, hb2⟩; replace HR := Aside0.mk (Kd.R_below HR.out hb2); replace HQ := Aside0.mk (boxes_step HQ.out.2 hb2); clear hb2))
    | (go_at_call 12; go_loud (obtain ⟨_, hc0, hC0⟩ := Kd.R_reads' HR.out; refine (new_any A0 c0 xs w2 hC0 hc0 (by rw [HXL.out]; have := HN.out; omega)).mono ?_; clear hc0 hC0; rintro e w3 ⟨g, r, ps, rfl, hi2, hf2, hg2, hr2, hn2, hb3⟩; have HF := Aside0.mk hf2; have HNP := Aside0.mk hn2; have HG : Aside0 (w.heap.size ≤ g ∧ ∀ k, r = some k → w.heap.size ≤ k) := ⟨by have := HQ.out.2.1.size; omega, fun k hk => by have := hr2 k hk; have := HQ.out.2.1.size; omega⟩; replace HQ := Aside0.mk (boxes_step HQ.out.2 hb3); have HS : Aside0 (RS w w3 g r ps A0 c0 xs T N B K P C CL SQ) := ⟨⟨hi2, Kd.R_below HR.out hb3, HQ.out.2.1, HQ.out.2.2.1, HQ.out.2.2.2⟩⟩; have q1 : w3.cell? ⟨w.heap.size, 1, none⟩ = some (.int .i64 N) := (blk_cell HS.out.q 1).trans rfl; clear hi2 hf2 hg2 hr2 hn2 hb3 HR HQ))
    | (go_at_call 19; go_loud (refine (jotterlaw24_into.calls N 70 m w3 HM.out).mono ?_; rintro e w4 ⟨rfl, hd⟩; have hb4 : Below w3.heap.size w3 w4 := hd.below; replace HS := Aside0.mk (HS.out.step hb4); clear q1 hd hb4)))
  have HFL : Aside0 ((fl ps).length = xs.length) := ⟨by rw [HF.out, List.length_map]⟩
  have HNX : Aside0 (xs.length ≤ 500) := ⟨by rw [HXL.out]; exact HN.out.2⟩
  have HFS : Aside0 (strOfNums (fl ps) = s) := ⟨by rw [HF.out, ← HSS.out]⟩
  replace HN : Aside0 (xs.length ≤ 500) := HNX
  go_loopw [10, 11] (fun v10 v11 wr => ∃ (i : Nat), v11 = .int .i64 (i : Int) ∧ (i : Int) ≤ (m : Int) ∧ Aside0 (Kd.R (Kd.int .u8) 5 wr w4.heap.size (fun _ => True) v10 (List.replicate i 98)) ∧ Aside0 (Below w4.heap.size w4 wr)) (fun _ v11 _ => m - (intOf v11).toNat)
  case atStart => exact ⟨0, rfl, by omega, ⟨Kd.R_nil _ _ _ _ _⟩, ⟨Below.refl _ _⟩⟩
  case round =>
    obtain ⟨i, rfl, hi, HO, HW⟩ := hrel
    by_cases hlt : (i : Int) < (m : Int)
    · have c1 := decide_eq_true hlt
      have HI : Aside0 (i < 70) := ⟨by have := HM2.out; omega⟩
      have hie : (i : Int) ≤ 69 := by have := HI.out; omega
      have hi0 : (0 : Int) ≤ (i : Int) := by omega
      have HI2 : Aside0 (((i + 1 : Nat) : Int) ≤ (m : Int)) := ⟨by omega⟩
      go_wp2_with (((with_reducible refine gate_builtin (b := .append) (xs := #[.tmp 43, .tmp 44]) rfl ?_); at_builtin; refine Kd.R_append (Kd.int .u8) (w0 := w4) w4.heap.size rfl (.tmp 43) (.tmp 44) 53 5 (.int .u8 0) 1 rfl Try.underlying53 info5 rfl (by decide) (by omega) u10 (List.replicate i 98) 98 [.int .u8 98] (fun _ => True) (fun _ => False) rfl rfl ?aP (fun _ hk => hk.elim) ?aF ?aO ?aB ?aS ?aL ?_; (case aP => exact rfl); (case aB => exact (by repeat (first | (with_reducible first | exact HW.out | apply below_alloc | apply pw_below_drewN | apply below_drew1) | exact HW.out))); (case aF => exact (fun _ _ => trivial)); (case aO => exact (by (with_reducible repeat (first | apply Kd.R_alloc | apply Kd.R_drewN | apply Kd.R_drew)); exact HO.out)); (case aS => exact (below_size (by repeat (first | (with_reducible first | exact HW.out | apply below_alloc | apply pw_below_drewN | apply below_drew1) | exact HW.out)))); (case aL => have := HI.out; simp; omega); intro v9 w9 ho hb hg hat; rw [← List.replicate_succ'] at ho; replace HO := Aside0.mk ho; replace HW := Aside0.mk hb; clear ho hb hg hat))
      go_roundw
      case rel => exact ⟨i + 1, by go_num, HI2.out, HO, HW⟩
      case measure => simp [intOf]; have := HI2.out; omega
    · have c1 := decide_eq_false hlt
      obtain rfl : i = m := by omega
      clear hi hlt
      replace HS := Aside0.mk (HS.out.step HW.out)
      obtain ⟨p, hp⟩ : ∃ p, p = strOfNums (List.replicate i 98) := ⟨_, rfl⟩
      have HPN := Aside0.mk hp
      obtain ⟨p2, hp2⟩ : ∃ p2, p2 = strOfNums [98, B] := ⟨_, rfl⟩
      have HP2 := Aside0.mk hp2
      have HP2S : Aside0 (1 ≤ p2.size) := ⟨by rw [hp2, strOfNums_size]; show 1 ≤ 2; omega⟩
      have hpz : p.size = i := by rw [hp, strOfNums_size, List.length_replicate]
      have HPS : Aside0 (1 ≤ p.size) := ⟨by rw [hpz]; exact HM2.out.1⟩
      have HPL : Aside0 (plB p = true) := ⟨by rw [hp]; exact plB_reps i HM2.out.2⟩
      have HPL2 : Aside0 (plB p = true) := ⟨by rw [hp]; exact plB_reps i HM2.out.2⟩
      have t1 : decide ((i : Int) < 1) = false := decide_eq_false (by have := HM2.out; omega)
      have t2 : decide ((64 : Int) < (i : Int)) = false := decide_eq_false (by have := HM2.out; omega)
      clear hp hp2 hpz
      have hcv := own_string (P := Try.prog) Try.underlying53 Try.underlying5 Try.underlying9 (Kd.own_of_R HO.out)
      rw [← HPN.out] at hcv
      by_cases h32 : 32 ≤ B
      · have b1 := decide_eq_true h32
        by_cases h126 : B ≤ 126
        · have b2 := decide_eq_true h126
          have HP2L : Aside0 (plB p2 = true) := ⟨by rw [HP2.out, plB_two B HBB.out, decide_eq_true ⟨h32, h126⟩]⟩
          clear h32 h126
          by_cases hfit : fit xs.length K P C CL SQ = 0
          · have HFIT := Aside0.mk hfit
            clear hfit
            have HAL := Aside0.mk (app_small HFIT.out HNX.out)
            obtain ⟨ka, hka⟩ := text_pure (app xs K P C CL SQ) (by have := HAL.out; omega)
            have HKA := Aside0.mk hka
            clear hka
            go_wp2_with (first
        | (go_at_call 14; go_loud (refine (find_ok wr g r ps HS.out.x (by rw [HFL.out]; have := HN.out; omega) p HPS.out HPL.out).mono ?_; rintro e w1 ⟨vF, rfl, _, hb⟩; replace HS := Aside0.mk (HS.out.step hb); replace HO := Aside0.mk (Kd.R_below HO.out hb); clear hcv; have hcv := own_string (P := Try.prog) Try.underlying53 Try.underlying5 Try.underlying9 (Kd.own_of_R HO.out); rw [← HPN.out] at hcv;  clear hb))
        | (go_at_call 17; go_loud (refine (next_ok w1 g r ps HS.out.x (by rw [HFL.out]; have := HN.out; omega) p HPS.out HPL.out 0).mono ?_; rintro e w2 ⟨rfl, hb⟩; replace HS := Aside0.mk (HS.out.step hb); replace HO := Aside0.mk (Kd.R_below HO.out hb); clear hcv; have hcv := own_string (P := Try.prog) Try.underlying53 Try.underlying5 Try.underlying9 (Kd.own_of_R HO.out); rw [← HPN.out] at hcv;  clear hb))
        | (go_at_call 21; go_loud (refine (swap_any w2 g r ps HS.out.x (by rw [HFL.out]; have := HN.out; omega) ⟨#[98, 90]⟩ p (by decide) (by rfl) HPL2.out 1 1).mono ?_; rintro e w3 ⟨vG, nG, rfl, hnG, hb⟩; have g1 : decide (nG = 240) = false := decide_eq_false (by omega); have g2 : (nG == 240) = false := beq_eq_false_iff_ne.mpr (by omega); have g3 : (nG != 240) = true := bne_iff_ne.mpr (by omega); clear hnG; replace HS := Aside0.mk (HS.out.step hb); clear hb hcv; have hc2 := conv2 w3 B; rw [← HP2.out] at hc2; replace HS := Aside0.mk (HS.out.step (Below.alloc (Below.refl _ _) (Nat.le_refl _) (.cells #[.int .u8 98, .int .u8 B] 5)))))
        | (go_at_call 14; go_loud (refine (find_ok (w3.alloc (.cells #[.int .u8 98, .int .u8 B] 5)) g r ps HS.out.x (by rw [HFL.out]; have := HN.out; omega) p2 HP2S.out HP2L.out).mono ?_; rintro e w4 ⟨vF2, rfl, _, hb⟩; replace HS := Aside0.mk (HS.out.step hb); clear hb hc2; have hc2 := conv2 w4 B; rw [← HP2.out] at hc2; replace HS := Aside0.mk (HS.out.step (Below.alloc (Below.refl _ _) (Nat.le_refl _) (.cells #[.int .u8 98, .int .u8 B] 5)))))
        | (go_at_call 21; go_loud (refine (swap_any (w4.alloc (.cells #[.int .u8 98, .int .u8 B] 5)) g r ps HS.out.x (by rw [HFL.out]; have := HN.out; omega) ⟨#[98, 90]⟩ p2 (by decide) (by rfl) HP2L.out 1 65).mono ?_; rintro e w5 ⟨vH, nH, rfl, hnH, hb⟩; have i1 : decide (nH = 240) = false := decide_eq_false (by omega); have i2 : (nH == 240) = false := beq_eq_false_iff_ne.mpr (by omega); have i3 : (nH != 240) = true := bne_iff_ne.mpr (by omega); clear hnH; replace HS := Aside0.mk (HS.out.step hb); clear hb hc2))
        | (go_at_call 21; go_loud (refine (swap_maker w5 g r ps HS.out.x (by rw [HFL.out]; have := HN.out; omega) ⟨#[98]⟩ ⟨#[]⟩ (by decide) (by rfl) (by rfl) 0 1 (.inl (by omega))).mono ?_; rintro e w6 ⟨rfl, hb⟩; replace HS := Aside0.mk (HS.out.step hb); clear hb))
        | (go_at_call 21; go_loud (refine (swap_maker w6 g r ps HS.out.x (by rw [HFL.out]; have := HN.out; omega) ⟨#[98]⟩ ⟨#[]⟩ (by decide) (by rfl) (by rfl) 65 1 (.inr (.inl (by omega)))).mono ?_; rintro e w7 ⟨rfl, hb⟩; replace HS := Aside0.mk (HS.out.step hb); clear hb))
        | (go_at_call 21; go_loud (refine (swap_maker w7 g r ps HS.out.x (by rw [HFL.out]; have := HN.out; omega) ⟨#[98]⟩ ⟨#[]⟩ (by decide) (by rfl) (by rfl) 1 0 (.inr (.inr (.inl (by omega))))).mono ?_; rintro e w8 ⟨rfl, hb⟩; replace HS := Aside0.mk (HS.out.step hb); clear hb))
        | (go_at_call 21; go_loud (refine (swap_maker w8 g r ps HS.out.x (by rw [HFL.out]; have := HN.out; omega) ⟨#[98]⟩ ⟨#[]⟩ (by decide) (by rfl) (by rfl) 1 65 (.inr (.inr (.inr (.inr (by rw [HFS.out]; exact HLB.out)))))).mono ?_; rintro e w9 ⟨rfl, hb⟩; replace HS := Aside0.mk (HS.out.step hb); clear hb))
        | (go_at_call 20; go_loud (refine (text_any w9 g r ps HS.out.x (by rw [HFL.out]; have := HN.out; omega)).mono ?_; rintro e w10 ⟨rfl, hb⟩; rw [HFS.out]; replace HS := Aside0.mk (HS.out.step hb); clear hb; have x0 : w10.cell? ⟨w.heap.size + 1, 0, none⟩ = some (.int .i64 K) := (blk_cell HS.out.o 0).trans rfl; have x1 : w10.cell? ⟨w.heap.size + 1, 1, none⟩ = some (.int .i64 P) := (blk_cell HS.out.o 1).trans rfl; have x2 : w10.cell? ⟨w.heap.size + 1, 2, none⟩ = some (.int .u8 C) := (blk_cell HS.out.o 2).trans rfl; have x3 : w10.cell? ⟨w.heap.size + 1, 3, none⟩ = some (.int .i64 CL) := (blk_cell HS.out.o 3).trans rfl; have x4 : w10.cell? ⟨w.heap.size + 1, 4, none⟩ = some (.int .i64 SQ) := (blk_cell HS.out.o 4).trans rfl))
        | (go_at_call 24; go_loud (obtain ⟨_, hcd, hCd⟩ := Kd.R_reads' HS.out.e; refine (apply_ok A0 xs c0 w10 K P C CL SQ hCd hcd HCC.out HFIT.out).mono ?_; clear hcd hCd; rintro e w11 ⟨v11, rfl, hv, hb⟩; obtain ⟨A9, c9, rfl⟩ := Kd.R_slice hv; have HV := Aside0.mk (Kd.R_lower hv HS.out.b.size); replace HS := Aside0.mk (HS.out.step hb); clear hb hv; clear x0 x1 x2 x3 x4; have x0 : w11.cell? ⟨w.heap.size + 1, 0, none⟩ = some (.int .i64 K) := (blk_cell HS.out.o 0).trans rfl; have x1 : w11.cell? ⟨w.heap.size + 1, 1, none⟩ = some (.int .i64 P) := (blk_cell HS.out.o 1).trans rfl; have x2 : w11.cell? ⟨w.heap.size + 1, 2, none⟩ = some (.int .u8 C) := (blk_cell HS.out.o 2).trans rfl; have x3 : w11.cell? ⟨w.heap.size + 1, 3, none⟩ = some (.int .i64 CL) := (blk_cell HS.out.o 3).trans rfl; have x4 : w11.cell? ⟨w.heap.size + 1, 4, none⟩ = some (.int .i64 SQ) := (blk_cell HS.out.o 4).trans rfl))
        | (go_at_call 23; go_loud (refine (iapply_ok w11 g r ps HS.out.x (by have := HS.out.x; have := HNP.out; have := HN.out; omega) K P C CL SQ HCC.out (by rw [HFL.out]; exact HFIT.out)).mono ?_; rintro e w12 ⟨r2, ps2, rfl, hi, hf, hn2, hch⟩; obtain ⟨hbe, hre⟩ := hch.bel HS.out.b HS.out.b.size HG.out.1 HG.out.2; have HI2 := Aside0.mk hi; have HB2 := Aside0.mk hbe; have HV2 := Aside0.mk (hch.row76 HS.out.x HV.out); have HF2 : Aside0 (fl ps2 = (app xs K P C CL SQ).map (·.f0)) := ⟨by rw [hf, app_f0, HF.out]⟩; clear x0 x1 x2 x3 x4 hbe hre hi hf hn2 hch))
        | (go_at_call 20; go_loud (refine (text_any w12 g r2 ps2 HI2.out (by rw [HF2.out, List.length_map]; have := HAL.out; omega)).mono ?_; rintro e w13 ⟨rfl, hb⟩; rw [HF2.out]; replace HV2 := Aside0.mk (Kd.R_below HV2.out hb); replace HB2 := Aside0.mk (below_then HB2.out HB2.out.size hb); clear hb))
        | (go_at_call 16; go_loud (obtain ⟨_, hcd, hCd⟩ := Kd.R_reads' HV2.out; refine (doc_Text.calls ka A9 c9 (app xs K P C CL SQ) _ w13 hCd hcd HKA.out).mono ?_; clear hcd hCd; rintro e w14 ⟨rfl, hb⟩; replace HB2 := Aside0.mk (below_then HB2.out HB2.out.size hb); clear hb)))
            go_ret
            exact ⟨ret_bool (by simp), HB2.out⟩
          · have hne1 : (fit xs.length K P C CL SQ != 0) = true := bne_iff_ne.mpr hfit
            have HFIT := Aside0.mk hfit
            clear hfit
            obtain ⟨nf, hnf⟩ : ∃ nf, nf = fit xs.length K P C CL SQ := ⟨_, rfl⟩
            rw [← hnf] at hne1
            have HNF := Aside0.mk hnf
            clear hnf
            go_wp2_with (first
        | (go_at_call 14; go_loud (refine (find_ok wr g r ps HS.out.x (by rw [HFL.out]; have := HN.out; omega) p HPS.out HPL.out).mono ?_; rintro e w1 ⟨vF, rfl, _, hb⟩; replace HS := Aside0.mk (HS.out.step hb); replace HO := Aside0.mk (Kd.R_below HO.out hb); clear hcv; have hcv := own_string (P := Try.prog) Try.underlying53 Try.underlying5 Try.underlying9 (Kd.own_of_R HO.out); rw [← HPN.out] at hcv;  clear hb))
        | (go_at_call 17; go_loud (refine (next_ok w1 g r ps HS.out.x (by rw [HFL.out]; have := HN.out; omega) p HPS.out HPL.out 0).mono ?_; rintro e w2 ⟨rfl, hb⟩; replace HS := Aside0.mk (HS.out.step hb); replace HO := Aside0.mk (Kd.R_below HO.out hb); clear hcv; have hcv := own_string (P := Try.prog) Try.underlying53 Try.underlying5 Try.underlying9 (Kd.own_of_R HO.out); rw [← HPN.out] at hcv;  clear hb))
        | (go_at_call 21; go_loud (refine (swap_any w2 g r ps HS.out.x (by rw [HFL.out]; have := HN.out; omega) ⟨#[98, 90]⟩ p (by decide) (by rfl) HPL2.out 1 1).mono ?_; rintro e w3 ⟨vG, nG, rfl, hnG, hb⟩; have g1 : decide (nG = 240) = false := decide_eq_false (by omega); have g2 : (nG == 240) = false := beq_eq_false_iff_ne.mpr (by omega); have g3 : (nG != 240) = true := bne_iff_ne.mpr (by omega); clear hnG; replace HS := Aside0.mk (HS.out.step hb); clear hb hcv; have hc2 := conv2 w3 B; rw [← HP2.out] at hc2; replace HS := Aside0.mk (HS.out.step (Below.alloc (Below.refl _ _) (Nat.le_refl _) (.cells #[.int .u8 98, .int .u8 B] 5)))))
        | (go_at_call 14; go_loud (refine (find_ok (w3.alloc (.cells #[.int .u8 98, .int .u8 B] 5)) g r ps HS.out.x (by rw [HFL.out]; have := HN.out; omega) p2 HP2S.out HP2L.out).mono ?_; rintro e w4 ⟨vF2, rfl, _, hb⟩; replace HS := Aside0.mk (HS.out.step hb); clear hb hc2; have hc2 := conv2 w4 B; rw [← HP2.out] at hc2; replace HS := Aside0.mk (HS.out.step (Below.alloc (Below.refl _ _) (Nat.le_refl _) (.cells #[.int .u8 98, .int .u8 B] 5)))))
        | (go_at_call 21; go_loud (refine (swap_any (w4.alloc (.cells #[.int .u8 98, .int .u8 B] 5)) g r ps HS.out.x (by rw [HFL.out]; have := HN.out; omega) ⟨#[98, 90]⟩ p2 (by decide) (by rfl) HP2L.out 1 65).mono ?_; rintro e w5 ⟨vH, nH, rfl, hnH, hb⟩; have i1 : decide (nH = 240) = false := decide_eq_false (by omega); have i2 : (nH == 240) = false := beq_eq_false_iff_ne.mpr (by omega); have i3 : (nH != 240) = true := bne_iff_ne.mpr (by omega); clear hnH; replace HS := Aside0.mk (HS.out.step hb); clear hb hc2))
        | (go_at_call 21; go_loud (refine (swap_maker w5 g r ps HS.out.x (by rw [HFL.out]; have := HN.out; omega) ⟨#[98]⟩ ⟨#[]⟩ (by decide) (by rfl) (by rfl) 0 1 (.inl (by omega))).mono ?_; rintro e w6 ⟨rfl, hb⟩; replace HS := Aside0.mk (HS.out.step hb); clear hb))
        | (go_at_call 21; go_loud (refine (swap_maker w6 g r ps HS.out.x (by rw [HFL.out]; have := HN.out; omega) ⟨#[98]⟩ ⟨#[]⟩ (by decide) (by rfl) (by rfl) 65 1 (.inr (.inl (by omega)))).mono ?_; rintro e w7 ⟨rfl, hb⟩; replace HS := Aside0.mk (HS.out.step hb); clear hb))
        | (go_at_call 21; go_loud (refine (swap_maker w7 g r ps HS.out.x (by rw [HFL.out]; have := HN.out; omega) ⟨#[98]⟩ ⟨#[]⟩ (by decide) (by rfl) (by rfl) 1 0 (.inr (.inr (.inl (by omega))))).mono ?_; rintro e w8 ⟨rfl, hb⟩; replace HS := Aside0.mk (HS.out.step hb); clear hb))
        | (go_at_call 21; go_loud (refine (swap_maker w8 g r ps HS.out.x (by rw [HFL.out]; have := HN.out; omega) ⟨#[98]⟩ ⟨#[]⟩ (by decide) (by rfl) (by rfl) 1 65 (.inr (.inr (.inr (.inr (by rw [HFS.out]; exact HLB.out)))))).mono ?_; rintro e w9 ⟨rfl, hb⟩; replace HS := Aside0.mk (HS.out.step hb); clear hb))
        | (go_at_call 20; go_loud (refine (text_any w9 g r ps HS.out.x (by rw [HFL.out]; have := HN.out; omega)).mono ?_; rintro e w10 ⟨rfl, hb⟩; rw [HFS.out]; replace HS := Aside0.mk (HS.out.step hb); clear hb; have x0 : w10.cell? ⟨w.heap.size + 1, 0, none⟩ = some (.int .i64 K) := (blk_cell HS.out.o 0).trans rfl; have x1 : w10.cell? ⟨w.heap.size + 1, 1, none⟩ = some (.int .i64 P) := (blk_cell HS.out.o 1).trans rfl; have x2 : w10.cell? ⟨w.heap.size + 1, 2, none⟩ = some (.int .u8 C) := (blk_cell HS.out.o 2).trans rfl; have x3 : w10.cell? ⟨w.heap.size + 1, 3, none⟩ = some (.int .i64 CL) := (blk_cell HS.out.o 3).trans rfl; have x4 : w10.cell? ⟨w.heap.size + 1, 4, none⟩ = some (.int .i64 SQ) := (blk_cell HS.out.o 4).trans rfl))
        | (go_at_call 24; go_loud ((with_reducible refine (apply_bad A0 xs c0 w10 K P C CL SQ HCC.out HFIT.out).mono ?_); rintro e w11 ⟨rfl, hb⟩; rw [← HNF.out]; replace HS := Aside0.mk (HS.out.step hb); clear hb; clear x0 x1 x2 x3 x4; have x0 : w11.cell? ⟨w.heap.size + 1, 0, none⟩ = some (.int .i64 K) := (blk_cell HS.out.o 0).trans rfl; have x1 : w11.cell? ⟨w.heap.size + 1, 1, none⟩ = some (.int .i64 P) := (blk_cell HS.out.o 1).trans rfl; have x2 : w11.cell? ⟨w.heap.size + 1, 2, none⟩ = some (.int .u8 C) := (blk_cell HS.out.o 2).trans rfl; have x3 : w11.cell? ⟨w.heap.size + 1, 3, none⟩ = some (.int .i64 CL) := (blk_cell HS.out.o 3).trans rfl; have x4 : w11.cell? ⟨w.heap.size + 1, 4, none⟩ = some (.int .i64 SQ) := (blk_cell HS.out.o 4).trans rfl))
        | (go_at_call 23; go_loud (refine (iapply_bad w11 g r ps HS.out.x K P C CL SQ HCC.out (by rw [HFL.out]; exact HFIT.out)).mono ?_; rintro e w12 ⟨rfl, hb⟩; replace HS := Aside0.mk (HS.out.step hb); clear hb x0 x1 x2 x3 x4))
        | (go_at_call 20; go_loud (refine (text_any w12 g r ps HS.out.x (by rw [HFL.out]; have := HN.out; omega)).mono ?_; rintro e w13 ⟨rfl, hb⟩; rw [HFS.out]; replace HS := Aside0.mk (HS.out.step hb); clear hb)))
            go_ret
            exact ⟨ret_bool (by simp), HS.out.b⟩
        · have b2 := decide_eq_false h126
          have HP2L : Aside0 (plB p2 = false) := ⟨by rw [HP2.out, plB_two B HBB.out, decide_eq_false (by omega)]⟩
          clear h32 h126
          by_cases hfit : fit xs.length K P C CL SQ = 0
          · have HFIT := Aside0.mk hfit
            clear hfit
            have HAL := Aside0.mk (app_small HFIT.out HNX.out)
            obtain ⟨ka, hka⟩ := text_pure (app xs K P C CL SQ) (by have := HAL.out; omega)
            have HKA := Aside0.mk hka
            clear hka
            go_wp2_with (first
        | (go_at_call 14; go_loud (refine (find_ok wr g r ps HS.out.x (by rw [HFL.out]; have := HN.out; omega) p HPS.out HPL.out).mono ?_; rintro e w1 ⟨vF, rfl, _, hb⟩; replace HS := Aside0.mk (HS.out.step hb); replace HO := Aside0.mk (Kd.R_below HO.out hb); clear hcv; have hcv := own_string (P := Try.prog) Try.underlying53 Try.underlying5 Try.underlying9 (Kd.own_of_R HO.out); rw [← HPN.out] at hcv;  clear hb))
        | (go_at_call 17; go_loud (refine (next_ok w1 g r ps HS.out.x (by rw [HFL.out]; have := HN.out; omega) p HPS.out HPL.out 0).mono ?_; rintro e w2 ⟨rfl, hb⟩; replace HS := Aside0.mk (HS.out.step hb); replace HO := Aside0.mk (Kd.R_below HO.out hb); clear hcv; have hcv := own_string (P := Try.prog) Try.underlying53 Try.underlying5 Try.underlying9 (Kd.own_of_R HO.out); rw [← HPN.out] at hcv;  clear hb))
        | (go_at_call 21; go_loud (refine (swap_any w2 g r ps HS.out.x (by rw [HFL.out]; have := HN.out; omega) ⟨#[98, 90]⟩ p (by decide) (by rfl) HPL2.out 1 1).mono ?_; rintro e w3 ⟨vG, nG, rfl, hnG, hb⟩; have g1 : decide (nG = 240) = false := decide_eq_false (by omega); have g2 : (nG == 240) = false := beq_eq_false_iff_ne.mpr (by omega); have g3 : (nG != 240) = true := bne_iff_ne.mpr (by omega); clear hnG; replace HS := Aside0.mk (HS.out.step hb); clear hb hcv; have hc2 := conv2 w3 B; rw [← HP2.out] at hc2; replace HS := Aside0.mk (HS.out.step (Below.alloc (Below.refl _ _) (Nat.le_refl _) (.cells #[.int .u8 98, .int .u8 B] 5)))))
        | (go_at_call 14; go_loud ((with_reducible refine (find_bad (w3.alloc (.cells #[.int .u8 98, .int .u8 B] 5)) _ p2 (.inl HP2L.out)).mono ?_); rintro e w4 ⟨rfl, hb⟩; replace HS := Aside0.mk (HS.out.step hb); clear hb hc2; have hc2 := conv2 w4 B; rw [← HP2.out] at hc2; replace HS := Aside0.mk (HS.out.step (Below.alloc (Below.refl _ _) (Nat.le_refl _) (.cells #[.int .u8 98, .int .u8 B] 5)))))
        | (go_at_call 21; go_loud ((with_reducible refine (swap_needle (w4.alloc (.cells #[.int .u8 98, .int .u8 B] 5)) _ ⟨#[98, 90]⟩ p2 1 65 (.inr (.inr HP2L.out))).mono ?_); rintro e w5 ⟨rfl, hb⟩; replace HS := Aside0.mk (HS.out.step hb); clear hb hc2))
        | (go_at_call 21; go_loud (refine (swap_maker w5 g r ps HS.out.x (by rw [HFL.out]; have := HN.out; omega) ⟨#[98]⟩ ⟨#[]⟩ (by decide) (by rfl) (by rfl) 0 1 (.inl (by omega))).mono ?_; rintro e w6 ⟨rfl, hb⟩; replace HS := Aside0.mk (HS.out.step hb); clear hb))
        | (go_at_call 21; go_loud (refine (swap_maker w6 g r ps HS.out.x (by rw [HFL.out]; have := HN.out; omega) ⟨#[98]⟩ ⟨#[]⟩ (by decide) (by rfl) (by rfl) 65 1 (.inr (.inl (by omega)))).mono ?_; rintro e w7 ⟨rfl, hb⟩; replace HS := Aside0.mk (HS.out.step hb); clear hb))
        | (go_at_call 21; go_loud (refine (swap_maker w7 g r ps HS.out.x (by rw [HFL.out]; have := HN.out; omega) ⟨#[98]⟩ ⟨#[]⟩ (by decide) (by rfl) (by rfl) 1 0 (.inr (.inr (.inl (by omega))))).mono ?_; rintro e w8 ⟨rfl, hb⟩; replace HS := Aside0.mk (HS.out.step hb); clear hb))
        | (go_at_call 21; go_loud (refine (swap_maker w8 g r ps HS.out.x (by rw [HFL.out]; have := HN.out; omega) ⟨#[98]⟩ ⟨#[]⟩ (by decide) (by rfl) (by rfl) 1 65 (.inr (.inr (.inr (.inr (by rw [HFS.out]; exact HLB.out)))))).mono ?_; rintro e w9 ⟨rfl, hb⟩; replace HS := Aside0.mk (HS.out.step hb); clear hb))
        | (go_at_call 20; go_loud (refine (text_any w9 g r ps HS.out.x (by rw [HFL.out]; have := HN.out; omega)).mono ?_; rintro e w10 ⟨rfl, hb⟩; rw [HFS.out]; replace HS := Aside0.mk (HS.out.step hb); clear hb; have x0 : w10.cell? ⟨w.heap.size + 1, 0, none⟩ = some (.int .i64 K) := (blk_cell HS.out.o 0).trans rfl; have x1 : w10.cell? ⟨w.heap.size + 1, 1, none⟩ = some (.int .i64 P) := (blk_cell HS.out.o 1).trans rfl; have x2 : w10.cell? ⟨w.heap.size + 1, 2, none⟩ = some (.int .u8 C) := (blk_cell HS.out.o 2).trans rfl; have x3 : w10.cell? ⟨w.heap.size + 1, 3, none⟩ = some (.int .i64 CL) := (blk_cell HS.out.o 3).trans rfl; have x4 : w10.cell? ⟨w.heap.size + 1, 4, none⟩ = some (.int .i64 SQ) := (blk_cell HS.out.o 4).trans rfl))
        | (go_at_call 24; go_loud (obtain ⟨_, hcd, hCd⟩ := Kd.R_reads' HS.out.e; refine (apply_ok A0 xs c0 w10 K P C CL SQ hCd hcd HCC.out HFIT.out).mono ?_; clear hcd hCd; rintro e w11 ⟨v11, rfl, hv, hb⟩; obtain ⟨A9, c9, rfl⟩ := Kd.R_slice hv; have HV := Aside0.mk (Kd.R_lower hv HS.out.b.size); replace HS := Aside0.mk (HS.out.step hb); clear hb hv; clear x0 x1 x2 x3 x4; have x0 : w11.cell? ⟨w.heap.size + 1, 0, none⟩ = some (.int .i64 K) := (blk_cell HS.out.o 0).trans rfl; have x1 : w11.cell? ⟨w.heap.size + 1, 1, none⟩ = some (.int .i64 P) := (blk_cell HS.out.o 1).trans rfl; have x2 : w11.cell? ⟨w.heap.size + 1, 2, none⟩ = some (.int .u8 C) := (blk_cell HS.out.o 2).trans rfl; have x3 : w11.cell? ⟨w.heap.size + 1, 3, none⟩ = some (.int .i64 CL) := (blk_cell HS.out.o 3).trans rfl; have x4 : w11.cell? ⟨w.heap.size + 1, 4, none⟩ = some (.int .i64 SQ) := (blk_cell HS.out.o 4).trans rfl))
        | (go_at_call 23; go_loud (refine (iapply_ok w11 g r ps HS.out.x (by have := HS.out.x; have := HNP.out; have := HN.out; omega) K P C CL SQ HCC.out (by rw [HFL.out]; exact HFIT.out)).mono ?_; rintro e w12 ⟨r2, ps2, rfl, hi, hf, hn2, hch⟩; obtain ⟨hbe, hre⟩ := hch.bel HS.out.b HS.out.b.size HG.out.1 HG.out.2; have HI2 := Aside0.mk hi; have HB2 := Aside0.mk hbe; have HV2 := Aside0.mk (hch.row76 HS.out.x HV.out); have HF2 : Aside0 (fl ps2 = (app xs K P C CL SQ).map (·.f0)) := ⟨by rw [hf, app_f0, HF.out]⟩; clear x0 x1 x2 x3 x4 hbe hre hi hf hn2 hch))
        | (go_at_call 20; go_loud (refine (text_any w12 g r2 ps2 HI2.out (by rw [HF2.out, List.length_map]; have := HAL.out; omega)).mono ?_; rintro e w13 ⟨rfl, hb⟩; rw [HF2.out]; replace HV2 := Aside0.mk (Kd.R_below HV2.out hb); replace HB2 := Aside0.mk (below_then HB2.out HB2.out.size hb); clear hb))
        | (go_at_call 16; go_loud (obtain ⟨_, hcd, hCd⟩ := Kd.R_reads' HV2.out; refine (doc_Text.calls ka A9 c9 (app xs K P C CL SQ) _ w13 hCd hcd HKA.out).mono ?_; clear hcd hCd; rintro e w14 ⟨rfl, hb⟩; replace HB2 := Aside0.mk (below_then HB2.out HB2.out.size hb); clear hb)))
            go_ret
            exact ⟨ret_bool (by simp), HB2.out⟩
          · have hne1 : (fit xs.length K P C CL SQ != 0) = true := bne_iff_ne.mpr hfit
            have HFIT := Aside0.mk hfit
            clear hfit
            obtain ⟨nf, hnf⟩ : ∃ nf, nf = fit xs.length K P C CL SQ := ⟨_, rfl⟩
            rw [← hnf] at hne1
            have HNF := Aside0.mk hnf
            clear hnf
            go_wp2_with (first
        | (go_at_call 14; go_loud (refine (find_ok wr g r ps HS.out.x (by rw [HFL.out]; have := HN.out; omega) p HPS.out HPL.out).mono ?_; rintro e w1 ⟨vF, rfl, _, hb⟩; replace HS := Aside0.mk (HS.out.step hb); replace HO := Aside0.mk (Kd.R_below HO.out hb); clear hcv; have hcv := own_string (P := Try.prog) Try.underlying53 Try.underlying5 Try.underlying9 (Kd.own_of_R HO.out); rw [← HPN.out] at hcv;  clear hb))
        | (go_at_call 17; go_loud (refine (next_ok w1 g r ps HS.out.x (by rw [HFL.out]; have := HN.out; omega) p HPS.out HPL.out 0).mono ?_; rintro e w2 ⟨rfl, hb⟩; replace HS := Aside0.mk (HS.out.step hb); replace HO := Aside0.mk (Kd.R_below HO.out hb); clear hcv; have hcv := own_string (P := Try.prog) Try.underlying53 Try.underlying5 Try.underlying9 (Kd.own_of_R HO.out); rw [← HPN.out] at hcv;  clear hb))
        | (go_at_call 21; go_loud (refine (swap_any w2 g r ps HS.out.x (by rw [HFL.out]; have := HN.out; omega) ⟨#[98, 90]⟩ p (by decide) (by rfl) HPL2.out 1 1).mono ?_; rintro e w3 ⟨vG, nG, rfl, hnG, hb⟩; have g1 : decide (nG = 240) = false := decide_eq_false (by omega); have g2 : (nG == 240) = false := beq_eq_false_iff_ne.mpr (by omega); have g3 : (nG != 240) = true := bne_iff_ne.mpr (by omega); clear hnG; replace HS := Aside0.mk (HS.out.step hb); clear hb hcv; have hc2 := conv2 w3 B; rw [← HP2.out] at hc2; replace HS := Aside0.mk (HS.out.step (Below.alloc (Below.refl _ _) (Nat.le_refl _) (.cells #[.int .u8 98, .int .u8 B] 5)))))
        | (go_at_call 14; go_loud ((with_reducible refine (find_bad (w3.alloc (.cells #[.int .u8 98, .int .u8 B] 5)) _ p2 (.inl HP2L.out)).mono ?_); rintro e w4 ⟨rfl, hb⟩; replace HS := Aside0.mk (HS.out.step hb); clear hb hc2; have hc2 := conv2 w4 B; rw [← HP2.out] at hc2; replace HS := Aside0.mk (HS.out.step (Below.alloc (Below.refl _ _) (Nat.le_refl _) (.cells #[.int .u8 98, .int .u8 B] 5)))))
        | (go_at_call 21; go_loud ((with_reducible refine (swap_needle (w4.alloc (.cells #[.int .u8 98, .int .u8 B] 5)) _ ⟨#[98, 90]⟩ p2 1 65 (.inr (.inr HP2L.out))).mono ?_); rintro e w5 ⟨rfl, hb⟩; replace HS := Aside0.mk (HS.out.step hb); clear hb hc2))
        | (go_at_call 21; go_loud (refine (swap_maker w5 g r ps HS.out.x (by rw [HFL.out]; have := HN.out; omega) ⟨#[98]⟩ ⟨#[]⟩ (by decide) (by rfl) (by rfl) 0 1 (.inl (by omega))).mono ?_; rintro e w6 ⟨rfl, hb⟩; replace HS := Aside0.mk (HS.out.step hb); clear hb))
        | (go_at_call 21; go_loud (refine (swap_maker w6 g r ps HS.out.x (by rw [HFL.out]; have := HN.out; omega) ⟨#[98]⟩ ⟨#[]⟩ (by decide) (by rfl) (by rfl) 65 1 (.inr (.inl (by omega)))).mono ?_; rintro e w7 ⟨rfl, hb⟩; replace HS := Aside0.mk (HS.out.step hb); clear hb))
        | (go_at_call 21; go_loud (refine (swap_maker w7 g r ps HS.out.x (by rw [HFL.out]; have := HN.out; omega) ⟨#[98]⟩ ⟨#[]⟩ (by decide) (by rfl) (by rfl) 1 0 (.inr (.inr (.inl (by omega))))).mono ?_; rintro e w8 ⟨rfl, hb⟩; replace HS := Aside0.mk (HS.out.step hb); clear hb))
        | (go_at_call 21; go_loud (refine (swap_maker w8 g r ps HS.out.x (by rw [HFL.out]; have := HN.out; omega) ⟨#[98]⟩ ⟨#[]⟩ (by decide) (by rfl) (by rfl) 1 65 (.inr (.inr (.inr (.inr (by rw [HFS.out]; exact HLB.out)))))).mono ?_; rintro e w9 ⟨rfl, hb⟩; replace HS := Aside0.mk (HS.out.step hb); clear hb))
        | (go_at_call 20; go_loud (refine (text_any w9 g r ps HS.out.x (by rw [HFL.out]; have := HN.out; omega)).mono ?_; rintro e w10 ⟨rfl, hb⟩; rw [HFS.out]; replace HS := Aside0.mk (HS.out.step hb); clear hb; have x0 : w10.cell? ⟨w.heap.size + 1, 0, none⟩ = some (.int .i64 K) := (blk_cell HS.out.o 0).trans rfl; have x1 : w10.cell? ⟨w.heap.size + 1, 1, none⟩ = some (.int .i64 P) := (blk_cell HS.out.o 1).trans rfl; have x2 : w10.cell? ⟨w.heap.size + 1, 2, none⟩ = some (.int .u8 C) := (blk_cell HS.out.o 2).trans rfl; have x3 : w10.cell? ⟨w.heap.size + 1, 3, none⟩ = some (.int .i64 CL) := (blk_cell HS.out.o 3).trans rfl; have x4 : w10.cell? ⟨w.heap.size + 1, 4, none⟩ = some (.int .i64 SQ) := (blk_cell HS.out.o 4).trans rfl))
        | (go_at_call 24; go_loud ((with_reducible refine (apply_bad A0 xs c0 w10 K P C CL SQ HCC.out HFIT.out).mono ?_); rintro e w11 ⟨rfl, hb⟩; rw [← HNF.out]; replace HS := Aside0.mk (HS.out.step hb); clear hb; clear x0 x1 x2 x3 x4; have x0 : w11.cell? ⟨w.heap.size + 1, 0, none⟩ = some (.int .i64 K) := (blk_cell HS.out.o 0).trans rfl; have x1 : w11.cell? ⟨w.heap.size + 1, 1, none⟩ = some (.int .i64 P) := (blk_cell HS.out.o 1).trans rfl; have x2 : w11.cell? ⟨w.heap.size + 1, 2, none⟩ = some (.int .u8 C) := (blk_cell HS.out.o 2).trans rfl; have x3 : w11.cell? ⟨w.heap.size + 1, 3, none⟩ = some (.int .i64 CL) := (blk_cell HS.out.o 3).trans rfl; have x4 : w11.cell? ⟨w.heap.size + 1, 4, none⟩ = some (.int .i64 SQ) := (blk_cell HS.out.o 4).trans rfl))
        | (go_at_call 23; go_loud (refine (iapply_bad w11 g r ps HS.out.x K P C CL SQ HCC.out (by rw [HFL.out]; exact HFIT.out)).mono ?_; rintro e w12 ⟨rfl, hb⟩; replace HS := Aside0.mk (HS.out.step hb); clear hb x0 x1 x2 x3 x4))
        | (go_at_call 20; go_loud (refine (text_any w12 g r ps HS.out.x (by rw [HFL.out]; have := HN.out; omega)).mono ?_; rintro e w13 ⟨rfl, hb⟩; rw [HFS.out]; replace HS := Aside0.mk (HS.out.step hb); clear hb)))
            go_ret
            exact ⟨ret_bool (by simp), HS.out.b⟩
      · have b1 := decide_eq_false h32
        have HP2L : Aside0 (plB p2 = false) := ⟨by rw [HP2.out, plB_two B HBB.out, decide_eq_false (by omega)]⟩
        clear h32
        by_cases hfit : fit xs.length K P C CL SQ = 0
        · have HFIT := Aside0.mk hfit
          clear hfit
          have HAL := Aside0.mk (app_small HFIT.out HNX.out)
          obtain ⟨ka, hka⟩ := text_pure (app xs K P C CL SQ) (by have := HAL.out; omega)
          have HKA := Aside0.mk hka
          clear hka
          go_wp2_with (first
        | (go_at_call 14; go_loud (refine (find_ok wr g r ps HS.out.x (by rw [HFL.out]; have := HN.out; omega) p HPS.out HPL.out).mono ?_; rintro e w1 ⟨vF, rfl, _, hb⟩; replace HS := Aside0.mk (HS.out.step hb); replace HO := Aside0.mk (Kd.R_below HO.out hb); clear hcv; have hcv := own_string (P := Try.prog) Try.underlying53 Try.underlying5 Try.underlying9 (Kd.own_of_R HO.out); rw [← HPN.out] at hcv;  clear hb))
        | (go_at_call 17; go_loud (refine (next_ok w1 g r ps HS.out.x (by rw [HFL.out]; have := HN.out; omega) p HPS.out HPL.out 0).mono ?_; rintro e w2 ⟨rfl, hb⟩; replace HS := Aside0.mk (HS.out.step hb); replace HO := Aside0.mk (Kd.R_below HO.out hb); clear hcv; have hcv := own_string (P := Try.prog) Try.underlying53 Try.underlying5 Try.underlying9 (Kd.own_of_R HO.out); rw [← HPN.out] at hcv;  clear hb))
        | (go_at_call 21; go_loud (refine (swap_any w2 g r ps HS.out.x (by rw [HFL.out]; have := HN.out; omega) ⟨#[98, 90]⟩ p (by decide) (by rfl) HPL2.out 1 1).mono ?_; rintro e w3 ⟨vG, nG, rfl, hnG, hb⟩; have g1 : decide (nG = 240) = false := decide_eq_false (by omega); have g2 : (nG == 240) = false := beq_eq_false_iff_ne.mpr (by omega); have g3 : (nG != 240) = true := bne_iff_ne.mpr (by omega); clear hnG; replace HS := Aside0.mk (HS.out.step hb); clear hb hcv; have hc2 := conv2 w3 B; rw [← HP2.out] at hc2; replace HS := Aside0.mk (HS.out.step (Below.alloc (Below.refl _ _) (Nat.le_refl _) (.cells #[.int .u8 98, .int .u8 B] 5)))))
        | (go_at_call 14; go_loud ((with_reducible refine (find_bad (w3.alloc (.cells #[.int .u8 98, .int .u8 B] 5)) _ p2 (.inl HP2L.out)).mono ?_); rintro e w4 ⟨rfl, hb⟩; replace HS := Aside0.mk (HS.out.step hb); clear hb hc2; have hc2 := conv2 w4 B; rw [← HP2.out] at hc2; replace HS := Aside0.mk (HS.out.step (Below.alloc (Below.refl _ _) (Nat.le_refl _) (.cells #[.int .u8 98, .int .u8 B] 5)))))
        | (go_at_call 21; go_loud ((with_reducible refine (swap_needle (w4.alloc (.cells #[.int .u8 98, .int .u8 B] 5)) _ ⟨#[98, 90]⟩ p2 1 65 (.inr (.inr HP2L.out))).mono ?_); rintro e w5 ⟨rfl, hb⟩; replace HS := Aside0.mk (HS.out.step hb); clear hb hc2))
        | (go_at_call 21; go_loud (refine (swap_maker w5 g r ps HS.out.x (by rw [HFL.out]; have := HN.out; omega) ⟨#[98]⟩ ⟨#[]⟩ (by decide) (by rfl) (by rfl) 0 1 (.inl (by omega))).mono ?_; rintro e w6 ⟨rfl, hb⟩; replace HS := Aside0.mk (HS.out.step hb); clear hb))
        | (go_at_call 21; go_loud (refine (swap_maker w6 g r ps HS.out.x (by rw [HFL.out]; have := HN.out; omega) ⟨#[98]⟩ ⟨#[]⟩ (by decide) (by rfl) (by rfl) 65 1 (.inr (.inl (by omega)))).mono ?_; rintro e w7 ⟨rfl, hb⟩; replace HS := Aside0.mk (HS.out.step hb); clear hb))
        | (go_at_call 21; go_loud (refine (swap_maker w7 g r ps HS.out.x (by rw [HFL.out]; have := HN.out; omega) ⟨#[98]⟩ ⟨#[]⟩ (by decide) (by rfl) (by rfl) 1 0 (.inr (.inr (.inl (by omega))))).mono ?_; rintro e w8 ⟨rfl, hb⟩; replace HS := Aside0.mk (HS.out.step hb); clear hb))
        | (go_at_call 21; go_loud (refine (swap_maker w8 g r ps HS.out.x (by rw [HFL.out]; have := HN.out; omega) ⟨#[98]⟩ ⟨#[]⟩ (by decide) (by rfl) (by rfl) 1 65 (.inr (.inr (.inr (.inr (by rw [HFS.out]; exact HLB.out)))))).mono ?_; rintro e w9 ⟨rfl, hb⟩; replace HS := Aside0.mk (HS.out.step hb); clear hb))
        | (go_at_call 20; go_loud (refine (text_any w9 g r ps HS.out.x (by rw [HFL.out]; have := HN.out; omega)).mono ?_; rintro e w10 ⟨rfl, hb⟩; rw [HFS.out]; replace HS := Aside0.mk (HS.out.step hb); clear hb; have x0 : w10.cell? ⟨w.heap.size + 1, 0, none⟩ = some (.int .i64 K) := (blk_cell HS.out.o 0).trans rfl; have x1 : w10.cell? ⟨w.heap.size + 1, 1, none⟩ = some (.int .i64 P) := (blk_cell HS.out.o 1).trans rfl; have x2 : w10.cell? ⟨w.heap.size + 1, 2, none⟩ = some (.int .u8 C) := (blk_cell HS.out.o 2).trans rfl; have x3 : w10.cell? ⟨w.heap.size + 1, 3, none⟩ = some (.int .i64 CL) := (blk_cell HS.out.o 3).trans rfl; have x4 : w10.cell? ⟨w.heap.size + 1, 4, none⟩ = some (.int .i64 SQ) := (blk_cell HS.out.o 4).trans rfl))
        | (go_at_call 24; go_loud (obtain ⟨_, hcd, hCd⟩ := Kd.R_reads' HS.out.e; refine (apply_ok A0 xs c0 w10 K P C CL SQ hCd hcd HCC.out HFIT.out).mono ?_; clear hcd hCd; rintro e w11 ⟨v11, rfl, hv, hb⟩; obtain ⟨A9, c9, rfl⟩ := Kd.R_slice hv; have HV := Aside0.mk (Kd.R_lower hv HS.out.b.size); replace HS := Aside0.mk (HS.out.step hb); clear hb hv; clear x0 x1 x2 x3 x4; have x0 : w11.cell? ⟨w.heap.size + 1, 0, none⟩ = some (.int .i64 K) := (blk_cell HS.out.o 0).trans rfl; have x1 : w11.cell? ⟨w.heap.size + 1, 1, none⟩ = some (.int .i64 P) := (blk_cell HS.out.o 1).trans rfl; have x2 : w11.cell? ⟨w.heap.size + 1, 2, none⟩ = some (.int .u8 C) := (blk_cell HS.out.o 2).trans rfl; have x3 : w11.cell? ⟨w.heap.size + 1, 3, none⟩ = some (.int .i64 CL) := (blk_cell HS.out.o 3).trans rfl; have x4 : w11.cell? ⟨w.heap.size + 1, 4, none⟩ = some (.int .i64 SQ) := (blk_cell HS.out.o 4).trans rfl))
        | (go_at_call 23; go_loud (refine (iapply_ok w11 g r ps HS.out.x (by have := HS.out.x; have := HNP.out; have := HN.out; omega) K P C CL SQ HCC.out (by rw [HFL.out]; exact HFIT.out)).mono ?_; rintro e w12 ⟨r2, ps2, rfl, hi, hf, hn2, hch⟩; obtain ⟨hbe, hre⟩ := hch.bel HS.out.b HS.out.b.size HG.out.1 HG.out.2; have HI2 := Aside0.mk hi; have HB2 := Aside0.mk hbe; have HV2 := Aside0.mk (hch.row76 HS.out.x HV.out); have HF2 : Aside0 (fl ps2 = (app xs K P C CL SQ).map (·.f0)) := ⟨by rw [hf, app_f0, HF.out]⟩; clear x0 x1 x2 x3 x4 hbe hre hi hf hn2 hch))
        | (go_at_call 20; go_loud (refine (text_any w12 g r2 ps2 HI2.out (by rw [HF2.out, List.length_map]; have := HAL.out; omega)).mono ?_; rintro e w13 ⟨rfl, hb⟩; rw [HF2.out]; replace HV2 := Aside0.mk (Kd.R_below HV2.out hb); replace HB2 := Aside0.mk (below_then HB2.out HB2.out.size hb); clear hb))
        | (go_at_call 16; go_loud (obtain ⟨_, hcd, hCd⟩ := Kd.R_reads' HV2.out; refine (doc_Text.calls ka A9 c9 (app xs K P C CL SQ) _ w13 hCd hcd HKA.out).mono ?_; clear hcd hCd; rintro e w14 ⟨rfl, hb⟩; replace HB2 := Aside0.mk (below_then HB2.out HB2.out.size hb); clear hb)))
          go_ret
          exact ⟨ret_bool (by simp), HB2.out⟩
        · have hne1 : (fit xs.length K P C CL SQ != 0) = true := bne_iff_ne.mpr hfit
          have HFIT := Aside0.mk hfit
          clear hfit
          obtain ⟨nf, hnf⟩ : ∃ nf, nf = fit xs.length K P C CL SQ := ⟨_, rfl⟩
          rw [← hnf] at hne1
          have HNF := Aside0.mk hnf
          clear hnf
          go_wp2_with (first
        | (go_at_call 14; go_loud (refine (find_ok wr g r ps HS.out.x (by rw [HFL.out]; have := HN.out; omega) p HPS.out HPL.out).mono ?_; rintro e w1 ⟨vF, rfl, _, hb⟩; replace HS := Aside0.mk (HS.out.step hb); replace HO := Aside0.mk (Kd.R_below HO.out hb); clear hcv; have hcv := own_string (P := Try.prog) Try.underlying53 Try.underlying5 Try.underlying9 (Kd.own_of_R HO.out); rw [← HPN.out] at hcv;  clear hb))
        | (go_at_call 17; go_loud (refine (next_ok w1 g r ps HS.out.x (by rw [HFL.out]; have := HN.out; omega) p HPS.out HPL.out 0).mono ?_; rintro e w2 ⟨rfl, hb⟩; replace HS := Aside0.mk (HS.out.step hb); replace HO := Aside0.mk (Kd.R_below HO.out hb); clear hcv; have hcv := own_string (P := Try.prog) Try.underlying53 Try.underlying5 Try.underlying9 (Kd.own_of_R HO.out); rw [← HPN.out] at hcv;  clear hb))
        | (go_at_call 21; go_loud (refine (swap_any w2 g r ps HS.out.x (by rw [HFL.out]; have := HN.out; omega) ⟨#[98, 90]⟩ p (by decide) (by rfl) HPL2.out 1 1).mono ?_; rintro e w3 ⟨vG, nG, rfl, hnG, hb⟩; have g1 : decide (nG = 240) = false := decide_eq_false (by omega); have g2 : (nG == 240) = false := beq_eq_false_iff_ne.mpr (by omega); have g3 : (nG != 240) = true := bne_iff_ne.mpr (by omega); clear hnG; replace HS := Aside0.mk (HS.out.step hb); clear hb hcv; have hc2 := conv2 w3 B; rw [← HP2.out] at hc2; replace HS := Aside0.mk (HS.out.step (Below.alloc (Below.refl _ _) (Nat.le_refl _) (.cells #[.int .u8 98, .int .u8 B] 5)))))
        | (go_at_call 14; go_loud ((with_reducible refine (find_bad (w3.alloc (.cells #[.int .u8 98, .int .u8 B] 5)) _ p2 (.inl HP2L.out)).mono ?_); rintro e w4 ⟨rfl, hb⟩; replace HS := Aside0.mk (HS.out.step hb); clear hb hc2; have hc2 := conv2 w4 B; rw [← HP2.out] at hc2; replace HS := Aside0.mk (HS.out.step (Below.alloc (Below.refl _ _) (Nat.le_refl _) (.cells #[.int .u8 98, .int .u8 B] 5)))))
        | (go_at_call 21; go_loud ((with_reducible refine (swap_needle (w4.alloc (.cells #[.int .u8 98, .int .u8 B] 5)) _ ⟨#[98, 90]⟩ p2 1 65 (.inr (.inr HP2L.out))).mono ?_); rintro e w5 ⟨rfl, hb⟩; replace HS := Aside0.mk (HS.out.step hb); clear hb hc2))
        | (go_at_call 21; go_loud (refine (swap_maker w5 g r ps HS.out.x (by rw [HFL.out]; have := HN.out; omega) ⟨#[98]⟩ ⟨#[]⟩ (by decide) (by rfl) (by rfl) 0 1 (.inl (by omega))).mono ?_; rintro e w6 ⟨rfl, hb⟩; replace HS := Aside0.mk (HS.out.step hb); clear hb))
        | (go_at_call 21; go_loud (refine (swap_maker w6 g r ps HS.out.x (by rw [HFL.out]; have := HN.out; omega) ⟨#[98]⟩ ⟨#[]⟩ (by decide) (by rfl) (by rfl) 65 1 (.inr (.inl (by omega)))).mono ?_; rintro e w7 ⟨rfl, hb⟩; replace HS := Aside0.mk (HS.out.step hb); clear hb))
        | (go_at_call 21; go_loud (refine (swap_maker w7 g r ps HS.out.x (by rw [HFL.out]; have := HN.out; omega) ⟨#[98]⟩ ⟨#[]⟩ (by decide) (by rfl) (by rfl) 1 0 (.inr (.inr (.inl (by omega))))).mono ?_; rintro e w8 ⟨rfl, hb⟩; replace HS := Aside0.mk (HS.out.step hb); clear hb))
        | (go_at_call 21; go_loud (refine (swap_maker w8 g r ps HS.out.x (by rw [HFL.out]; have := HN.out; omega) ⟨#[98]⟩ ⟨#[]⟩ (by decide) (by rfl) (by rfl) 1 65 (.inr (.inr (.inr (.inr (by rw [HFS.out]; exact HLB.out)))))).mono ?_; rintro e w9 ⟨rfl, hb⟩; replace HS := Aside0.mk (HS.out.step hb); clear hb))
        | (go_at_call 20; go_loud (refine (text_any w9 g r ps HS.out.x (by rw [HFL.out]; have := HN.out; omega)).mono ?_; rintro e w10 ⟨rfl, hb⟩; rw [HFS.out]; replace HS := Aside0.mk (HS.out.step hb); clear hb; have x0 : w10.cell? ⟨w.heap.size + 1, 0, none⟩ = some (.int .i64 K) := (blk_cell HS.out.o 0).trans rfl; have x1 : w10.cell? ⟨w.heap.size + 1, 1, none⟩ = some (.int .i64 P) := (blk_cell HS.out.o 1).trans rfl; have x2 : w10.cell? ⟨w.heap.size + 1, 2, none⟩ = some (.int .u8 C) := (blk_cell HS.out.o 2).trans rfl; have x3 : w10.cell? ⟨w.heap.size + 1, 3, none⟩ = some (.int .i64 CL) := (blk_cell HS.out.o 3).trans rfl; have x4 : w10.cell? ⟨w.heap.size + 1, 4, none⟩ = some (.int .i64 SQ) := (blk_cell HS.out.o 4).trans rfl))
        | (go_at_call 24; go_loud ((with_reducible refine (apply_bad A0 xs c0 w10 K P C CL SQ HCC.out HFIT.out).mono ?_); rintro e w11 ⟨rfl, hb⟩; rw [← HNF.out]; replace HS := Aside0.mk (HS.out.step hb); clear hb; clear x0 x1 x2 x3 x4; have x0 : w11.cell? ⟨w.heap.size + 1, 0, none⟩ = some (.int .i64 K) := (blk_cell HS.out.o 0).trans rfl; have x1 : w11.cell? ⟨w.heap.size + 1, 1, none⟩ = some (.int .i64 P) := (blk_cell HS.out.o 1).trans rfl; have x2 : w11.cell? ⟨w.heap.size + 1, 2, none⟩ = some (.int .u8 C) := (blk_cell HS.out.o 2).trans rfl; have x3 : w11.cell? ⟨w.heap.size + 1, 3, none⟩ = some (.int .i64 CL) := (blk_cell HS.out.o 3).trans rfl; have x4 : w11.cell? ⟨w.heap.size + 1, 4, none⟩ = some (.int .i64 SQ) := (blk_cell HS.out.o 4).trans rfl))
        | (go_at_call 23; go_loud (refine (iapply_bad w11 g r ps HS.out.x K P C CL SQ HCC.out (by rw [HFL.out]; exact HFIT.out)).mono ?_; rintro e w12 ⟨rfl, hb⟩; replace HS := Aside0.mk (HS.out.step hb); clear hb x0 x1 x2 x3 x4))
        | (go_at_call 20; go_loud (refine (text_any w12 g r ps HS.out.x (by rw [HFL.out]; have := HN.out; omega)).mono ?_; rintro e w13 ⟨rfl, hb⟩; rw [HFS.out]; replace HS := Aside0.mk (HS.out.step hb); clear hb)))
          go_ret
          exact ⟨ret_bool (by simp), HS.out.b⟩
end Go.Proofs.Ytfngcabckfmhnaa.B
