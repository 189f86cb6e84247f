/- SearchFollows: the walk of the law. -/
import Derived.Test.YtfngcabckfmhnaaX1
namespace Go.Proofs.Ytfngcabckfmhnaa.B
open Go.RowKit Go.Proofs.YtfngcabckfmhnaaW.PrintWords Go.Proofs.YtfngcabckfmhnaaW.PrintLast Go.Proofs.YtfngcabckfmhnaaW.PrintMore Go.Proofs.Ytfngcabckfmhnaa.PA
set_option linter.unusedVariables false
set_option linter.unusedSimpArgs false
set_option maxHeartbeats 64000000 in
set_option maxRecDepth 100000 in
theorem follows_walk (text : ByteArray) (A1 : Option Addr) (n1 c1 : Nat) (st : Nat → Bool × Int × Int) (A2 : Option Addr) (n2 c2 : Nat) (sg : Nat → ByteArray) (w : World) (hst : StepsAt w A1 n1 st) (hsg : StrsAt w A2 n2 sg) (hn1 : n1 ≤ 9223372036854775807) (hn2 : n2 ≤ 9223372036854775807) :
    Calls Try.prog 8 #[.string text, .slice A1 n1 c1, .slice A2 n2 c2] w (TrueAns w) := by
  have HST := Aside0.mk hst
  have HSG := Aside0.mk hsg
  have HN12 := Aside0.mk (And.intro hn1 hn2)
  obtain ⟨n, hn⟩ : ∃ n, n = min text.size 1000 := ⟨_, rfl⟩
  obtain ⟨ke, hke⟩ := elems_pure text 1000 (by omega)
  rw [← hn] at hke
  have HN : Aside0 (n ≤ 1000) := ⟨by omega⟩
  obtain ⟨xs, hxs⟩ : ∃ xs, xs = elemsL text n := ⟨_, rfl⟩
  have HXL : Aside0 (xs.length = n) := ⟨by rw [hxs]; exact elemsL_length _ _⟩
  rw [← hxs] at hke
  have HKE := Aside0.mk hke
  obtain ⟨kt, hkt⟩ := text_pure xs (by rw [HXL.out]; have := HN.out; omega)
  obtain ⟨s, hs⟩ : ∃ s, s = strOfNums (xs.map (·.f0)) := ⟨_, rfl⟩
  rw [← hs] at hkt
  have HKT := Aside0.mk hkt
  have HSS := Aside0.mk hs
  clear hst hsg hn1 hn2 hn hke hxs hkt hs
  go_enter Try.func8, Try.ntmps8
  go_wp2_with (first
    | (go_at_call 11; go_loud (refine (jotterlaw24_elems.calls ke text 1000 xs _ HKE.out).mono ?_; rintro e w1 ⟨v0, rfl, hr1, hb⟩; obtain ⟨A0, c0, rfl⟩ := Kd.R_slice hr1; have HR := Aside0.mk hr1; have HB := Aside0.mk hb; clear hr1 hb))
    | (go_at_call 12; go_loud (obtain ⟨hz1, hc0, hC0⟩ := Kd.R_reads' HR.out; refine (new_any A0 c0 xs w1 hC0 hc0 (by rw [HXL.out]; have := HN.out; omega)).mono ?_; clear hz1 hc0 hC0; rintro e w2 ⟨g, r, ps, rfl, hi2, hf2, hg2, hr2, hn2, hb⟩; have HV : Aside0 (Inv3 w w2 g (.slice A0 xs.length c0) xs r ps 0) := ⟨⟨Kd.R_below HR.out hb, hi2, hf2, below_then HB.out HB.out.size hb, by have := HB.out.size; omega, fun k hk => by have := hr2 k hk; have := HB.out.size; omega, by have := HXL.out; have := HN.out; omega, by have := HXL.out; have := HN.out; omega⟩⟩; clear hi2 hf2 hg2 hr2 hn2 hb HR HB))
    | (go_at_call 20; go_loud (refine (text_any w2 g r ps HV.out.x (by rw [HV.out.f, List.length_map, HXL.out]; have := HN.out; omega)).mono ?_; rintro e w3 ⟨rfl, hb⟩; rw [HV.out.f, ← HSS.out]; replace HV := Aside0.mk (HV.out.step hb); clear hb))
    | (go_at_call 16; go_loud (obtain ⟨hz1, hc0, hC0⟩ := Kd.R_reads' HV.out.e; refine (doc_Text.calls kt A0 c0 xs s w3 hC0 hc0 HKT.out).mono ?_; clear hz1 hc0 hC0; rintro e w4 ⟨rfl, hb⟩; replace HV := Aside0.mk (HV.out.step hb); clear hb)))
  have HAN : Aside0 (∃ A c, (Value.slice A0 xs.length c0) = .slice A xs.length c) := ⟨A0, c0, rfl⟩
  go_loopw [7, 9] (fun v7 v9 wr => ∃ (i : Nat) (d : List S76) (r : Option Nat) (ps : List (List Int)), v9 = .int .i64 (i : Int) ∧ (i : Int) ≤ 80 ∧ (i : Int) ≤ (n1 : Int) ∧ Aside0 (∃ A c, v7 = .slice A d.length c) ∧ Aside0 (Inv3 w wr g v7 d r ps i)) (fun _ v9 _ => 80 - (intOf v9).toNat)
  case atStart => exact ⟨0, xs, r, ps, rfl, by omega, by omega, HAN, HV⟩
  case round =>
    clear HV HAN
    obtain ⟨i, d, r', ps', rfl, hi80, hin, HA, HV⟩ := hrel
    obtain ⟨A, c, rfl⟩ := HA.out
    have HI80 := Aside0.mk hi80
    by_cases hlt : (i : Int) < (n1 : Int)
    · have t1 := decide_eq_true hlt
      have t1n := eq_true (show i < n1 by omega)
      by_cases h80 : (i : Int) < 80
      · have t2 := decide_eq_true h80
        have t2n : decide (i < 80) = true := decide_eq_true (by omega)
        have hi0 : (0 : Int) ≤ (i : Int) := by omega
        have hie : (i : Int) ≤ 80 := hi80
        have HI2 : Aside0 (((i + 1 : Nat) : Int) ≤ 80 ∧ ((i + 1 : Nat) : Int) ≤ (n1 : Int)) := ⟨by omega⟩
        obtain ⟨ad, hA1, k0, k1, k2, hc0, hc1⟩ := HST.out i (by omega)
        subst hA1
        generalize (st i).1 = sb at k0
        generalize (st i).2.1 = sm at k1
        generalize (st i).2.2 = sc at k2 hc0 hc1
        replace k0 := pw_cell_below HV.out.b k0
        replace k1 := pw_cell_below HV.out.b k1
        replace k2 := pw_cell_below HV.out.b k2
        obtain ⟨K, P, C, hmade, hfit, hC0, hC1⟩ := made_pure sb sm sc d.length (by have := HV.out.dl; omega) ⟨hc0, hc1⟩
        have HMADE := Aside0.mk hmade
        have HFIT := Aside0.mk hfit
        have HCC : Aside0 (0 ≤ C ∧ C ≤ 255) := ⟨hC0, hC1⟩
        clear hmade hfit hC0 hC1 hc0 hc1
        obtain ⟨D, hD⟩ : ∃ D, D = app d K P C 64 64 := ⟨_, rfl⟩
        have HD := Aside0.mk hD
        have HDL : Aside0 (D.length ≤ 1081) := ⟨by have := app_len HFIT.out; rw [← hD] at this; have := HV.out.dl; omega⟩
        obtain ⟨kd, hkd⟩ := text_pure D (by have := HDL.out; omega)
        obtain ⟨T, hT⟩ : ∃ T, T = strOfNums (D.map (·.f0)) := ⟨_, rfl⟩
        rw [← hT] at hkd
        have HKD := Aside0.mk hkd
        have HTE := Aside0.mk hT
        have HTS : Aside0 (T.size ≤ 1081) := ⟨by rw [hT, strOfNums_size, List.length_map]; exact HDL.out⟩
        obtain ⟨WL, hWL⟩ : ∃ WL : List ByteArray, WL = (wordsOf T.data.toList).map bs := ⟨_, rfl⟩
        obtain ⟨OL, hOL⟩ : ∃ OL : List Int, OL = oftenOf T.data.toList := ⟨_, rfl⟩
        have HWL := Aside0.mk hWL
        have HOL := Aside0.mk hOL
        clear hWL hOL
        obtain ⟨q, hq⟩ : ∃ q, q = n1 - 1 := ⟨_, rfl⟩
        have hsub : IntKind.i64.wrap ((n1 : Int) - 1) = (q : Int) := by rw [show (n1 : Int) - 1 = (q : Int) by omega]; exact IntWalk.i64_in _ (by have := HN12.out; omega)
        obtain ⟨z, hz⟩ : ∃ z : Int, z = (i : Int) % 8 := ⟨_, rfl⟩
        clear hD hkd hT
        by_cases hz7 : (i : Int) % 8 = 7
        · have z1 : ((i : Int) % 8 != 7) = false := bne_eq_false_iff_eq.mpr hz7
          have z2 : ((i : Int) % 8 == 7) = true := beq_iff_eq.mpr hz7
          have z3 : decide ((i : Int) % 8 = 7) = true := decide_eq_true hz7
          have z4 := eq_true hz7
          clear hz7 hq hz hlt h80 hi80 hin
          go_wp2_with (first
          | (go_at_call 29; go_loud (refine (jotterlaw24_made.calls 1 sb sm sc d.length K P C 64 64 _ HMADE.out).mono ?_; rintro e w5 ⟨rfl, hb⟩; have HV5 := Aside0.mk ((HV.out.step hb).step (Below.alloc (Below.refl _ _) (Nat.le_refl _) (.cells #[.int .i64 K, .int .i64 P, .int .u8 C, .int .i64 64, .int .i64 64] 46))); clear hb k0 k1 k2))
          | (go_at_call 23; go_loud (refine (iapply_ok (w5.alloc (.cells #[.int .i64 K, .int .i64 P, .int .u8 C, .int .i64 64, .int .i64 64] 46)) g r' ps' HV5.out.x (by have := HV5.out.n; have := HI80.out; omega) K P C 64 64 HCC.out (by rw [HV5.out.f, List.length_map]; exact HFIT.out)).mono ?_; rintro e w6 ⟨r2, ps2, rfl, hi6, hf6, hn6, hch⟩; obtain ⟨hbe, hre⟩ := hch.bel HV5.out.b HV5.out.b.size HV5.out.hg HV5.out.r; have HBX : Aside0 (w6.heap[w5.heap.size]? = some (.cells #[.int .i64 K, .int .i64 P, .int .u8 C, .int .i64 64, .int .i64 64] 46 (0, 0))) := ⟨(hch.typ HV5.out.x 46 (by decide) (by decide) w5.heap.size _ (heap_alloc_new w5 _)).trans (heap_alloc_new w5 _)⟩; have x0 : w6.cell? ⟨w5.heap.size, 0, none⟩ = some (.int .i64 K) := (blk_cell HBX.out 0).trans rfl; have x1 : w6.cell? ⟨w5.heap.size, 1, none⟩ = some (.int .i64 P) := (blk_cell HBX.out 1).trans rfl; have x2 : w6.cell? ⟨w5.heap.size, 2, none⟩ = some (.int .u8 C) := (blk_cell HBX.out 2).trans rfl; have x3 : w6.cell? ⟨w5.heap.size, 3, none⟩ = some (.int .i64 64) := (blk_cell HBX.out 3).trans rfl; have x4 : w6.cell? ⟨w5.heap.size, 4, none⟩ = some (.int .i64 64) := (blk_cell HBX.out 4).trans rfl; have HV6 : Aside0 (Kd.R k76 76 w6 w.heap.size (fun _ => True) (.slice A d.length c) d ∧ Idx w6 g r2 ps2 ∧ fl ps2 = D.map (·.f0) ∧ Below w.heap.size w w6 ∧ (∀ k, r2 = some k → w.heap.size ≤ k) ∧ ps2.length ≤ ps'.length + 1) := ⟨⟨hch.row76 HV5.out.x HV5.out.e, hi6, by rw [hf6, HD.out, app_f0, HV5.out.f], hbe, hre, hn6⟩⟩; clear hi6 hf6 hn6 hch hbe hre))
          | (go_at_call 24; go_loud (obtain ⟨hz1, hcd, hCd⟩ := Kd.R_reads' HV6.out.1; refine (apply_ok A d c w6 K P C 64 64 hCd hcd HCC.out HFIT.out).mono ?_; rw [← HD.out]; clear hz1 hcd hCd; rintro e w7 ⟨v9, rfl, hv, hb⟩; obtain ⟨A9, c9, rfl⟩ := Kd.R_slice hv; have HV7 : Aside0 (Inv3 w w7 g (.slice A9 D.length c9) D r2 ps2 (i + 1)) := ⟨⟨Kd.R_lower hv HV6.out.2.2.2.1.size, HV6.out.2.1.below hb, HV6.out.2.2.1, below_then HV6.out.2.2.2.1 HV6.out.2.2.2.1.size hb, HV.out.hg, HV6.out.2.2.2.2.1, by have := HV6.out.2.2.2.2.2; have := HV.out.n; omega, by have := app_len HFIT.out; rw [← HD.out] at this; have := HV.out.dl; omega⟩⟩; clear hv hb x0 x1 x2 x3 x4))
          | (go_at_call 16; go_loud (obtain ⟨hz1, hc0, hC0⟩ := Kd.R_reads' HV7.out.e; refine (doc_Text.calls kd A9 c9 D T w7 hC0 hc0 HKD.out).mono ?_; clear hz1 hc0 hC0; rintro e w8 ⟨rfl, hb⟩; replace HV7 := Aside0.mk (HV7.out.step hb); clear hb))
          | (go_at_call 12; go_loud (obtain ⟨hz1, hc0, hC0⟩ := Kd.R_reads' HV7.out.e; refine (new_any A9 c9 D w8 hC0 hc0 (by have := HDL.out; omega)).mono ?_; clear hz1 hc0 hC0; rintro e w9 ⟨g2, ry, py, rfl, hi9, hf9, hg9, hr9, hn9, hb⟩; have HY := Aside0.mk hi9; have HYF := Aside0.mk hf9; replace HV7 := Aside0.mk (HV7.out.step hb); clear hi9 hf9 hg9 hr9 hn9 hb))
          | (go_at_call 20; go_loud ((with_reducible refine (text_any w9 g r2 ps2 HV7.out.x (by rw [HV7.out.f, List.length_map]; have := HDL.out; omega)).mono ?_); rintro e w10 ⟨rfl, hb⟩; rw [HV7.out.f, ← HTE.out]; replace HV7 := Aside0.mk (HV7.out.step hb); replace HY := Aside0.mk (HY.out.below hb); clear hb))
          | (go_at_call 20; go_loud ((with_reducible refine (text_any w10 g2 ry py HY.out (by rw [HYF.out, List.length_map]; have := HDL.out; omega)).mono ?_); rintro e w11 ⟨rfl, hb⟩; rw [HYF.out, ← HTE.out]; replace HV7 := Aside0.mk (HV7.out.step hb); replace HY := Aside0.mk (HY.out.below hb); clear hb)))
          have HXT : Aside0 (strOfNums (fl ps2) = T) := ⟨by rw [HV7.out.f, ← HTE.out]⟩
          have HYT : Aside0 (strOfNums (fl py) = T) := ⟨by rw [HYF.out, ← HTE.out]⟩
          have HXN : Aside0 ((fl ps2).length ≤ 1081 ∧ (fl py).length ≤ 1081) := ⟨by rw [HV7.out.f, HYF.out, List.length_map]; exact ⟨HDL.out, HDL.out⟩⟩
          go_loopw [16] (fun v16 wr => ∃ k : Nat, v16 = .int .i64 (k : Int) ∧ (k : Int) ≤ 8 ∧ Aside0 (Inv3 w wr g (.slice A9 D.length c9) D r2 ps2 (i + 1)) ∧ Aside0 (Idx wr g2 ry py)) (fun v16 _ => 8 - (intOf v16).toNat)
          case atStart => exact ⟨0, rfl, by omega, HV7, HY⟩
          case round =>
            clear HV7 HY HV HV5 HV6 HBX
            obtain ⟨k, rfl, hk8, HV, HY⟩ := hrel
            by_cases hk : (k : Int) < (n2 : Int)
            · have d1 := decide_eq_true hk
              have d1n := eq_true (show k < n2 by omega)
              by_cases hkk : (k : Int) < 8
              · have d2 := decide_eq_true hkk
                have d2n : decide (k < 8) = true := decide_eq_true (by omega)
                have hk0 : (0 : Int) ≤ (k : Int) := by omega
                have HK2 : Aside0 (((k + 1 : Nat) : Int) ≤ 8) := ⟨by omega⟩
                obtain ⟨ad2, hA2, q0, hq⟩ := HSG.out k (by omega)
                subst hA2
                generalize sg k = pt at q0 hq
                have HPT := Aside0.mk hq
                replace q0 := pw_cell_below HV.out.b q0
                clear hq
                go_wp2_with (first
                  | (go_at_call 13; go_loud (refine (needle_any pt wr HPT.out).mono ?_; rintro e w12 ⟨p, rfl, hp1, hp2, hb⟩; have HP1 := Aside0.mk hp1; have HP2 := Aside0.mk hp2; replace HV := Aside0.mk (HV.out.step hb); replace HY := Aside0.mk (HY.out.below hb); obtain ⟨LL, hLL⟩ : ∃ LL : List Int, LL = (places T p).map fun (j : Nat) => (j : Int) := ⟨_, rfl⟩; have HLL := Aside0.mk hLL; clear hp1 hp2 hb q0 hLL))
                  | (go_at_call 14; go_loud ((with_reducible refine (find_ok w12 g r2 ps2 HV.out.x (by have := HXN.out.1; omega) p HP2.out HP1.out).mono ?_); rw [HXT.out, plc_all T p HP2.out]; rintro e w13 ⟨va, rfl, hva, hb⟩; unfold NRow at hva; rw [← HLL.out] at hva; obtain ⟨Aa, ca, rfl⟩ := Kd.R_slice hva; have HRA := Aside0.mk hva; replace HV := Aside0.mk (HV.out.step hb); replace HY := Aside0.mk (HY.out.below hb); clear hva hb))
                  | (go_at_call 14; go_loud ((with_reducible refine (find_ok w13 g2 ry py HY.out (by have := HXN.out.2; omega) p HP2.out HP1.out).mono ?_); rw [HYT.out, plc_all T p HP2.out]; rintro e w14 ⟨vb, rfl, hvb, hb⟩; unfold NRow at hvb; rw [← HLL.out] at hvb; obtain ⟨Ab, cb, rfl⟩ := Kd.R_slice hvb; have HRB := Aside0.mk hvb; replace HRA := Aside0.mk (Kd.R_below HRA.out hb); replace HV := Aside0.mk (HV.out.step hb); replace HY := Aside0.mk (HY.out.below hb); clear hvb hb))
                  | (go_at_call 15; go_loud (obtain ⟨kr, hkr⟩ := right_pure T p (by have := HTS.out; omega) HP2.out (plB_size HP1.out); rw [← HLL.out] at hkr; obtain ⟨hz1, hca, hCa⟩ := Kd.R_reads' HRA.out; refine (jotterlaw24_right.calls kr T p Aa ca LL true w14 hCa hca hkr).mono ?_; clear hz1 hca hCa hkr; rintro e w15 ⟨rfl, hd⟩; have hb := hd.below; replace HRA := Aside0.mk (Kd.R_below HRA.out hb); replace HRB := Aside0.mk (Kd.R_below HRB.out hb); replace HV := Aside0.mk (HV.out.step hb); replace HY := Aside0.mk (HY.out.below hb); clear hd hb))
                  | (go_at_call 30; go_loud (obtain ⟨ki, hki⟩ := ints_pure LL (by rw [HLL.out, List.length_map]; have := places_len T p; have := HTS.out; omega); obtain ⟨hz1, hca, hCa⟩ := Kd.R_reads' HRA.out; obtain ⟨hz2, hcb, hCb⟩ := Kd.R_reads' HRB.out; refine (jotterlaw24_ints.calls ki Aa ca LL Ab cb LL true w15 hCa hca hCb hcb hki).mono ?_; clear hz1 hca hCa hz2 hcb hCb hki; rintro e w16 ⟨rfl, hd⟩; have hb := hd.below; replace HV := Aside0.mk (HV.out.step hb); replace HY := Aside0.mk (HY.out.below hb); clear hd hb)))
                go_roundw
                case rel => exact ⟨k + 1, by go_num, HK2.out, HV, HY⟩
                case measure => simp [intOf]; have := HK2.out; omega
              · have d2 := decide_eq_false hkk
                have d2n : decide (k < 8) = false := decide_eq_false (by omega)
                go_wp2_with (first
                  | (go_at_call 26; go_loud ((with_reducible refine (words_any wr g r2 ps2 HV.out.x (by have := HXN.out.1; omega)).mono ?_); rw [HXT.out]; rintro e w12 ⟨u1, u2, rfl, hu1, hu2, hb⟩; rw [← HWL.out] at hu1; rw [← HOL.out] at hu2; obtain ⟨U1, e1, rfl⟩ := Kd.R_slice hu1; obtain ⟨U2, e2, rfl⟩ := Kd.R_slice hu2; have HU1 := Aside0.mk hu1; have HU2 := Aside0.mk hu2; replace HV := Aside0.mk (HV.out.step hb); replace HY := Aside0.mk (HY.out.below hb); clear hu1 hu2 hb))
                  | (go_at_call 26; go_loud ((with_reducible refine (words_any w12 g2 ry py HY.out (by have := HXN.out.2; omega)).mono ?_); rw [HYT.out]; rintro e w13 ⟨u3, u4, rfl, hu3, hu4, hb⟩; rw [← HWL.out] at hu3; rw [← HOL.out] at hu4; obtain ⟨U3, e3, rfl⟩ := Kd.R_slice hu3; obtain ⟨U4, e4, rfl⟩ := Kd.R_slice hu4; have HU3 := Aside0.mk hu3; have HU4 := Aside0.mk hu4; replace HU1 := Aside0.mk (Kd.R_below HU1.out hb); replace HU2 := Aside0.mk (Kd.R_below HU2.out hb); replace HV := Aside0.mk (HV.out.step hb); replace HY := Aside0.mk (HY.out.below hb); clear hu3 hu4 hb))
                  | (go_at_call 31; go_loud (obtain ⟨kw, hkw⟩ := words_pure WL (by rw [HWL.out, List.length_map]; have := words_bound T.data.toList; rw [size_toList] at this; have := HTS.out; omega); obtain ⟨hz1, hca, hCa⟩ := Kd.R_reads' HU1.out; obtain ⟨hz2, hcb, hCb⟩ := Kd.R_reads' HU3.out; refine (jotterlaw24_words.calls kw U1 e1 WL U3 e3 WL true w13 hCa hca hCb hcb hkw).mono ?_; clear hz1 hca hCa hz2 hcb hCb hkw; rintro e w14 ⟨rfl, hd⟩; have hb := hd.below; replace HU2 := Aside0.mk (Kd.R_below HU2.out hb); replace HU4 := Aside0.mk (Kd.R_below HU4.out hb); replace HV := Aside0.mk (HV.out.step hb); replace HY := Aside0.mk (HY.out.below hb); clear hd hb))
                  | (go_at_call 30; go_loud (obtain ⟨ki, hki⟩ := ints_pure OL (by rw [HOL.out, often_len]; have := words_bound T.data.toList; rw [size_toList] at this; have := HTS.out; omega); obtain ⟨hz1, hca, hCa⟩ := Kd.R_reads' HU2.out; obtain ⟨hz2, hcb, hCb⟩ := Kd.R_reads' HU4.out; refine (jotterlaw24_ints.calls ki U2 e2 OL U4 e4 OL true w14 hCa hca hCb hcb hki).mono ?_; clear hz1 hca hCa hz2 hcb hCb hki; rintro e w15 ⟨rfl, hd⟩; have hb := hd.below; replace HV := Aside0.mk (HV.out.step hb); replace HY := Aside0.mk (HY.out.below hb); clear hd hb)))
                go_roundw
                case rel => exact ⟨i + 1, D, r2, ps2, by go_num, HI2.out.1, HI2.out.2, ⟨A9, c9, rfl⟩, HV⟩
                case measure => simp [intOf]; have := HI2.out; omega
            · have d1 := decide_eq_false hk
              have d1n := eq_false (show ¬ k < n2 by omega)
              go_wp2_with (first
                  | (go_at_call 26; go_loud ((with_reducible refine (words_any wr g r2 ps2 HV.out.x (by have := HXN.out.1; omega)).mono ?_); rw [HXT.out]; rintro e w12 ⟨u1, u2, rfl, hu1, hu2, hb⟩; rw [← HWL.out] at hu1; rw [← HOL.out] at hu2; obtain ⟨U1, e1, rfl⟩ := Kd.R_slice hu1; obtain ⟨U2, e2, rfl⟩ := Kd.R_slice hu2; have HU1 := Aside0.mk hu1; have HU2 := Aside0.mk hu2; replace HV := Aside0.mk (HV.out.step hb); replace HY := Aside0.mk (HY.out.below hb); clear hu1 hu2 hb))
                  | (go_at_call 26; go_loud ((with_reducible refine (words_any w12 g2 ry py HY.out (by have := HXN.out.2; omega)).mono ?_); rw [HYT.out]; rintro e w13 ⟨u3, u4, rfl, hu3, hu4, hb⟩; rw [← HWL.out] at hu3; rw [← HOL.out] at hu4; obtain ⟨U3, e3, rfl⟩ := Kd.R_slice hu3; obtain ⟨U4, e4, rfl⟩ := Kd.R_slice hu4; have HU3 := Aside0.mk hu3; have HU4 := Aside0.mk hu4; replace HU1 := Aside0.mk (Kd.R_below HU1.out hb); replace HU2 := Aside0.mk (Kd.R_below HU2.out hb); replace HV := Aside0.mk (HV.out.step hb); replace HY := Aside0.mk (HY.out.below hb); clear hu3 hu4 hb))
                  | (go_at_call 31; go_loud (obtain ⟨kw, hkw⟩ := words_pure WL (by rw [HWL.out, List.length_map]; have := words_bound T.data.toList; rw [size_toList] at this; have := HTS.out; omega); obtain ⟨hz1, hca, hCa⟩ := Kd.R_reads' HU1.out; obtain ⟨hz2, hcb, hCb⟩ := Kd.R_reads' HU3.out; refine (jotterlaw24_words.calls kw U1 e1 WL U3 e3 WL true w13 hCa hca hCb hcb hkw).mono ?_; clear hz1 hca hCa hz2 hcb hCb hkw; rintro e w14 ⟨rfl, hd⟩; have hb := hd.below; replace HU2 := Aside0.mk (Kd.R_below HU2.out hb); replace HU4 := Aside0.mk (Kd.R_below HU4.out hb); replace HV := Aside0.mk (HV.out.step hb); replace HY := Aside0.mk (HY.out.below hb); clear hd hb))
                  | (go_at_call 30; go_loud (obtain ⟨ki, hki⟩ := ints_pure OL (by rw [HOL.out, often_len]; have := words_bound T.data.toList; rw [size_toList] at this; have := HTS.out; omega); obtain ⟨hz1, hca, hCa⟩ := Kd.R_reads' HU2.out; obtain ⟨hz2, hcb, hCb⟩ := Kd.R_reads' HU4.out; refine (jotterlaw24_ints.calls ki U2 e2 OL U4 e4 OL true w14 hCa hca hCb hcb hki).mono ?_; clear hz1 hca hCa hz2 hcb hCb hki; rintro e w15 ⟨rfl, hd⟩; have hb := hd.below; replace HV := Aside0.mk (HV.out.step hb); replace HY := Aside0.mk (HY.out.below hb); clear hd hb)))
              go_roundw
              case rel => exact ⟨i + 1, D, r2, ps2, by go_num, HI2.out.1, HI2.out.2, ⟨A9, c9, rfl⟩, HV⟩
              case measure => simp [intOf]; have := HI2.out; omega
        · have z1 : ((i : Int) % 8 != 7) = true := bne_iff_ne.mpr hz7
          have z2 : ((i : Int) % 8 == 7) = false := beq_eq_false_iff_ne.mpr hz7
          have z3 : decide ((i : Int) % 8 = 7) = false := decide_eq_false hz7
          have z4 := eq_false hz7
          by_cases hiq : (i : Int) = (q : Int)
          · have y1 : ((i : Int) != (q : Int)) = false := bne_eq_false_iff_eq.mpr hiq
            have y2 : ((i : Int) == (q : Int)) = true := beq_iff_eq.mpr hiq
            have y3 : (i == q) = true := beq_iff_eq.mpr (by omega)
            have y4 : (i != q) = false := bne_eq_false_iff_eq.mpr (by omega)
            clear hz7 hq hz hiq hlt h80 hi80 hin
            go_wp2_with (first
          | (go_at_call 29; go_loud (refine (jotterlaw24_made.calls 1 sb sm sc d.length K P C 64 64 _ HMADE.out).mono ?_; rintro e w5 ⟨rfl, hb⟩; have HV5 := Aside0.mk ((HV.out.step hb).step (Below.alloc (Below.refl _ _) (Nat.le_refl _) (.cells #[.int .i64 K, .int .i64 P, .int .u8 C, .int .i64 64, .int .i64 64] 46))); clear hb k0 k1 k2))
          | (go_at_call 23; go_loud (refine (iapply_ok (w5.alloc (.cells #[.int .i64 K, .int .i64 P, .int .u8 C, .int .i64 64, .int .i64 64] 46)) g r' ps' HV5.out.x (by have := HV5.out.n; have := HI80.out; omega) K P C 64 64 HCC.out (by rw [HV5.out.f, List.length_map]; exact HFIT.out)).mono ?_; rintro e w6 ⟨r2, ps2, rfl, hi6, hf6, hn6, hch⟩; obtain ⟨hbe, hre⟩ := hch.bel HV5.out.b HV5.out.b.size HV5.out.hg HV5.out.r; have HBX : Aside0 (w6.heap[w5.heap.size]? = some (.cells #[.int .i64 K, .int .i64 P, .int .u8 C, .int .i64 64, .int .i64 64] 46 (0, 0))) := ⟨(hch.typ HV5.out.x 46 (by decide) (by decide) w5.heap.size _ (heap_alloc_new w5 _)).trans (heap_alloc_new w5 _)⟩; have x0 : w6.cell? ⟨w5.heap.size, 0, none⟩ = some (.int .i64 K) := (blk_cell HBX.out 0).trans rfl; have x1 : w6.cell? ⟨w5.heap.size, 1, none⟩ = some (.int .i64 P) := (blk_cell HBX.out 1).trans rfl; have x2 : w6.cell? ⟨w5.heap.size, 2, none⟩ = some (.int .u8 C) := (blk_cell HBX.out 2).trans rfl; have x3 : w6.cell? ⟨w5.heap.size, 3, none⟩ = some (.int .i64 64) := (blk_cell HBX.out 3).trans rfl; have x4 : w6.cell? ⟨w5.heap.size, 4, none⟩ = some (.int .i64 64) := (blk_cell HBX.out 4).trans rfl; have HV6 : Aside0 (Kd.R k76 76 w6 w.heap.size (fun _ => True) (.slice A d.length c) d ∧ Idx w6 g r2 ps2 ∧ fl ps2 = D.map (·.f0) ∧ Below w.heap.size w w6 ∧ (∀ k, r2 = some k → w.heap.size ≤ k) ∧ ps2.length ≤ ps'.length + 1) := ⟨⟨hch.row76 HV5.out.x HV5.out.e, hi6, by rw [hf6, HD.out, app_f0, HV5.out.f], hbe, hre, hn6⟩⟩; clear hi6 hf6 hn6 hch hbe hre))
          | (go_at_call 24; go_loud (obtain ⟨hz1, hcd, hCd⟩ := Kd.R_reads' HV6.out.1; refine (apply_ok A d c w6 K P C 64 64 hCd hcd HCC.out HFIT.out).mono ?_; rw [← HD.out]; clear hz1 hcd hCd; rintro e w7 ⟨v9, rfl, hv, hb⟩; obtain ⟨A9, c9, rfl⟩ := Kd.R_slice hv; have HV7 : Aside0 (Inv3 w w7 g (.slice A9 D.length c9) D r2 ps2 (i + 1)) := ⟨⟨Kd.R_lower hv HV6.out.2.2.2.1.size, HV6.out.2.1.below hb, HV6.out.2.2.1, below_then HV6.out.2.2.2.1 HV6.out.2.2.2.1.size hb, HV.out.hg, HV6.out.2.2.2.2.1, by have := HV6.out.2.2.2.2.2; have := HV.out.n; omega, by have := app_len HFIT.out; rw [← HD.out] at this; have := HV.out.dl; omega⟩⟩; clear hv hb x0 x1 x2 x3 x4))
          | (go_at_call 16; go_loud (obtain ⟨hz1, hc0, hC0⟩ := Kd.R_reads' HV7.out.e; refine (doc_Text.calls kd A9 c9 D T w7 hC0 hc0 HKD.out).mono ?_; clear hz1 hc0 hC0; rintro e w8 ⟨rfl, hb⟩; replace HV7 := Aside0.mk (HV7.out.step hb); clear hb))
          | (go_at_call 12; go_loud (obtain ⟨hz1, hc0, hC0⟩ := Kd.R_reads' HV7.out.e; refine (new_any A9 c9 D w8 hC0 hc0 (by have := HDL.out; omega)).mono ?_; clear hz1 hc0 hC0; rintro e w9 ⟨g2, ry, py, rfl, hi9, hf9, hg9, hr9, hn9, hb⟩; have HY := Aside0.mk hi9; have HYF := Aside0.mk hf9; replace HV7 := Aside0.mk (HV7.out.step hb); clear hi9 hf9 hg9 hr9 hn9 hb))
          | (go_at_call 20; go_loud ((with_reducible refine (text_any w9 g r2 ps2 HV7.out.x (by rw [HV7.out.f, List.length_map]; have := HDL.out; omega)).mono ?_); rintro e w10 ⟨rfl, hb⟩; rw [HV7.out.f, ← HTE.out]; replace HV7 := Aside0.mk (HV7.out.step hb); replace HY := Aside0.mk (HY.out.below hb); clear hb))
          | (go_at_call 20; go_loud ((with_reducible refine (text_any w10 g2 ry py HY.out (by rw [HYF.out, List.length_map]; have := HDL.out; omega)).mono ?_); rintro e w11 ⟨rfl, hb⟩; rw [HYF.out, ← HTE.out]; replace HV7 := Aside0.mk (HV7.out.step hb); replace HY := Aside0.mk (HY.out.below hb); clear hb)))
            have HXT : Aside0 (strOfNums (fl ps2) = T) := ⟨by rw [HV7.out.f, ← HTE.out]⟩
            have HYT : Aside0 (strOfNums (fl py) = T) := ⟨by rw [HYF.out, ← HTE.out]⟩
            have HXN : Aside0 ((fl ps2).length ≤ 1081 ∧ (fl py).length ≤ 1081) := ⟨by rw [HV7.out.f, HYF.out, List.length_map]; exact ⟨HDL.out, HDL.out⟩⟩
            go_loopw [16] (fun v16 wr => ∃ k : Nat, v16 = .int .i64 (k : Int) ∧ (k : Int) ≤ 8 ∧ Aside0 (Inv3 w wr g (.slice A9 D.length c9) D r2 ps2 (i + 1)) ∧ Aside0 (Idx wr g2 ry py)) (fun v16 _ => 8 - (intOf v16).toNat)
            case atStart => exact ⟨0, rfl, by omega, HV7, HY⟩
            case round =>
              clear HV7 HY HV HV5 HV6 HBX
              obtain ⟨k, rfl, hk8, HV, HY⟩ := hrel
              by_cases hk : (k : Int) < (n2 : Int)
              · have d1 := decide_eq_true hk
                have d1n := eq_true (show k < n2 by omega)
                by_cases hkk : (k : Int) < 8
                · have d2 := decide_eq_true hkk
                  have d2n : decide (k < 8) = true := decide_eq_true (by omega)
                  have hk0 : (0 : Int) ≤ (k : Int) := by omega
                  have HK2 : Aside0 (((k + 1 : Nat) : Int) ≤ 8) := ⟨by omega⟩
                  obtain ⟨ad2, hA2, q0, hq⟩ := HSG.out k (by omega)
                  subst hA2
                  generalize sg k = pt at q0 hq
                  have HPT := Aside0.mk hq
                  replace q0 := pw_cell_below HV.out.b q0
                  clear hq
                  go_wp2_with (first
                    | (go_at_call 13; go_loud (refine (needle_any pt wr HPT.out).mono ?_; rintro e w12 ⟨p, rfl, hp1, hp2, hb⟩; have HP1 := Aside0.mk hp1; have HP2 := Aside0.mk hp2; replace HV := Aside0.mk (HV.out.step hb); replace HY := Aside0.mk (HY.out.below hb); obtain ⟨LL, hLL⟩ : ∃ LL : List Int, LL = (places T p).map fun (j : Nat) => (j : Int) := ⟨_, rfl⟩; have HLL := Aside0.mk hLL; clear hp1 hp2 hb q0 hLL))
                    | (go_at_call 14; go_loud ((with_reducible refine (find_ok w12 g r2 ps2 HV.out.x (by have := HXN.out.1; omega) p HP2.out HP1.out).mono ?_); rw [HXT.out, plc_all T p HP2.out]; rintro e w13 ⟨va, rfl, hva, hb⟩; unfold NRow at hva; rw [← HLL.out] at hva; obtain ⟨Aa, ca, rfl⟩ := Kd.R_slice hva; have HRA := Aside0.mk hva; replace HV := Aside0.mk (HV.out.step hb); replace HY := Aside0.mk (HY.out.below hb); clear hva hb))
                    | (go_at_call 14; go_loud ((with_reducible refine (find_ok w13 g2 ry py HY.out (by have := HXN.out.2; omega) p HP2.out HP1.out).mono ?_); rw [HYT.out, plc_all T p HP2.out]; rintro e w14 ⟨vb, rfl, hvb, hb⟩; unfold NRow at hvb; rw [← HLL.out] at hvb; obtain ⟨Ab, cb, rfl⟩ := Kd.R_slice hvb; have HRB := Aside0.mk hvb; replace HRA := Aside0.mk (Kd.R_below HRA.out hb); replace HV := Aside0.mk (HV.out.step hb); replace HY := Aside0.mk (HY.out.below hb); clear hvb hb))
                    | (go_at_call 15; go_loud (obtain ⟨kr, hkr⟩ := right_pure T p (by have := HTS.out; omega) HP2.out (plB_size HP1.out); rw [← HLL.out] at hkr; obtain ⟨hz1, hca, hCa⟩ := Kd.R_reads' HRA.out; refine (jotterlaw24_right.calls kr T p Aa ca LL true w14 hCa hca hkr).mono ?_; clear hz1 hca hCa hkr; rintro e w15 ⟨rfl, hd⟩; have hb := hd.below; replace HRA := Aside0.mk (Kd.R_below HRA.out hb); replace HRB := Aside0.mk (Kd.R_below HRB.out hb); replace HV := Aside0.mk (HV.out.step hb); replace HY := Aside0.mk (HY.out.below hb); clear hd hb))
                    | (go_at_call 30; go_loud (obtain ⟨ki, hki⟩ := ints_pure LL (by rw [HLL.out, List.length_map]; have := places_len T p; have := HTS.out; omega); obtain ⟨hz1, hca, hCa⟩ := Kd.R_reads' HRA.out; obtain ⟨hz2, hcb, hCb⟩ := Kd.R_reads' HRB.out; refine (jotterlaw24_ints.calls ki Aa ca LL Ab cb LL true w15 hCa hca hCb hcb hki).mono ?_; clear hz1 hca hCa hz2 hcb hCb hki; rintro e w16 ⟨rfl, hd⟩; have hb := hd.below; replace HV := Aside0.mk (HV.out.step hb); replace HY := Aside0.mk (HY.out.below hb); clear hd hb)))
                  go_roundw
                  case rel => exact ⟨k + 1, by go_num, HK2.out, HV, HY⟩
                  case measure => simp [intOf]; have := HK2.out; omega
                · have d2 := decide_eq_false hkk
                  have d2n : decide (k < 8) = false := decide_eq_false (by omega)
                  go_wp2_with (first
                    | (go_at_call 26; go_loud ((with_reducible refine (words_any wr g r2 ps2 HV.out.x (by have := HXN.out.1; omega)).mono ?_); rw [HXT.out]; rintro e w12 ⟨u1, u2, rfl, hu1, hu2, hb⟩; rw [← HWL.out] at hu1; rw [← HOL.out] at hu2; obtain ⟨U1, e1, rfl⟩ := Kd.R_slice hu1; obtain ⟨U2, e2, rfl⟩ := Kd.R_slice hu2; have HU1 := Aside0.mk hu1; have HU2 := Aside0.mk hu2; replace HV := Aside0.mk (HV.out.step hb); replace HY := Aside0.mk (HY.out.below hb); clear hu1 hu2 hb))
                    | (go_at_call 26; go_loud ((with_reducible refine (words_any w12 g2 ry py HY.out (by have := HXN.out.2; omega)).mono ?_); rw [HYT.out]; rintro e w13 ⟨u3, u4, rfl, hu3, hu4, hb⟩; rw [← HWL.out] at hu3; rw [← HOL.out] at hu4; obtain ⟨U3, e3, rfl⟩ := Kd.R_slice hu3; obtain ⟨U4, e4, rfl⟩ := Kd.R_slice hu4; have HU3 := Aside0.mk hu3; have HU4 := Aside0.mk hu4; replace HU1 := Aside0.mk (Kd.R_below HU1.out hb); replace HU2 := Aside0.mk (Kd.R_below HU2.out hb); replace HV := Aside0.mk (HV.out.step hb); replace HY := Aside0.mk (HY.out.below hb); clear hu3 hu4 hb))
                    | (go_at_call 31; go_loud (obtain ⟨kw, hkw⟩ := words_pure WL (by rw [HWL.out, List.length_map]; have := words_bound T.data.toList; rw [size_toList] at this; have := HTS.out; omega); obtain ⟨hz1, hca, hCa⟩ := Kd.R_reads' HU1.out; obtain ⟨hz2, hcb, hCb⟩ := Kd.R_reads' HU3.out; refine (jotterlaw24_words.calls kw U1 e1 WL U3 e3 WL true w13 hCa hca hCb hcb hkw).mono ?_; clear hz1 hca hCa hz2 hcb hCb hkw; rintro e w14 ⟨rfl, hd⟩; have hb := hd.below; replace HU2 := Aside0.mk (Kd.R_below HU2.out hb); replace HU4 := Aside0.mk (Kd.R_below HU4.out hb); replace HV := Aside0.mk (HV.out.step hb); replace HY := Aside0.mk (HY.out.below hb); clear hd hb))
                    | (go_at_call 30; go_loud (obtain ⟨ki, hki⟩ := ints_pure OL (by rw [HOL.out, often_len]; have := words_bound T.data.toList; rw [size_toList] at this; have := HTS.out; omega); obtain ⟨hz1, hca, hCa⟩ := Kd.R_reads' HU2.out; obtain ⟨hz2, hcb, hCb⟩ := Kd.R_reads' HU4.out; refine (jotterlaw24_ints.calls ki U2 e2 OL U4 e4 OL true w14 hCa hca hCb hcb hki).mono ?_; clear hz1 hca hCa hz2 hcb hCb hki; rintro e w15 ⟨rfl, hd⟩; have hb := hd.below; replace HV := Aside0.mk (HV.out.step hb); replace HY := Aside0.mk (HY.out.below hb); clear hd hb)))
                  go_roundw
                  case rel => exact ⟨i + 1, D, r2, ps2, by go_num, HI2.out.1, HI2.out.2, ⟨A9, c9, rfl⟩, HV⟩
                  case measure => simp [intOf]; have := HI2.out; omega
              · have d1 := decide_eq_false hk
                have d1n := eq_false (show ¬ k < n2 by omega)
                go_wp2_with (first
                    | (go_at_call 26; go_loud ((with_reducible refine (words_any wr g r2 ps2 HV.out.x (by have := HXN.out.1; omega)).mono ?_); rw [HXT.out]; rintro e w12 ⟨u1, u2, rfl, hu1, hu2, hb⟩; rw [← HWL.out] at hu1; rw [← HOL.out] at hu2; obtain ⟨U1, e1, rfl⟩ := Kd.R_slice hu1; obtain ⟨U2, e2, rfl⟩ := Kd.R_slice hu2; have HU1 := Aside0.mk hu1; have HU2 := Aside0.mk hu2; replace HV := Aside0.mk (HV.out.step hb); replace HY := Aside0.mk (HY.out.below hb); clear hu1 hu2 hb))
                    | (go_at_call 26; go_loud ((with_reducible refine (words_any w12 g2 ry py HY.out (by have := HXN.out.2; omega)).mono ?_); rw [HYT.out]; rintro e w13 ⟨u3, u4, rfl, hu3, hu4, hb⟩; rw [← HWL.out] at hu3; rw [← HOL.out] at hu4; obtain ⟨U3, e3, rfl⟩ := Kd.R_slice hu3; obtain ⟨U4, e4, rfl⟩ := Kd.R_slice hu4; have HU3 := Aside0.mk hu3; have HU4 := Aside0.mk hu4; replace HU1 := Aside0.mk (Kd.R_below HU1.out hb); replace HU2 := Aside0.mk (Kd.R_below HU2.out hb); replace HV := Aside0.mk (HV.out.step hb); replace HY := Aside0.mk (HY.out.below hb); clear hu3 hu4 hb))
                    | (go_at_call 31; go_loud (obtain ⟨kw, hkw⟩ := words_pure WL (by rw [HWL.out, List.length_map]; have := words_bound T.data.toList; rw [size_toList] at this; have := HTS.out; omega); obtain ⟨hz1, hca, hCa⟩ := Kd.R_reads' HU1.out; obtain ⟨hz2, hcb, hCb⟩ := Kd.R_reads' HU3.out; refine (jotterlaw24_words.calls kw U1 e1 WL U3 e3 WL true w13 hCa hca hCb hcb hkw).mono ?_; clear hz1 hca hCa hz2 hcb hCb hkw; rintro e w14 ⟨rfl, hd⟩; have hb := hd.below; replace HU2 := Aside0.mk (Kd.R_below HU2.out hb); replace HU4 := Aside0.mk (Kd.R_below HU4.out hb); replace HV := Aside0.mk (HV.out.step hb); replace HY := Aside0.mk (HY.out.below hb); clear hd hb))
                    | (go_at_call 30; go_loud (obtain ⟨ki, hki⟩ := ints_pure OL (by rw [HOL.out, often_len]; have := words_bound T.data.toList; rw [size_toList] at this; have := HTS.out; omega); obtain ⟨hz1, hca, hCa⟩ := Kd.R_reads' HU2.out; obtain ⟨hz2, hcb, hCb⟩ := Kd.R_reads' HU4.out; refine (jotterlaw24_ints.calls ki U2 e2 OL U4 e4 OL true w14 hCa hca hCb hcb hki).mono ?_; clear hz1 hca hCa hz2 hcb hCb hki; rintro e w15 ⟨rfl, hd⟩; have hb := hd.below; replace HV := Aside0.mk (HV.out.step hb); replace HY := Aside0.mk (HY.out.below hb); clear hd hb)))
                go_roundw
                case rel => exact ⟨i + 1, D, r2, ps2, by go_num, HI2.out.1, HI2.out.2, ⟨A9, c9, rfl⟩, HV⟩
                case measure => simp [intOf]; have := HI2.out; omega
          · have y1 : ((i : Int) != (q : Int)) = true := bne_iff_ne.mpr hiq
            have y2 : ((i : Int) == (q : Int)) = false := beq_eq_false_iff_ne.mpr hiq
            have y3 : (i == q) = false := beq_eq_false_iff_ne.mpr (by omega)
            have y4 : (i != q) = true := bne_iff_ne.mpr (by omega)
            clear hz7 hq hz hiq hlt h80 hi80 hin
            go_wp2_with (first
          | (go_at_call 29; go_loud (refine (jotterlaw24_made.calls 1 sb sm sc d.length K P C 64 64 _ HMADE.out).mono ?_; rintro e w5 ⟨rfl, hb⟩; have HV5 := Aside0.mk ((HV.out.step hb).step (Below.alloc (Below.refl _ _) (Nat.le_refl _) (.cells #[.int .i64 K, .int .i64 P, .int .u8 C, .int .i64 64, .int .i64 64] 46))); clear hb k0 k1 k2))
          | (go_at_call 23; go_loud (refine (iapply_ok (w5.alloc (.cells #[.int .i64 K, .int .i64 P, .int .u8 C, .int .i64 64, .int .i64 64] 46)) g r' ps' HV5.out.x (by have := HV5.out.n; have := HI80.out; omega) K P C 64 64 HCC.out (by rw [HV5.out.f, List.length_map]; exact HFIT.out)).mono ?_; rintro e w6 ⟨r2, ps2, rfl, hi6, hf6, hn6, hch⟩; obtain ⟨hbe, hre⟩ := hch.bel HV5.out.b HV5.out.b.size HV5.out.hg HV5.out.r; have HBX : Aside0 (w6.heap[w5.heap.size]? = some (.cells #[.int .i64 K, .int .i64 P, .int .u8 C, .int .i64 64, .int .i64 64] 46 (0, 0))) := ⟨(hch.typ HV5.out.x 46 (by decide) (by decide) w5.heap.size _ (heap_alloc_new w5 _)).trans (heap_alloc_new w5 _)⟩; have x0 : w6.cell? ⟨w5.heap.size, 0, none⟩ = some (.int .i64 K) := (blk_cell HBX.out 0).trans rfl; have x1 : w6.cell? ⟨w5.heap.size, 1, none⟩ = some (.int .i64 P) := (blk_cell HBX.out 1).trans rfl; have x2 : w6.cell? ⟨w5.heap.size, 2, none⟩ = some (.int .u8 C) := (blk_cell HBX.out 2).trans rfl; have x3 : w6.cell? ⟨w5.heap.size, 3, none⟩ = some (.int .i64 64) := (blk_cell HBX.out 3).trans rfl; have x4 : w6.cell? ⟨w5.heap.size, 4, none⟩ = some (.int .i64 64) := (blk_cell HBX.out 4).trans rfl; have HV6 : Aside0 (Kd.R k76 76 w6 w.heap.size (fun _ => True) (.slice A d.length c) d ∧ Idx w6 g r2 ps2 ∧ fl ps2 = D.map (·.f0) ∧ Below w.heap.size w w6 ∧ (∀ k, r2 = some k → w.heap.size ≤ k) ∧ ps2.length ≤ ps'.length + 1) := ⟨⟨hch.row76 HV5.out.x HV5.out.e, hi6, by rw [hf6, HD.out, app_f0, HV5.out.f], hbe, hre, hn6⟩⟩; clear hi6 hf6 hn6 hch hbe hre))
          | (go_at_call 24; go_loud (obtain ⟨hz1, hcd, hCd⟩ := Kd.R_reads' HV6.out.1; refine (apply_ok A d c w6 K P C 64 64 hCd hcd HCC.out HFIT.out).mono ?_; rw [← HD.out]; clear hz1 hcd hCd; rintro e w7 ⟨v9, rfl, hv, hb⟩; obtain ⟨A9, c9, rfl⟩ := Kd.R_slice hv; have HV7 : Aside0 (Inv3 w w7 g (.slice A9 D.length c9) D r2 ps2 (i + 1)) := ⟨⟨Kd.R_lower hv HV6.out.2.2.2.1.size, HV6.out.2.1.below hb, HV6.out.2.2.1, below_then HV6.out.2.2.2.1 HV6.out.2.2.2.1.size hb, HV.out.hg, HV6.out.2.2.2.2.1, by have := HV6.out.2.2.2.2.2; have := HV.out.n; omega, by have := app_len HFIT.out; rw [← HD.out] at this; have := HV.out.dl; omega⟩⟩; clear hv hb x0 x1 x2 x3 x4)))
            go_roundw
            case rel => exact ⟨i + 1, D, r2, ps2, by go_num, HI2.out.1, HI2.out.2, ⟨A9, c9, rfl⟩, HV7⟩
            case measure => simp [intOf]; have := HI2.out; omega
      · have t2 := decide_eq_false h80
        have t2n : decide (i < 80) = false := decide_eq_false (by omega)
        clear hlt h80 hi80 hin
        go_wp2
        go_ret
        exact ⟨ret_bool (by simp), HV.out.b⟩
    · have t1 := decide_eq_false hlt
      have t1n := eq_false (show ¬ i < n1 by omega)
      clear hlt hi80 hin
      go_wp2
      go_ret
      exact ⟨ret_bool (by simp), HV.out.b⟩
end Go.Proofs.Ytfngcabckfmhnaa.B
