/- SearchBack: the walk of the law. -/
import Derived.Test.YtfngcabckfmhnaaK2
import Derived.Test.YtfngcabckfmhnaaR0
namespace Go.Proofs.Ytfngcabckfmhnaa.B
open Go.RowKit Go.Proofs.YtfngcabckfmhnaaW.PrintWords Go.Proofs.YtfngcabckfmhnaaW.PrintLast Go.Proofs.YtfngcabckfmhnaaW.PrintMore Go.Proofs.Ytfngcabckfmhnaa.PA
set_option linter.unusedVariables false
set_option linter.unusedSimpArgs false
set_option maxHeartbeats 64000000 in
set_option maxRecDepth 100000 in
theorem back_some (text pattern : ByteArray) (many : Int) (w : World) (hw : text.size ≤ 140737488351232) (hw2 : pattern.size ≤ 140737488351232) (m : Nat) (hm : jotterlaw24_into.f many 5 = some (m : Int)) (hm5 : m < 5) :
    Calls Try.prog 4 #[.string text, .string pattern, .int .i64 many] w (TrueAns w) := by
  have HM := Aside0.mk hm
  have HM5 := Aside0.mk hm5
  obtain ⟨kw, hkw⟩ := without_pure text hw
  obtain ⟨S, hS⟩ : ∃ S, S = strOfNums (wo text) := ⟨_, rfl⟩
  rw [← hS] at hkw
  have HKW := Aside0.mk hkw
  obtain ⟨n, hn⟩ : ∃ n, n = min S.size 200 := ⟨_, rfl⟩
  obtain ⟨ke, hke⟩ := elems_pure S 200 (by omega)
  rw [← hn] at hke
  have HN : Aside0 (n ≤ 200) := ⟨by omega⟩
  obtain ⟨xs, hxs⟩ : ∃ xs, xs = elemsL S n := ⟨_, rfl⟩
  have HXL : Aside0 (xs.length = n) := ⟨by rw [hxs]; exact elemsL_length _ _⟩
  rw [← hxs] at hke
  have HKE := Aside0.mk hke
  obtain ⟨kt, hkt⟩ := text_pure xs (by rw [HXL.out]; have := HN.out; omega)
  obtain ⟨s, hs⟩ : ∃ s, s = strOfNums (xs.map (·.f0)) := ⟨_, rfl⟩
  rw [← hs] at hkt
  have HKT := Aside0.mk hkt
  have hxr : ∀ x ∈ xs.map (·.f0), (0 ≤ x ∧ x ≤ 255) ∧ x ≠ 126 := fun x hx => by
    rw [hxs, elemsL_f0 _ _ (by omega), hS, bytesOf_strOfNums _ fun x hx => (wo_range text x hx).1] at hx
    exact wo_range text x (List.mem_of_mem_take hx)
  have hbs : bytesOf s = xs.map (·.f0) := by rw [hs]; exact bytesOf_strOfNums _ fun x hx => (hxr x hx).1
  have HBS := Aside0.mk hbs
  have HNO : Aside0 (∀ x ∈ bytesOf s, x ≠ 126) := ⟨fun x hx => by rw [hbs] at hx; exact (hxr x hx).2⟩
  have HSZ : Aside0 (s.size = n) := ⟨by rw [hs, strOfNums_size, List.length_map]; exact HXL.out⟩
  have HSS := Aside0.mk hs
  clear hm hkw hS hn hxs hke hkt hs hxr hbs hw
  go_enter Try.func4, Try.ntmps4
  go_wp2_with (first
    | (go_at_call 18; go_loud ((with_reducible refine (jotterlaw24_without.calls kw text 126 S w HKW.out).mono ?_); rintro e w1 ⟨rfl, hb⟩; have HB := Aside0.mk hb; clear hb))
    | (go_at_call 11; go_loud (refine (jotterlaw24_elems.calls ke S 200 xs w1 HKE.out).mono ?_; rintro e w2 ⟨v0, rfl, hr1, hb⟩; obtain ⟨A0, c0, rfl⟩ := Kd.R_slice hr1; have HR := Aside0.mk hr1; replace HB := Aside0.mk (below_then HB.out HB.out.size hb); clear hr1 hb))
    | (go_at_call 16; go_loud (obtain ⟨_, hc0, hC0⟩ := Kd.R_reads' HR.out; refine (doc_Text.calls kt A0 c0 xs s w2 hC0 hc0 HKT.out).mono ?_; clear hc0 hC0; rintro e w3 ⟨rfl, hb⟩; replace HR := Aside0.mk (Kd.R_below HR.out hb); replace HB := Aside0.mk (below_then HB.out HB.out.size hb); clear hb)))
  refine (needle_any pattern w3 hw2).mono ?_
  rintro e w4 ⟨p0, rfl, hp0, -, hb⟩
  replace HR := Aside0.mk (Kd.R_below HR.out hb)
  replace HB := Aside0.mk (below_then HB.out HB.out.size hb)
  clear hb hw2
  by_cases hc : 5 < (wo p0).length
  · skip
    have hm5 := HM5.out
    obtain ⟨kw2, hkw2⟩ := without_pure p0 (by have := plB_size hp0; omega)
    obtain ⟨P0, hP0⟩ : ∃ P0, P0 = strOfNums (wo p0) := ⟨_, rfl⟩
    have hP0s : P0.size = (wo p0).length := by rw [hP0, strOfNums_size]
    rw [← hP0] at hkw2
    have HKW2 := Aside0.mk hkw2
    obtain ⟨p, hpe⟩ : ∃ p, p = strOfNums ((wo p0).take 5) := ⟨_, rfl⟩
    have hpp : Pat p := by rw [hpe]; exact pat_of (fun x hx => wo_pat hp0 x (List.mem_of_mem_take hx)) (by rw [List.length_take]; omega) (by rw [List.length_take]; omega)
    have hcutp : P0.extract 0 5 = p := by rw [hP0, hpe]; exact extract_nums _ _
    have HCP := Aside0.mk hcutp
    have t5 : decide ((5 : Int) < (P0.size : Int)) = true := decide_eq_true (by omega)
    have t6 : 5 ≤ P0.size := by omega
    have hne : (P0.extract 0 5).toList.isEmpty = false := by rw [hcutp]; exact toList_ne hpp.lo
    clear hpe hcutp
    have HPP := Aside0.mk hpp
    have HPS : Aside0 (p.size ≤ 64) := ⟨by have := hpp.hi; omega⟩
    have HPS5 : Aside0 (1 ≤ p.size ∧ p.size ≤ 5) := ⟨hpp.lo, hpp.hi⟩
    obtain ⟨q, hq⟩ : ∃ q, q = strOfNums (List.replicate (m + 1) 126) := ⟨_, rfl⟩
    have hqz : q.size = m + 1 := by rw [hq, strOfNums_size, List.length_replicate]
    have HQL : Aside0 (plB q = true) := ⟨by rw [hq]; exact tildes_pl _ (by omega)⟩
    have hqc : (⟨#[126, 126, 126, 126, 126]⟩ : ByteArray).extract 0 (1 + m) = q := by rw [hq, Nat.add_comm]; exact tildes_cut _ (by omega)
    have HQC := Aside0.mk hqc
    obtain ⟨L, hL⟩ : ∃ L, L = plc s p 0 true := ⟨_, rfl⟩
    obtain ⟨N, hN⟩ : ∃ N : Nat, N = L.length * (p.size + q.size) := ⟨_, rfl⟩
    have HGP : Aside0 (Gap p.size n L) := ⟨by rw [hL, ← HSZ.out]; exact plc_gap s p⟩
    obtain ⟨ks, hks⟩ := swapped_pure s p q hpp.lo HPS.out (by rw [HSZ.out]; have := HN.out; omega) (by omega) L hL
    obtain ⟨W, hW⟩ : ∃ W, W = strOfNums (outB (bytesOf s) p.size q L L.length ++ (bytesOf s).drop (srcP p.size L L.length)) := ⟨_, rfl⟩
    have hlaw := back_law s p HNO.out hpp m L hL W (by rw [hW, hq])
    rw [← hq] at hlaw
    obtain ⟨L2, hL2⟩ : ∃ L2, L2 = plc W q 0 true := ⟨_, rfl⟩
    rw [← hL2] at hlaw
    obtain ⟨hf1, hf2, hf3⟩ := hlaw
    have HF1 := Aside0.mk hf1
    have HF2 := Aside0.mk hf2
    have HF3 : Aside0 (strOfNums (outB (bytesOf W) q.size p L2 L2.length ++ (bytesOf W).drop (srcP q.size L2 L2.length)) = s) := ⟨by rw [hqz, hf3, HBS.out, ← HSS.out]⟩
    rw [← hW] at hks
    have HKS := Aside0.mk hks
    have HW := Aside0.mk hW
    have HL := Aside0.mk hL
    have HL2 := Aside0.mk hL2
    have HNN := Aside0.mk hN
    have hLl : L.length ≤ 201 := by
      have e := plc_length [xs.map (·.f0)] p
      rw [show fl [xs.map (·.f0)] = xs.map (·.f0) by simp [fl], ← HSS.out, ← hL, List.length_map, HXL.out] at e
      have := HN.out
      omega
    have hps : p.size ≤ 64 := HPS.out
    have hqs : q.size ≤ 64 := by omega
    have hNb : N ≤ 201 * 128 := by rw [hN]; exact Nat.mul_le_mul hLl (by omega)
    have HQS : Aside0 (1 ≤ q.size ∧ q.size ≤ 64) := ⟨by omega, hqs⟩
    have hMM : IntKind.i64.wrap ((L.length : Int) * ((p.size : Int) + (q.size : Int))) = (N : Int) := by
      rw [show (L.length : Int) * ((p.size : Int) + (q.size : Int)) = (N : Int) by rw [hN]; push_cast; rfl]
      exact IntWalk.i64_in _ (by omega)
    have HMM := Aside0.mk hMM
    have hm0 : (0 : Int) ≤ (m : Int) := by omega
    have hm4 : (m : Int) ≤ 4 := by omega
    clear hm5 hkw2 hP0 hP0s hpp hq hqz hqc hks hW hL hL2 hN hf1 hf2 hf3 hNb hMM hp0 hc
    go_wp2_with (go_at_call 18; go_loud ((with_reducible refine (jotterlaw24_without.calls kw2 p0 126 P0 w4 HKW2.out).mono ?_); rintro e w5 ⟨rfl, hb⟩; replace HR := Aside0.mk (Kd.R_below HR.out hb); replace HB := Aside0.mk (below_then HB.out HB.out.size hb); clear hb))
    rw [HCP.out]
    go_wp2_with (go_at_call 19; go_loud (refine (jotterlaw24_into.calls many 5 m w5 HM.out).mono ?_; rintro e w6 ⟨rfl, hd⟩; have hb := hd.below; replace HR := Aside0.mk (Kd.R_below HR.out hb); replace HB := Aside0.mk (below_then HB.out HB.out.size hb); clear hb hd))
    rw [HQC.out]
    go_wp2_with (first
      | (go_at_call 12; go_loud (obtain ⟨_, hc0, hC0⟩ := Kd.R_reads' HR.out; refine (new_any A0 c0 xs w6 hC0 hc0 (by rw [HXL.out]; have := HN.out; omega)).mono ?_; clear hc0 hC0; rintro e w7 ⟨g, r, ps, rfl, hi2, hf2, hg2, hr2, hn2, hb⟩; have HI := Aside0.mk hi2; have HF := Aside0.mk hf2; have HNP := Aside0.mk hn2; have HG : Aside0 (w.heap.size ≤ g ∧ ∀ k, r = some k → w.heap.size ≤ k) := ⟨by have := HB.out.size; omega, fun k hk => by have := hr2 k hk; have := HB.out.size; omega⟩; replace HB := Aside0.mk (below_then HB.out HB.out.size hb); clear hi2 hf2 hg2 hr2 hn2 hb HR))
      | (go_at_call 20; go_loud (refine (text_any w7 g r ps HI.out (by rw [HF.out, List.length_map, HXL.out]; have := HN.out; omega)).mono ?_; rintro e w8 ⟨rfl, hb⟩; rw [HF.out, ← HSS.out]; replace HI := Aside0.mk (HI.out.below hb); replace HB := Aside0.mk (below_then HB.out HB.out.size hb); clear hb)))
    have HT : Aside0 (strOfNums (fl ps) = s) := ⟨by rw [HF.out, ← HSS.out]⟩
    have HFN : Aside0 ((fl ps).length ≤ 200) := ⟨by rw [HF.out, List.length_map, HXL.out]; exact HN.out⟩
    have hM := HMM.out
    by_cases hmany : (64 : Int) < (N : Int)
    · have d1 := decide_eq_true hmany
      have HMA := Aside0.mk hmany
      clear hmany
      go_wp2_with (first
        | (go_at_call 21; go_loud (refine (swap_maker w8 g r ps HI.out (by have := HFN.out; omega) p q HPS5.out.1 HPP.out.pl HQL.out 1 1 (by rw [HT.out, ← HL.out, ← HNN.out]; have := HMA.out; omega)).mono ?_; rintro e w9 ⟨rfl, hb⟩; replace HI := Aside0.mk (HI.out.below hb); replace HB := Aside0.mk (below_then HB.out HB.out.size hb); clear hb))
        | (go_at_call 22; go_loud (refine (jotterlaw24_swapped.calls ks s p q W (L.length : Int) w9 HKS.out).mono ?_; rintro e w10 ⟨rfl, hb⟩; replace HB := Aside0.mk (below_then HB.out HB.out.size hb); clear hb)))
      go_ret
      exact ⟨ret_bool (by simp), HB.out⟩
    · have d1 := decide_eq_false hmany
      have hNs : (N : Int) ≤ 64 := by omega
      have HNs := Aside0.mk hNs
      clear hmany
      obtain ⟨ops, hops⟩ : ∃ ops, ops = mkOps 1 1 (raws p.size q L L.length) := ⟨_, rfl⟩
      have HOL : Aside0 (ops.length = N) := ⟨by rw [hops, mkOps_length, raws_length, HNN.out]⟩
      obtain ⟨df, hdf⟩ : ∃ df, df = outE xs p.size q L 1 1 L.length ++ xs.drop (srcP p.size L L.length) := ⟨_, rfl⟩
      have HRUN : Aside0 (Run xs ops df) := ⟨by
        rw [hops, hdf]
        exact raws_run xs p.size q HQL.out L 1 1 (by rw [HXL.out]; exact HGP.out) (by omega) (by omega) (by rw [← HNN.out]; omega) (by rw [HXL.out]; have := HN.out; omega) _ (Nat.le_refl _)⟩
      have HDW : Aside0 (strOfNums (df.map (·.f0)) = W) := ⟨by rw [HW.out, hdf, List.map_append, outE_f0, List.map_drop, HBS.out]⟩
      have HDL : Aside0 (df.length ≤ 300) := ⟨by
        have h1 := outE_length xs p.size q L 1 1 (by rw [HXL.out]; exact HGP.out) L.length (Nat.le_refl _)
        have h2 : L.length * (p.size + q.size) = L.length * p.size + L.length * q.size := Nat.mul_add _ _ _
        have h3 := HNN.out
        have h4 := HXL.out
        have h5 := HN.out
        rw [hdf, List.length_append, List.length_drop]
        omega⟩
      have HOPS := Aside0.mk hops
      obtain ⟨ops2, hops2⟩ : ∃ ops2, ops2 = mkOps 2 1 (raws q.size p L2 L2.length) := ⟨_, rfl⟩
      have HN2 : Aside0 (L2.length * (q.size + p.size) = N) := ⟨by rw [HF2.out, HNN.out, Nat.add_comm]⟩
      have HOL2 : Aside0 (ops2.length = N) := ⟨by rw [hops2, mkOps_length, raws_length, HN2.out]⟩
      have hWs : W.size = df.length := by rw [← HDW.out, strOfNums_size, List.length_map]
      have HWS : Aside0 (W.size ≤ 300) := ⟨by rw [hWs]; exact HDL.out⟩
      obtain ⟨df2, hdf2⟩ : ∃ df2, df2 = outE df q.size p L2 2 1 L2.length ++ df.drop (srcP q.size L2 L2.length) := ⟨_, rfl⟩
      have HRUN2 : Aside0 (Run df ops2 df2) := ⟨by
        rw [hops2, hdf2]
        exact raws_run df q.size p HPP.out.pl L2 2 1 (by rw [← hWs, HL2.out]; exact plc_gap W q) (by omega) (by omega) (by rw [HN2.out]; omega) (by have := HDL.out; omega) _ (Nat.le_refl _)⟩
      have HDS : Aside0 (strOfNums (df2.map (·.f0)) = s ∧ df2.length ≤ 1000) := ⟨by
        have hr : ∀ x ∈ df.map (·.f0), 0 ≤ x ∧ x ≤ 255 := fun x hx => by
          rw [hdf, List.map_append, outE_f0, List.map_drop, ← HBS.out, out_G s p q L HL.out] at hx
          rcases G_mem (by rw [bytesOf_length]; exact HPS5.out.1) _ 0 rfl x hx with h | h
          · exact bytesOf_range _ _ h
          · exact bytesOf_range _ _ h
        have hbw : bytesOf W = df.map (·.f0) := by rw [← HDW.out]; exact bytesOf_strOfNums _ hr
        have e : strOfNums (df2.map (·.f0)) = s := by
          rw [hdf2, List.map_append, outE_f0, List.map_drop, ← hbw]
          exact HF3.out
        refine ⟨e, ?_⟩
        have e2 := congrArg ByteArray.size e
        rw [strOfNums_size, List.length_map, HSZ.out] at e2
        have := HN.out
        omega⟩
      have HOPS2 := Aside0.mk hops2
      clear hops hdf hops2 hdf2 hWs
      go_wp2_with (first
        | (go_at_call 21; go_loud (refine (swap_ok w8 g r ps HI.out s HT.out (by rw [HSZ.out]; have := HN.out; omega) p q HPS5.out.1 HPP.out.pl HQL.out 1 1 (by omega) (by omega) L HL.out (by rw [← HNN.out]; have := HNs.out; omega)).mono ?_; rintro e w9 ⟨vO, rfl, ho, hb⟩; rw [← HOPS.out] at ho; obtain ⟨AO, cO, rfl⟩ := Kd.R_slice ho; rw [HOL.out] at ho ⊢; have HO := Aside0.mk (Kd.R_lower ho HB.out.size); replace HI := Aside0.mk (HI.out.below hb); replace HB := Aside0.mk (below_then HB.out HB.out.size hb); clear ho hb))
        | (go_at_call 22; go_loud (refine (jotterlaw24_swapped.calls ks s p q W (L.length : Int) w9 HKS.out).mono ?_; rintro e w10 ⟨rfl, hb⟩; replace HI := Aside0.mk (HI.out.below hb); replace HO := Aside0.mk (Kd.R_below HO.out hb); replace HB := Aside0.mk (below_then HB.out HB.out.size hb); clear hb)))
      have HV : Aside0 (Inv2 w w10 g (.slice AO N cO) ops (xs.map (·.f0)) r ps 0) := ⟨⟨HO.out, HI.out, HF.out, HB.out, HG.out.1, HG.out.2, by have := HNP.out; rw [HXL.out] at this; have := HN.out; omega⟩⟩
      go_loopw [16] (fun v16 wr => ∃ (i : Nat) (d : List S76) (r' : Option Nat) (ps' : List (List Int)), v16 = .int .i64 (i : Int) ∧ (i : Int) ≤ (N : Int) ∧ Aside0 (Run d (ops.drop i) df) ∧ Aside0 (Inv2 w wr g (.slice AO N cO) ops (d.map (·.f0)) r' ps' i)) (fun v16 _ => N - (intOf v16).toNat)
      case atStart => exact ⟨0, xs, r, ps, rfl, by omega, HRUN, HV⟩
      case round =>
        clear HV HI HF HB HNP HG HT HFN HO HRUN
        obtain ⟨i, d, r', ps', rfl, hi, HRU, HV⟩ := hrel
        by_cases hlt : (i : Int) < (N : Int)
        · have c1 := decide_eq_true hlt
          have hi0 : (0 : Int) ≤ (i : Int) := by omega
          have hie : (i : Int) ≤ 64 := by omega
          obtain ⟨x, hx, hrd⟩ := mkOps_at 1 1 (raws p.size q L L.length) i (by rw [raws_length, ← HNN.out]; omega)
          obtain ⟨hk12, hch⟩ := raws_kinds _ _ _ _ x (List.mem_of_getElem? hx)
          rw [← HOPS.out] at hrd
          obtain ⟨K, P, C⟩ := x
          obtain ⟨hfit, hrun⟩ := run_step (by rw [HOL.out]; omega) HRU.out
          rw [hrd] at hfit hrun
          have HFIT := Aside0.mk hfit
          have HRU2 := Aside0.mk hrun
          have HCH := Aside0.mk hch
          obtain ⟨hr1, hr2, hCO⟩ := Kd.R_reads' HV.out.o
          obtain ⟨ad, hao, k0, k1, k2, k3, k4⟩ := at_T46 hCO (i : Int) hi0 (by first | exact hlt | (rw [HOL.out]; exact hlt))
          subst hao
          rw [hrd] at k0 k1 k2 k3 k4
          simp only [Int.toNat_natCast] at k0 k1 k2 k3 k4
          clear hx hk12 hch hrd hfit hrun hr1 hr2 hCO
          go_wp2_with (go_at_call 23; go_loud (refine (iapply_ok wr g r' ps' HV.out.x (by have := HV.out.n; omega) K P C 1 (1 + (i : Int)) HCH.out (by rw [HV.out.f, List.length_map]; exact HFIT.out)).mono ?_; rintro e w11 ⟨r2, ps2, rfl, hi10, hf10, hn10, hc10⟩; obtain ⟨hbe, hre⟩ := hc10.bel HV.out.b HV.out.b.size HV.out.hg HV.out.r; have hinv : Inv2 w w11 g (.slice (some ad) N cO) ops ((app d K P C 1 (1 + (i : Int))).map (·.f0)) r2 ps2 (i + 1) := ⟨hc10.row46 HV.out.x HV.out.o, hi10, by rw [hf10, app_f0, HV.out.f], hbe, HV.out.hg, hre, by have := HV.out.n; omega⟩; clear k0 k1 k2 k3 k4 hbe hre hi10 hf10 hn10 hc10; have HV10 := Aside0.mk hinv; clear hinv))
          go_roundw
          case rel => exact ⟨i + 1, _, r2, ps2, by go_num, by omega, HRU2, HV10⟩
          case measure => simp [intOf]; omega
        · have c1 := decide_eq_false hlt
          obtain rfl : i = N := by omega
          obtain rfl : d = df := by
            have := HRU.out
            rw [List.drop_eq_nil_of_le (by rw [HOL.out]; exact Nat.le_refl _)] at this
            cases this
            rfl
          clear HRU hi hlt
          have HTW : Aside0 (strOfNums (fl ps') = W) := ⟨by rw [HV.out.f, HDW.out]⟩
          have HFN2 : Aside0 ((fl ps').length ≤ 300) := ⟨by rw [HV.out.f, List.length_map]; exact HDL.out⟩
          go_wp2_with (first
            | (go_at_call 14; go_loud (refine (find_ok wr g r' ps' HV.out.x (by have := HFN2.out; omega) p HPS5.out.1 HPP.out.pl).mono ?_; rintro e w11 ⟨vF, rfl, hvf, hb⟩; rw [HTW.out, HF1.out] at hvf; obtain ⟨AF, cF, rfl⟩ := Kd.R_slice hvf; have HV2 := Aside0.mk (HV.out.step hb); clear hvf hb))
            | (go_at_call 21; go_loud (refine (swap_ok w11 g r' ps' HV2.out.x W HTW.out (by have := HWS.out; omega) q p HQS.out.1 HQL.out HPP.out.pl 2 1 (by omega) (by omega) L2 HL2.out (by rw [HN2.out]; have := HNs.out; omega)).mono ?_; rintro e w12 ⟨vO2, rfl, ho, hb⟩; rw [← HOPS2.out] at ho; obtain ⟨AO2, cO2, rfl⟩ := Kd.R_slice ho; rw [HOL2.out] at ho ⊢; have HO2 := Aside0.mk (Kd.R_lower ho HV2.out.b.size); replace HV2 := Aside0.mk (HV2.out.step hb); clear ho hb)))
          have HV3 : Aside0 (Inv2 w w12 g (.slice AO2 i cO2) ops2 (d.map (·.f0)) r' ps' 64) := ⟨⟨HO2.out, HV2.out.x, HV2.out.f, HV2.out.b, HV2.out.hg, HV2.out.r, by have := HV.out.n; have := HNs.out; omega⟩⟩
          clear HV HV2 HO2 HTW HFN2
          have hi64 : i ≤ 64 := by omega
          go_loopw [19] (fun v19 wr => ∃ (j : Nat) (d : List S76) (r' : Option Nat) (ps' : List (List Int)), v19 = .int .i64 (j : Int) ∧ (j : Int) ≤ (i : Int) ∧ Aside0 (Run d (ops2.drop j) df2) ∧ Aside0 (Inv2 w wr g (.slice AO2 i cO2) ops2 (d.map (·.f0)) r' ps' (64 + j))) (fun v19 _ => i - (intOf v19).toNat)
          case atStart => exact ⟨0, d, r', ps', rfl, by omega, HRUN2, HV3⟩
          case round =>
            clear HV3 HRUN2
            obtain ⟨j, d2, r3, ps3, rfl, hj, HRU, HV⟩ := hrel
            by_cases hlt : (j : Int) < (i : Int)
            · have c2 := decide_eq_true hlt
              have hj0 : (0 : Int) ≤ (j : Int) := by omega
              have hje : (j : Int) ≤ 64 := by omega
              obtain ⟨x, hx, hrd⟩ := mkOps_at 2 1 (raws q.size p L2 L2.length) j (by rw [raws_length, HN2.out]; omega)
              obtain ⟨hk12, hch⟩ := raws_kinds _ _ _ _ x (List.mem_of_getElem? hx)
              rw [← HOPS2.out] at hrd
              obtain ⟨K, P, C⟩ := x
              obtain ⟨hfit, hrun⟩ := run_step (by rw [HOL2.out]; omega) HRU.out
              rw [hrd] at hfit hrun
              have HFIT := Aside0.mk hfit
              have HRU2 := Aside0.mk hrun
              have HCH := Aside0.mk hch
              obtain ⟨hr1, hr2, hCO⟩ := Kd.R_reads' HV.out.o
              obtain ⟨ad, hao, k0, k1, k2, k3, k4⟩ := at_T46 hCO (j : Int) hj0 (by first | exact hlt | (rw [HOL2.out]; exact hlt))
              subst hao
              rw [hrd] at k0 k1 k2 k3 k4
              simp only [Int.toNat_natCast] at k0 k1 k2 k3 k4
              clear hx hk12 hch hrd hfit hrun hr1 hr2 hCO
              go_wp2_with (go_at_call 23; go_loud (refine (iapply_ok wr g r3 ps3 HV.out.x (by have := HV.out.n; omega) K P C 2 (1 + (j : Int)) HCH.out (by rw [HV.out.f, List.length_map]; exact HFIT.out)).mono ?_; rintro e w13 ⟨r4, ps4, rfl, hi10, hf10, hn10, hc10⟩; obtain ⟨hbe, hre⟩ := hc10.bel HV.out.b HV.out.b.size HV.out.hg HV.out.r; have hinv : Inv2 w w13 g (.slice (some ad) i cO2) ops2 ((app d2 K P C 2 (1 + (j : Int))).map (·.f0)) r4 ps4 (64 + (j + 1)) := ⟨hc10.row46 HV.out.x HV.out.o, hi10, by rw [hf10, app_f0, HV.out.f], hbe, HV.out.hg, hre, by have := HV.out.n; omega⟩; clear k0 k1 k2 k3 k4 hbe hre hi10 hf10 hn10 hc10; have HV10 := Aside0.mk hinv; clear hinv))
              go_roundw
              case rel => exact ⟨j + 1, _, r4, ps4, by go_num, by omega, HRU2, HV10⟩
              case measure => simp [intOf]; omega
            · have c2 := decide_eq_false hlt
              obtain rfl : j = i := by omega
              obtain rfl : d2 = df2 := by
                have := HRU.out
                rw [List.drop_eq_nil_of_le (by rw [HOL2.out]; exact Nat.le_refl _)] at this
                cases this
                rfl
              go_wp2_with (go_at_call 20; go_loud (refine (text_any wr g r3 ps3 HV.out.x (by rw [HV.out.f, List.length_map]; have := HDS.out.2; omega)).mono ?_; rintro e w14 ⟨rfl, hb⟩; rw [HV.out.f, HDS.out.1]; have HB := Aside0.mk (below_then HV.out.b HV.out.b.size hb); clear hb))
              go_ret
              exact ⟨ret_bool (by simp), HB.out⟩
  · by_cases hc2 : 1 ≤ (wo p0).length
    · have hc : 1 ≤ (wo p0).length ∧ (wo p0).length ≤ 5 := ⟨hc2, by omega⟩
      clear hc2
      have hm5 := HM5.out
      obtain ⟨kw2, hkw2⟩ := without_pure p0 (by have := plB_size hp0; omega)
      obtain ⟨P0, hP0⟩ : ∃ P0, P0 = strOfNums (wo p0) := ⟨_, rfl⟩
      have hP0s : P0.size = (wo p0).length := by rw [hP0, strOfNums_size]
      rw [← hP0] at hkw2
      have HKW2 := Aside0.mk hkw2
      have hpp : Pat P0 := by rw [hP0]; exact pat_of (wo_pat hp0) hc.1 hc.2
      have t5 : decide ((5 : Int) < (P0.size : Int)) = false := decide_eq_false (by omega)
      have hne : P0.toList.isEmpty = false := toList_ne hpp.lo
      obtain ⟨p, hpe⟩ : ∃ p, p = P0 := ⟨_, rfl⟩
      rw [← hpe] at hpp hP0 hP0s hkw2 t5 hne
      replace HKW2 : Aside0 (jotterlaw24_without.f kw2 p0 126 = some p) := ⟨hkw2⟩
      subst hpe
      have HPP := Aside0.mk hpp
      have HPS : Aside0 (p.size ≤ 64) := ⟨by have := hpp.hi; omega⟩
      have HPS5 : Aside0 (1 ≤ p.size ∧ p.size ≤ 5) := ⟨hpp.lo, hpp.hi⟩
      obtain ⟨q, hq⟩ : ∃ q, q = strOfNums (List.replicate (m + 1) 126) := ⟨_, rfl⟩
      have hqz : q.size = m + 1 := by rw [hq, strOfNums_size, List.length_replicate]
      have HQL : Aside0 (plB q = true) := ⟨by rw [hq]; exact tildes_pl _ (by omega)⟩
      have hqc : (⟨#[126, 126, 126, 126, 126]⟩ : ByteArray).extract 0 (1 + m) = q := by rw [hq, Nat.add_comm]; exact tildes_cut _ (by omega)
      have HQC := Aside0.mk hqc
      obtain ⟨L, hL⟩ : ∃ L, L = plc s p 0 true := ⟨_, rfl⟩
      obtain ⟨N, hN⟩ : ∃ N : Nat, N = L.length * (p.size + q.size) := ⟨_, rfl⟩
      have HGP : Aside0 (Gap p.size n L) := ⟨by rw [hL, ← HSZ.out]; exact plc_gap s p⟩
      obtain ⟨ks, hks⟩ := swapped_pure s p q hpp.lo HPS.out (by rw [HSZ.out]; have := HN.out; omega) (by omega) L hL
      obtain ⟨W, hW⟩ : ∃ W, W = strOfNums (outB (bytesOf s) p.size q L L.length ++ (bytesOf s).drop (srcP p.size L L.length)) := ⟨_, rfl⟩
      have hlaw := back_law s p HNO.out hpp m L hL W (by rw [hW, hq])
      rw [← hq] at hlaw
      obtain ⟨L2, hL2⟩ : ∃ L2, L2 = plc W q 0 true := ⟨_, rfl⟩
      rw [← hL2] at hlaw
      obtain ⟨hf1, hf2, hf3⟩ := hlaw
      have HF1 := Aside0.mk hf1
      have HF2 := Aside0.mk hf2
      have HF3 : Aside0 (strOfNums (outB (bytesOf W) q.size p L2 L2.length ++ (bytesOf W).drop (srcP q.size L2 L2.length)) = s) := ⟨by rw [hqz, hf3, HBS.out, ← HSS.out]⟩
      rw [← hW] at hks
      have HKS := Aside0.mk hks
      have HW := Aside0.mk hW
      have HL := Aside0.mk hL
      have HL2 := Aside0.mk hL2
      have HNN := Aside0.mk hN
      have hLl : L.length ≤ 201 := by
        have e := plc_length [xs.map (·.f0)] p
        rw [show fl [xs.map (·.f0)] = xs.map (·.f0) by simp [fl], ← HSS.out, ← hL, List.length_map, HXL.out] at e
        have := HN.out
        omega
      have hps : p.size ≤ 64 := HPS.out
      have hqs : q.size ≤ 64 := by omega
      have hNb : N ≤ 201 * 128 := by rw [hN]; exact Nat.mul_le_mul hLl (by omega)
      have HQS : Aside0 (1 ≤ q.size ∧ q.size ≤ 64) := ⟨by omega, hqs⟩
      have hMM : IntKind.i64.wrap ((L.length : Int) * ((p.size : Int) + (q.size : Int))) = (N : Int) := by
        rw [show (L.length : Int) * ((p.size : Int) + (q.size : Int)) = (N : Int) by rw [hN]; push_cast; rfl]
        exact IntWalk.i64_in _ (by omega)
      have HMM := Aside0.mk hMM
      have hm0 : (0 : Int) ≤ (m : Int) := by omega
      have hm4 : (m : Int) ≤ 4 := by omega
      clear hm5 hkw2 hP0 hP0s hpp hq hqz hqc hks hW hL hL2 hN hf1 hf2 hf3 hNb hMM hp0 hc
      go_wp2_with (go_at_call 18; go_loud ((with_reducible refine (jotterlaw24_without.calls kw2 p0 126 p w4 HKW2.out).mono ?_); rintro e w5 ⟨rfl, hb⟩; replace HR := Aside0.mk (Kd.R_below HR.out hb); replace HB := Aside0.mk (below_then HB.out HB.out.size hb); clear hb))
      go_wp2_with (go_at_call 19; go_loud (refine (jotterlaw24_into.calls many 5 m w5 HM.out).mono ?_; rintro e w6 ⟨rfl, hd⟩; have hb := hd.below; replace HR := Aside0.mk (Kd.R_below HR.out hb); replace HB := Aside0.mk (below_then HB.out HB.out.size hb); clear hb hd))
      rw [HQC.out]
      go_wp2_with (first
        | (go_at_call 12; go_loud (obtain ⟨_, hc0, hC0⟩ := Kd.R_reads' HR.out; refine (new_any A0 c0 xs w6 hC0 hc0 (by rw [HXL.out]; have := HN.out; omega)).mono ?_; clear hc0 hC0; rintro e w7 ⟨g, r, ps, rfl, hi2, hf2, hg2, hr2, hn2, hb⟩; have HI := Aside0.mk hi2; have HF := Aside0.mk hf2; have HNP := Aside0.mk hn2; have HG : Aside0 (w.heap.size ≤ g ∧ ∀ k, r = some k → w.heap.size ≤ k) := ⟨by have := HB.out.size; omega, fun k hk => by have := hr2 k hk; have := HB.out.size; omega⟩; replace HB := Aside0.mk (below_then HB.out HB.out.size hb); clear hi2 hf2 hg2 hr2 hn2 hb HR))
        | (go_at_call 20; go_loud (refine (text_any w7 g r ps HI.out (by rw [HF.out, List.length_map, HXL.out]; have := HN.out; omega)).mono ?_; rintro e w8 ⟨rfl, hb⟩; rw [HF.out, ← HSS.out]; replace HI := Aside0.mk (HI.out.below hb); replace HB := Aside0.mk (below_then HB.out HB.out.size hb); clear hb)))
      have HT : Aside0 (strOfNums (fl ps) = s) := ⟨by rw [HF.out, ← HSS.out]⟩
      have HFN : Aside0 ((fl ps).length ≤ 200) := ⟨by rw [HF.out, List.length_map, HXL.out]; exact HN.out⟩
      have hM := HMM.out
      by_cases hmany : (64 : Int) < (N : Int)
      · have d1 := decide_eq_true hmany
        have HMA := Aside0.mk hmany
        clear hmany
        go_wp2_with (first
          | (go_at_call 21; go_loud (refine (swap_maker w8 g r ps HI.out (by have := HFN.out; omega) p q HPS5.out.1 HPP.out.pl HQL.out 1 1 (by rw [HT.out, ← HL.out, ← HNN.out]; have := HMA.out; omega)).mono ?_; rintro e w9 ⟨rfl, hb⟩; replace HI := Aside0.mk (HI.out.below hb); replace HB := Aside0.mk (below_then HB.out HB.out.size hb); clear hb))
          | (go_at_call 22; go_loud (refine (jotterlaw24_swapped.calls ks s p q W (L.length : Int) w9 HKS.out).mono ?_; rintro e w10 ⟨rfl, hb⟩; replace HB := Aside0.mk (below_then HB.out HB.out.size hb); clear hb)))
        go_ret
        exact ⟨ret_bool (by simp), HB.out⟩
      · have d1 := decide_eq_false hmany
        have hNs : (N : Int) ≤ 64 := by omega
        have HNs := Aside0.mk hNs
        clear hmany
        obtain ⟨ops, hops⟩ : ∃ ops, ops = mkOps 1 1 (raws p.size q L L.length) := ⟨_, rfl⟩
        have HOL : Aside0 (ops.length = N) := ⟨by rw [hops, mkOps_length, raws_length, HNN.out]⟩
        obtain ⟨df, hdf⟩ : ∃ df, df = outE xs p.size q L 1 1 L.length ++ xs.drop (srcP p.size L L.length) := ⟨_, rfl⟩
        have HRUN : Aside0 (Run xs ops df) := ⟨by
          rw [hops, hdf]
          exact raws_run xs p.size q HQL.out L 1 1 (by rw [HXL.out]; exact HGP.out) (by omega) (by omega) (by rw [← HNN.out]; omega) (by rw [HXL.out]; have := HN.out; omega) _ (Nat.le_refl _)⟩
        have HDW : Aside0 (strOfNums (df.map (·.f0)) = W) := ⟨by rw [HW.out, hdf, List.map_append, outE_f0, List.map_drop, HBS.out]⟩
        have HDL : Aside0 (df.length ≤ 300) := ⟨by
          have h1 := outE_length xs p.size q L 1 1 (by rw [HXL.out]; exact HGP.out) L.length (Nat.le_refl _)
          have h2 : L.length * (p.size + q.size) = L.length * p.size + L.length * q.size := Nat.mul_add _ _ _
          have h3 := HNN.out
          have h4 := HXL.out
          have h5 := HN.out
          rw [hdf, List.length_append, List.length_drop]
          omega⟩
        have HOPS := Aside0.mk hops
        obtain ⟨ops2, hops2⟩ : ∃ ops2, ops2 = mkOps 2 1 (raws q.size p L2 L2.length) := ⟨_, rfl⟩
        have HN2 : Aside0 (L2.length * (q.size + p.size) = N) := ⟨by rw [HF2.out, HNN.out, Nat.add_comm]⟩
        have HOL2 : Aside0 (ops2.length = N) := ⟨by rw [hops2, mkOps_length, raws_length, HN2.out]⟩
        have hWs : W.size = df.length := by rw [← HDW.out, strOfNums_size, List.length_map]
        have HWS : Aside0 (W.size ≤ 300) := ⟨by rw [hWs]; exact HDL.out⟩
        obtain ⟨df2, hdf2⟩ : ∃ df2, df2 = outE df q.size p L2 2 1 L2.length ++ df.drop (srcP q.size L2 L2.length) := ⟨_, rfl⟩
        have HRUN2 : Aside0 (Run df ops2 df2) := ⟨by
          rw [hops2, hdf2]
          exact raws_run df q.size p HPP.out.pl L2 2 1 (by rw [← hWs, HL2.out]; exact plc_gap W q) (by omega) (by omega) (by rw [HN2.out]; omega) (by have := HDL.out; omega) _ (Nat.le_refl _)⟩
        have HDS : Aside0 (strOfNums (df2.map (·.f0)) = s ∧ df2.length ≤ 1000) := ⟨by
          have hr : ∀ x ∈ df.map (·.f0), 0 ≤ x ∧ x ≤ 255 := fun x hx => by
            rw [hdf, List.map_append, outE_f0, List.map_drop, ← HBS.out, out_G s p q L HL.out] at hx
            rcases G_mem (by rw [bytesOf_length]; exact HPS5.out.1) _ 0 rfl x hx with h | h
            · exact bytesOf_range _ _ h
            · exact bytesOf_range _ _ h
          have hbw : bytesOf W = df.map (·.f0) := by rw [← HDW.out]; exact bytesOf_strOfNums _ hr
          have e : strOfNums (df2.map (·.f0)) = s := by
            rw [hdf2, List.map_append, outE_f0, List.map_drop, ← hbw]
            exact HF3.out
          refine ⟨e, ?_⟩
          have e2 := congrArg ByteArray.size e
          rw [strOfNums_size, List.length_map, HSZ.out] at e2
          have := HN.out
          omega⟩
        have HOPS2 := Aside0.mk hops2
        clear hops hdf hops2 hdf2 hWs
        go_wp2_with (first
          | (go_at_call 21; go_loud (refine (swap_ok w8 g r ps HI.out s HT.out (by rw [HSZ.out]; have := HN.out; omega) p q HPS5.out.1 HPP.out.pl HQL.out 1 1 (by omega) (by omega) L HL.out (by rw [← HNN.out]; have := HNs.out; omega)).mono ?_; rintro e w9 ⟨vO, rfl, ho, hb⟩; rw [← HOPS.out] at ho; obtain ⟨AO, cO, rfl⟩ := Kd.R_slice ho; rw [HOL.out] at ho ⊢; have HO := Aside0.mk (Kd.R_lower ho HB.out.size); replace HI := Aside0.mk (HI.out.below hb); replace HB := Aside0.mk (below_then HB.out HB.out.size hb); clear ho hb))
          | (go_at_call 22; go_loud (refine (jotterlaw24_swapped.calls ks s p q W (L.length : Int) w9 HKS.out).mono ?_; rintro e w10 ⟨rfl, hb⟩; replace HI := Aside0.mk (HI.out.below hb); replace HO := Aside0.mk (Kd.R_below HO.out hb); replace HB := Aside0.mk (below_then HB.out HB.out.size hb); clear hb)))
        have HV : Aside0 (Inv2 w w10 g (.slice AO N cO) ops (xs.map (·.f0)) r ps 0) := ⟨⟨HO.out, HI.out, HF.out, HB.out, HG.out.1, HG.out.2, by have := HNP.out; rw [HXL.out] at this; have := HN.out; omega⟩⟩
        go_loopw [16] (fun v16 wr => ∃ (i : Nat) (d : List S76) (r' : Option Nat) (ps' : List (List Int)), v16 = .int .i64 (i : Int) ∧ (i : Int) ≤ (N : Int) ∧ Aside0 (Run d (ops.drop i) df) ∧ Aside0 (Inv2 w wr g (.slice AO N cO) ops (d.map (·.f0)) r' ps' i)) (fun v16 _ => N - (intOf v16).toNat)
        case atStart => exact ⟨0, xs, r, ps, rfl, by omega, HRUN, HV⟩
        case round =>
          clear HV HI HF HB HNP HG HT HFN HO HRUN
          obtain ⟨i, d, r', ps', rfl, hi, HRU, HV⟩ := hrel
          by_cases hlt : (i : Int) < (N : Int)
          · have c1 := decide_eq_true hlt
            have hi0 : (0 : Int) ≤ (i : Int) := by omega
            have hie : (i : Int) ≤ 64 := by omega
            obtain ⟨x, hx, hrd⟩ := mkOps_at 1 1 (raws p.size q L L.length) i (by rw [raws_length, ← HNN.out]; omega)
            obtain ⟨hk12, hch⟩ := raws_kinds _ _ _ _ x (List.mem_of_getElem? hx)
            rw [← HOPS.out] at hrd
            obtain ⟨K, P, C⟩ := x
            obtain ⟨hfit, hrun⟩ := run_step (by rw [HOL.out]; omega) HRU.out
            rw [hrd] at hfit hrun
            have HFIT := Aside0.mk hfit
            have HRU2 := Aside0.mk hrun
            have HCH := Aside0.mk hch
            obtain ⟨hr1, hr2, hCO⟩ := Kd.R_reads' HV.out.o
            obtain ⟨ad, hao, k0, k1, k2, k3, k4⟩ := at_T46 hCO (i : Int) hi0 (by first | exact hlt | (rw [HOL.out]; exact hlt))
            subst hao
            rw [hrd] at k0 k1 k2 k3 k4
            simp only [Int.toNat_natCast] at k0 k1 k2 k3 k4
            clear hx hk12 hch hrd hfit hrun hr1 hr2 hCO
            go_wp2_with (go_at_call 23; go_loud (refine (iapply_ok wr g r' ps' HV.out.x (by have := HV.out.n; omega) K P C 1 (1 + (i : Int)) HCH.out (by rw [HV.out.f, List.length_map]; exact HFIT.out)).mono ?_; rintro e w11 ⟨r2, ps2, rfl, hi10, hf10, hn10, hc10⟩; obtain ⟨hbe, hre⟩ := hc10.bel HV.out.b HV.out.b.size HV.out.hg HV.out.r; have hinv : Inv2 w w11 g (.slice (some ad) N cO) ops ((app d K P C 1 (1 + (i : Int))).map (·.f0)) r2 ps2 (i + 1) := ⟨hc10.row46 HV.out.x HV.out.o, hi10, by rw [hf10, app_f0, HV.out.f], hbe, HV.out.hg, hre, by have := HV.out.n; omega⟩; clear k0 k1 k2 k3 k4 hbe hre hi10 hf10 hn10 hc10; have HV10 := Aside0.mk hinv; clear hinv))
            go_roundw
            case rel => exact ⟨i + 1, _, r2, ps2, by go_num, by omega, HRU2, HV10⟩
            case measure => simp [intOf]; omega
          · have c1 := decide_eq_false hlt
            obtain rfl : i = N := by omega
            obtain rfl : d = df := by
              have := HRU.out
              rw [List.drop_eq_nil_of_le (by rw [HOL.out]; exact Nat.le_refl _)] at this
              cases this
              rfl
            clear HRU hi hlt
            have HTW : Aside0 (strOfNums (fl ps') = W) := ⟨by rw [HV.out.f, HDW.out]⟩
            have HFN2 : Aside0 ((fl ps').length ≤ 300) := ⟨by rw [HV.out.f, List.length_map]; exact HDL.out⟩
            go_wp2_with (first
              | (go_at_call 14; go_loud (refine (find_ok wr g r' ps' HV.out.x (by have := HFN2.out; omega) p HPS5.out.1 HPP.out.pl).mono ?_; rintro e w11 ⟨vF, rfl, hvf, hb⟩; rw [HTW.out, HF1.out] at hvf; obtain ⟨AF, cF, rfl⟩ := Kd.R_slice hvf; have HV2 := Aside0.mk (HV.out.step hb); clear hvf hb))
              | (go_at_call 21; go_loud (refine (swap_ok w11 g r' ps' HV2.out.x W HTW.out (by have := HWS.out; omega) q p HQS.out.1 HQL.out HPP.out.pl 2 1 (by omega) (by omega) L2 HL2.out (by rw [HN2.out]; have := HNs.out; omega)).mono ?_; rintro e w12 ⟨vO2, rfl, ho, hb⟩; rw [← HOPS2.out] at ho; obtain ⟨AO2, cO2, rfl⟩ := Kd.R_slice ho; rw [HOL2.out] at ho ⊢; have HO2 := Aside0.mk (Kd.R_lower ho HV2.out.b.size); replace HV2 := Aside0.mk (HV2.out.step hb); clear ho hb)))
            have HV3 : Aside0 (Inv2 w w12 g (.slice AO2 i cO2) ops2 (d.map (·.f0)) r' ps' 64) := ⟨⟨HO2.out, HV2.out.x, HV2.out.f, HV2.out.b, HV2.out.hg, HV2.out.r, by have := HV.out.n; have := HNs.out; omega⟩⟩
            clear HV HV2 HO2 HTW HFN2
            have hi64 : i ≤ 64 := by omega
            go_loopw [19] (fun v19 wr => ∃ (j : Nat) (d : List S76) (r' : Option Nat) (ps' : List (List Int)), v19 = .int .i64 (j : Int) ∧ (j : Int) ≤ (i : Int) ∧ Aside0 (Run d (ops2.drop j) df2) ∧ Aside0 (Inv2 w wr g (.slice AO2 i cO2) ops2 (d.map (·.f0)) r' ps' (64 + j))) (fun v19 _ => i - (intOf v19).toNat)
            case atStart => exact ⟨0, d, r', ps', rfl, by omega, HRUN2, HV3⟩
            case round =>
              clear HV3 HRUN2
              obtain ⟨j, d2, r3, ps3, rfl, hj, HRU, HV⟩ := hrel
              by_cases hlt : (j : Int) < (i : Int)
              · have c2 := decide_eq_true hlt
                have hj0 : (0 : Int) ≤ (j : Int) := by omega
                have hje : (j : Int) ≤ 64 := by omega
                obtain ⟨x, hx, hrd⟩ := mkOps_at 2 1 (raws q.size p L2 L2.length) j (by rw [raws_length, HN2.out]; omega)
                obtain ⟨hk12, hch⟩ := raws_kinds _ _ _ _ x (List.mem_of_getElem? hx)
                rw [← HOPS2.out] at hrd
                obtain ⟨K, P, C⟩ := x
                obtain ⟨hfit, hrun⟩ := run_step (by rw [HOL2.out]; omega) HRU.out
                rw [hrd] at hfit hrun
                have HFIT := Aside0.mk hfit
                have HRU2 := Aside0.mk hrun
                have HCH := Aside0.mk hch
                obtain ⟨hr1, hr2, hCO⟩ := Kd.R_reads' HV.out.o
                obtain ⟨ad, hao, k0, k1, k2, k3, k4⟩ := at_T46 hCO (j : Int) hj0 (by first | exact hlt | (rw [HOL2.out]; exact hlt))
                subst hao
                rw [hrd] at k0 k1 k2 k3 k4
                simp only [Int.toNat_natCast] at k0 k1 k2 k3 k4
                clear hx hk12 hch hrd hfit hrun hr1 hr2 hCO
                go_wp2_with (go_at_call 23; go_loud (refine (iapply_ok wr g r3 ps3 HV.out.x (by have := HV.out.n; omega) K P C 2 (1 + (j : Int)) HCH.out (by rw [HV.out.f, List.length_map]; exact HFIT.out)).mono ?_; rintro e w13 ⟨r4, ps4, rfl, hi10, hf10, hn10, hc10⟩; obtain ⟨hbe, hre⟩ := hc10.bel HV.out.b HV.out.b.size HV.out.hg HV.out.r; have hinv : Inv2 w w13 g (.slice (some ad) i cO2) ops2 ((app d2 K P C 2 (1 + (j : Int))).map (·.f0)) r4 ps4 (64 + (j + 1)) := ⟨hc10.row46 HV.out.x HV.out.o, hi10, by rw [hf10, app_f0, HV.out.f], hbe, HV.out.hg, hre, by have := HV.out.n; omega⟩; clear k0 k1 k2 k3 k4 hbe hre hi10 hf10 hn10 hc10; have HV10 := Aside0.mk hinv; clear hinv))
                go_roundw
                case rel => exact ⟨j + 1, _, r4, ps4, by go_num, by omega, HRU2, HV10⟩
                case measure => simp [intOf]; omega
              · have c2 := decide_eq_false hlt
                obtain rfl : j = i := by omega
                obtain rfl : d2 = df2 := by
                  have := HRU.out
                  rw [List.drop_eq_nil_of_le (by rw [HOL2.out]; exact Nat.le_refl _)] at this
                  cases this
                  rfl
                go_wp2_with (go_at_call 20; go_loud (refine (text_any wr g r3 ps3 HV.out.x (by rw [HV.out.f, List.length_map]; have := HDS.out.2; omega)).mono ?_; rintro e w14 ⟨rfl, hb⟩; rw [HV.out.f, HDS.out.1]; have HB := Aside0.mk (below_then HV.out.b HV.out.b.size hb); clear hb))
                go_ret
                exact ⟨ret_bool (by simp), HB.out⟩
    · replace hc : (wo p0).length = 0 := by omega
      clear hc2
      have hm5 := HM5.out
      obtain ⟨kw2, hkw2⟩ := without_pure p0 (by have := plB_size hp0; omega)
      obtain ⟨P0, hP0⟩ : ∃ P0, P0 = strOfNums (wo p0) := ⟨_, rfl⟩
      have hP0s : P0.size = (wo p0).length := by rw [hP0, strOfNums_size]
      rw [← hP0] at hkw2
      have HKW2 := Aside0.mk hkw2
      have t5 : decide ((5 : Int) < (P0.size : Int)) = false := decide_eq_false (by omega)
      have hne : P0.toList.isEmpty = true := toList_em (by omega)
      obtain ⟨p, hpe⟩ : ∃ p : ByteArray, p = ⟨#[98]⟩ := ⟨_, rfl⟩
      have hpp : Pat p := by rw [hpe]; exact pat_b
      have HPE := Aside0.mk hpe
      clear hpe
      have HPP := Aside0.mk hpp
      have HPS : Aside0 (p.size ≤ 64) := ⟨by have := hpp.hi; omega⟩
      have HPS5 : Aside0 (1 ≤ p.size ∧ p.size ≤ 5) := ⟨hpp.lo, hpp.hi⟩
      obtain ⟨q, hq⟩ : ∃ q, q = strOfNums (List.replicate (m + 1) 126) := ⟨_, rfl⟩
      have hqz : q.size = m + 1 := by rw [hq, strOfNums_size, List.length_replicate]
      have HQL : Aside0 (plB q = true) := ⟨by rw [hq]; exact tildes_pl _ (by omega)⟩
      have hqc : (⟨#[126, 126, 126, 126, 126]⟩ : ByteArray).extract 0 (1 + m) = q := by rw [hq, Nat.add_comm]; exact tildes_cut _ (by omega)
      have HQC := Aside0.mk hqc
      obtain ⟨L, hL⟩ : ∃ L, L = plc s p 0 true := ⟨_, rfl⟩
      obtain ⟨N, hN⟩ : ∃ N : Nat, N = L.length * (p.size + q.size) := ⟨_, rfl⟩
      have HGP : Aside0 (Gap p.size n L) := ⟨by rw [hL, ← HSZ.out]; exact plc_gap s p⟩
      obtain ⟨ks, hks⟩ := swapped_pure s p q hpp.lo HPS.out (by rw [HSZ.out]; have := HN.out; omega) (by omega) L hL
      obtain ⟨W, hW⟩ : ∃ W, W = strOfNums (outB (bytesOf s) p.size q L L.length ++ (bytesOf s).drop (srcP p.size L L.length)) := ⟨_, rfl⟩
      have hlaw := back_law s p HNO.out hpp m L hL W (by rw [hW, hq])
      rw [← hq] at hlaw
      obtain ⟨L2, hL2⟩ : ∃ L2, L2 = plc W q 0 true := ⟨_, rfl⟩
      rw [← hL2] at hlaw
      obtain ⟨hf1, hf2, hf3⟩ := hlaw
      have HF1 := Aside0.mk hf1
      have HF2 := Aside0.mk hf2
      have HF3 : Aside0 (strOfNums (outB (bytesOf W) q.size p L2 L2.length ++ (bytesOf W).drop (srcP q.size L2 L2.length)) = s) := ⟨by rw [hqz, hf3, HBS.out, ← HSS.out]⟩
      rw [← hW] at hks
      have HKS := Aside0.mk hks
      have HW := Aside0.mk hW
      have HL := Aside0.mk hL
      have HL2 := Aside0.mk hL2
      have HNN := Aside0.mk hN
      have hLl : L.length ≤ 201 := by
        have e := plc_length [xs.map (·.f0)] p
        rw [show fl [xs.map (·.f0)] = xs.map (·.f0) by simp [fl], ← HSS.out, ← hL, List.length_map, HXL.out] at e
        have := HN.out
        omega
      have hps : p.size ≤ 64 := HPS.out
      have hqs : q.size ≤ 64 := by omega
      have hNb : N ≤ 201 * 128 := by rw [hN]; exact Nat.mul_le_mul hLl (by omega)
      have HQS : Aside0 (1 ≤ q.size ∧ q.size ≤ 64) := ⟨by omega, hqs⟩
      have hMM : IntKind.i64.wrap ((L.length : Int) * ((p.size : Int) + (q.size : Int))) = (N : Int) := by
        rw [show (L.length : Int) * ((p.size : Int) + (q.size : Int)) = (N : Int) by rw [hN]; push_cast; rfl]
        exact IntWalk.i64_in _ (by omega)
      have HMM := Aside0.mk hMM
      have hm0 : (0 : Int) ≤ (m : Int) := by omega
      have hm4 : (m : Int) ≤ 4 := by omega
      clear hm5 hkw2 hP0 hP0s hpp hq hqz hqc hks hW hL hL2 hN hf1 hf2 hf3 hNb hMM hp0 hc
      go_wp2_with (go_at_call 18; go_loud ((with_reducible refine (jotterlaw24_without.calls kw2 p0 126 P0 w4 HKW2.out).mono ?_); rintro e w5 ⟨rfl, hb⟩; replace HR := Aside0.mk (Kd.R_below HR.out hb); replace HB := Aside0.mk (below_then HB.out HB.out.size hb); clear hb))
      rw [← HPE.out]
      go_wp2_with (go_at_call 19; go_loud (refine (jotterlaw24_into.calls many 5 m w5 HM.out).mono ?_; rintro e w6 ⟨rfl, hd⟩; have hb := hd.below; replace HR := Aside0.mk (Kd.R_below HR.out hb); replace HB := Aside0.mk (below_then HB.out HB.out.size hb); clear hb hd))
      rw [HQC.out]
      go_wp2_with (first
        | (go_at_call 12; go_loud (obtain ⟨_, hc0, hC0⟩ := Kd.R_reads' HR.out; refine (new_any A0 c0 xs w6 hC0 hc0 (by rw [HXL.out]; have := HN.out; omega)).mono ?_; clear hc0 hC0; rintro e w7 ⟨g, r, ps, rfl, hi2, hf2, hg2, hr2, hn2, hb⟩; have HI := Aside0.mk hi2; have HF := Aside0.mk hf2; have HNP := Aside0.mk hn2; have HG : Aside0 (w.heap.size ≤ g ∧ ∀ k, r = some k → w.heap.size ≤ k) := ⟨by have := HB.out.size; omega, fun k hk => by have := hr2 k hk; have := HB.out.size; omega⟩; replace HB := Aside0.mk (below_then HB.out HB.out.size hb); clear hi2 hf2 hg2 hr2 hn2 hb HR))
        | (go_at_call 20; go_loud (refine (text_any w7 g r ps HI.out (by rw [HF.out, List.length_map, HXL.out]; have := HN.out; omega)).mono ?_; rintro e w8 ⟨rfl, hb⟩; rw [HF.out, ← HSS.out]; replace HI := Aside0.mk (HI.out.below hb); replace HB := Aside0.mk (below_then HB.out HB.out.size hb); clear hb)))
      have HT : Aside0 (strOfNums (fl ps) = s) := ⟨by rw [HF.out, ← HSS.out]⟩
      have HFN : Aside0 ((fl ps).length ≤ 200) := ⟨by rw [HF.out, List.length_map, HXL.out]; exact HN.out⟩
      have hM := HMM.out
      by_cases hmany : (64 : Int) < (N : Int)
      · have d1 := decide_eq_true hmany
        have HMA := Aside0.mk hmany
        clear hmany
        go_wp2_with (first
          | (go_at_call 21; go_loud (refine (swap_maker w8 g r ps HI.out (by have := HFN.out; omega) p q HPS5.out.1 HPP.out.pl HQL.out 1 1 (by rw [HT.out, ← HL.out, ← HNN.out]; have := HMA.out; omega)).mono ?_; rintro e w9 ⟨rfl, hb⟩; replace HI := Aside0.mk (HI.out.below hb); replace HB := Aside0.mk (below_then HB.out HB.out.size hb); clear hb))
          | (go_at_call 22; go_loud (refine (jotterlaw24_swapped.calls ks s p q W (L.length : Int) w9 HKS.out).mono ?_; rintro e w10 ⟨rfl, hb⟩; replace HB := Aside0.mk (below_then HB.out HB.out.size hb); clear hb)))
        go_ret
        exact ⟨ret_bool (by simp), HB.out⟩
      · have d1 := decide_eq_false hmany
        have hNs : (N : Int) ≤ 64 := by omega
        have HNs := Aside0.mk hNs
        clear hmany
        obtain ⟨ops, hops⟩ : ∃ ops, ops = mkOps 1 1 (raws p.size q L L.length) := ⟨_, rfl⟩
        have HOL : Aside0 (ops.length = N) := ⟨by rw [hops, mkOps_length, raws_length, HNN.out]⟩
        obtain ⟨df, hdf⟩ : ∃ df, df = outE xs p.size q L 1 1 L.length ++ xs.drop (srcP p.size L L.length) := ⟨_, rfl⟩
        have HRUN : Aside0 (Run xs ops df) := ⟨by
          rw [hops, hdf]
          exact raws_run xs p.size q HQL.out L 1 1 (by rw [HXL.out]; exact HGP.out) (by omega) (by omega) (by rw [← HNN.out]; omega) (by rw [HXL.out]; have := HN.out; omega) _ (Nat.le_refl _)⟩
        have HDW : Aside0 (strOfNums (df.map (·.f0)) = W) := ⟨by rw [HW.out, hdf, List.map_append, outE_f0, List.map_drop, HBS.out]⟩
        have HDL : Aside0 (df.length ≤ 300) := ⟨by
          have h1 := outE_length xs p.size q L 1 1 (by rw [HXL.out]; exact HGP.out) L.length (Nat.le_refl _)
          have h2 : L.length * (p.size + q.size) = L.length * p.size + L.length * q.size := Nat.mul_add _ _ _
          have h3 := HNN.out
          have h4 := HXL.out
          have h5 := HN.out
          rw [hdf, List.length_append, List.length_drop]
          omega⟩
        have HOPS := Aside0.mk hops
        obtain ⟨ops2, hops2⟩ : ∃ ops2, ops2 = mkOps 2 1 (raws q.size p L2 L2.length) := ⟨_, rfl⟩
        have HN2 : Aside0 (L2.length * (q.size + p.size) = N) := ⟨by rw [HF2.out, HNN.out, Nat.add_comm]⟩
        have HOL2 : Aside0 (ops2.length = N) := ⟨by rw [hops2, mkOps_length, raws_length, HN2.out]⟩
        have hWs : W.size = df.length := by rw [← HDW.out, strOfNums_size, List.length_map]
        have HWS : Aside0 (W.size ≤ 300) := ⟨by rw [hWs]; exact HDL.out⟩
        obtain ⟨df2, hdf2⟩ : ∃ df2, df2 = outE df q.size p L2 2 1 L2.length ++ df.drop (srcP q.size L2 L2.length) := ⟨_, rfl⟩
        have HRUN2 : Aside0 (Run df ops2 df2) := ⟨by
          rw [hops2, hdf2]
          exact raws_run df q.size p HPP.out.pl L2 2 1 (by rw [← hWs, HL2.out]; exact plc_gap W q) (by omega) (by omega) (by rw [HN2.out]; omega) (by have := HDL.out; omega) _ (Nat.le_refl _)⟩
        have HDS : Aside0 (strOfNums (df2.map (·.f0)) = s ∧ df2.length ≤ 1000) := ⟨by
          have hr : ∀ x ∈ df.map (·.f0), 0 ≤ x ∧ x ≤ 255 := fun x hx => by
            rw [hdf, List.map_append, outE_f0, List.map_drop, ← HBS.out, out_G s p q L HL.out] at hx
            rcases G_mem (by rw [bytesOf_length]; exact HPS5.out.1) _ 0 rfl x hx with h | h
            · exact bytesOf_range _ _ h
            · exact bytesOf_range _ _ h
          have hbw : bytesOf W = df.map (·.f0) := by rw [← HDW.out]; exact bytesOf_strOfNums _ hr
          have e : strOfNums (df2.map (·.f0)) = s := by
            rw [hdf2, List.map_append, outE_f0, List.map_drop, ← hbw]
            exact HF3.out
          refine ⟨e, ?_⟩
          have e2 := congrArg ByteArray.size e
          rw [strOfNums_size, List.length_map, HSZ.out] at e2
          have := HN.out
          omega⟩
        have HOPS2 := Aside0.mk hops2
        clear hops hdf hops2 hdf2 hWs
        go_wp2_with (first
          | (go_at_call 21; go_loud (refine (swap_ok w8 g r ps HI.out s HT.out (by rw [HSZ.out]; have := HN.out; omega) p q HPS5.out.1 HPP.out.pl HQL.out 1 1 (by omega) (by omega) L HL.out (by rw [← HNN.out]; have := HNs.out; omega)).mono ?_; rintro e w9 ⟨vO, rfl, ho, hb⟩; rw [← HOPS.out] at ho; obtain ⟨AO, cO, rfl⟩ := Kd.R_slice ho; rw [HOL.out] at ho ⊢; have HO := Aside0.mk (Kd.R_lower ho HB.out.size); replace HI := Aside0.mk (HI.out.below hb); replace HB := Aside0.mk (below_then HB.out HB.out.size hb); clear ho hb))
          | (go_at_call 22; go_loud (refine (jotterlaw24_swapped.calls ks s p q W (L.length : Int) w9 HKS.out).mono ?_; rintro e w10 ⟨rfl, hb⟩; replace HI := Aside0.mk (HI.out.below hb); replace HO := Aside0.mk (Kd.R_below HO.out hb); replace HB := Aside0.mk (below_then HB.out HB.out.size hb); clear hb)))
        have HV : Aside0 (Inv2 w w10 g (.slice AO N cO) ops (xs.map (·.f0)) r ps 0) := ⟨⟨HO.out, HI.out, HF.out, HB.out, HG.out.1, HG.out.2, by have := HNP.out; rw [HXL.out] at this; have := HN.out; omega⟩⟩
        go_loopw [16] (fun v16 wr => ∃ (i : Nat) (d : List S76) (r' : Option Nat) (ps' : List (List Int)), v16 = .int .i64 (i : Int) ∧ (i : Int) ≤ (N : Int) ∧ Aside0 (Run d (ops.drop i) df) ∧ Aside0 (Inv2 w wr g (.slice AO N cO) ops (d.map (·.f0)) r' ps' i)) (fun v16 _ => N - (intOf v16).toNat)
        case atStart => exact ⟨0, xs, r, ps, rfl, by omega, HRUN, HV⟩
        case round =>
          clear HV HI HF HB HNP HG HT HFN HO HRUN
          obtain ⟨i, d, r', ps', rfl, hi, HRU, HV⟩ := hrel
          by_cases hlt : (i : Int) < (N : Int)
          · have c1 := decide_eq_true hlt
            have hi0 : (0 : Int) ≤ (i : Int) := by omega
            have hie : (i : Int) ≤ 64 := by omega
            obtain ⟨x, hx, hrd⟩ := mkOps_at 1 1 (raws p.size q L L.length) i (by rw [raws_length, ← HNN.out]; omega)
            obtain ⟨hk12, hch⟩ := raws_kinds _ _ _ _ x (List.mem_of_getElem? hx)
            rw [← HOPS.out] at hrd
            obtain ⟨K, P, C⟩ := x
            obtain ⟨hfit, hrun⟩ := run_step (by rw [HOL.out]; omega) HRU.out
            rw [hrd] at hfit hrun
            have HFIT := Aside0.mk hfit
            have HRU2 := Aside0.mk hrun
            have HCH := Aside0.mk hch
            obtain ⟨hr1, hr2, hCO⟩ := Kd.R_reads' HV.out.o
            obtain ⟨ad, hao, k0, k1, k2, k3, k4⟩ := at_T46 hCO (i : Int) hi0 (by first | exact hlt | (rw [HOL.out]; exact hlt))
            subst hao
            rw [hrd] at k0 k1 k2 k3 k4
            simp only [Int.toNat_natCast] at k0 k1 k2 k3 k4
            clear hx hk12 hch hrd hfit hrun hr1 hr2 hCO
            go_wp2_with (go_at_call 23; go_loud (refine (iapply_ok wr g r' ps' HV.out.x (by have := HV.out.n; omega) K P C 1 (1 + (i : Int)) HCH.out (by rw [HV.out.f, List.length_map]; exact HFIT.out)).mono ?_; rintro e w11 ⟨r2, ps2, rfl, hi10, hf10, hn10, hc10⟩; obtain ⟨hbe, hre⟩ := hc10.bel HV.out.b HV.out.b.size HV.out.hg HV.out.r; have hinv : Inv2 w w11 g (.slice (some ad) N cO) ops ((app d K P C 1 (1 + (i : Int))).map (·.f0)) r2 ps2 (i + 1) := ⟨hc10.row46 HV.out.x HV.out.o, hi10, by rw [hf10, app_f0, HV.out.f], hbe, HV.out.hg, hre, by have := HV.out.n; omega⟩; clear k0 k1 k2 k3 k4 hbe hre hi10 hf10 hn10 hc10; have HV10 := Aside0.mk hinv; clear hinv))
            go_roundw
            case rel => exact ⟨i + 1, _, r2, ps2, by go_num, by omega, HRU2, HV10⟩
            case measure => simp [intOf]; omega
          · have c1 := decide_eq_false hlt
            obtain rfl : i = N := by omega
            obtain rfl : d = df := by
              have := HRU.out
              rw [List.drop_eq_nil_of_le (by rw [HOL.out]; exact Nat.le_refl _)] at this
              cases this
              rfl
            clear HRU hi hlt
            have HTW : Aside0 (strOfNums (fl ps') = W) := ⟨by rw [HV.out.f, HDW.out]⟩
            have HFN2 : Aside0 ((fl ps').length ≤ 300) := ⟨by rw [HV.out.f, List.length_map]; exact HDL.out⟩
            go_wp2_with (first
              | (go_at_call 14; go_loud (refine (find_ok wr g r' ps' HV.out.x (by have := HFN2.out; omega) p HPS5.out.1 HPP.out.pl).mono ?_; rintro e w11 ⟨vF, rfl, hvf, hb⟩; rw [HTW.out, HF1.out] at hvf; obtain ⟨AF, cF, rfl⟩ := Kd.R_slice hvf; have HV2 := Aside0.mk (HV.out.step hb); clear hvf hb))
              | (go_at_call 21; go_loud (refine (swap_ok w11 g r' ps' HV2.out.x W HTW.out (by have := HWS.out; omega) q p HQS.out.1 HQL.out HPP.out.pl 2 1 (by omega) (by omega) L2 HL2.out (by rw [HN2.out]; have := HNs.out; omega)).mono ?_; rintro e w12 ⟨vO2, rfl, ho, hb⟩; rw [← HOPS2.out] at ho; obtain ⟨AO2, cO2, rfl⟩ := Kd.R_slice ho; rw [HOL2.out] at ho ⊢; have HO2 := Aside0.mk (Kd.R_lower ho HV2.out.b.size); replace HV2 := Aside0.mk (HV2.out.step hb); clear ho hb)))
            have HV3 : Aside0 (Inv2 w w12 g (.slice AO2 i cO2) ops2 (d.map (·.f0)) r' ps' 64) := ⟨⟨HO2.out, HV2.out.x, HV2.out.f, HV2.out.b, HV2.out.hg, HV2.out.r, by have := HV.out.n; have := HNs.out; omega⟩⟩
            clear HV HV2 HO2 HTW HFN2
            have hi64 : i ≤ 64 := by omega
            go_loopw [19] (fun v19 wr => ∃ (j : Nat) (d : List S76) (r' : Option Nat) (ps' : List (List Int)), v19 = .int .i64 (j : Int) ∧ (j : Int) ≤ (i : Int) ∧ Aside0 (Run d (ops2.drop j) df2) ∧ Aside0 (Inv2 w wr g (.slice AO2 i cO2) ops2 (d.map (·.f0)) r' ps' (64 + j))) (fun v19 _ => i - (intOf v19).toNat)
            case atStart => exact ⟨0, d, r', ps', rfl, by omega, HRUN2, HV3⟩
            case round =>
              clear HV3 HRUN2
              obtain ⟨j, d2, r3, ps3, rfl, hj, HRU, HV⟩ := hrel
              by_cases hlt : (j : Int) < (i : Int)
              · have c2 := decide_eq_true hlt
                have hj0 : (0 : Int) ≤ (j : Int) := by omega
                have hje : (j : Int) ≤ 64 := by omega
                obtain ⟨x, hx, hrd⟩ := mkOps_at 2 1 (raws q.size p L2 L2.length) j (by rw [raws_length, HN2.out]; omega)
                obtain ⟨hk12, hch⟩ := raws_kinds _ _ _ _ x (List.mem_of_getElem? hx)
                rw [← HOPS2.out] at hrd
                obtain ⟨K, P, C⟩ := x
                obtain ⟨hfit, hrun⟩ := run_step (by rw [HOL2.out]; omega) HRU.out
                rw [hrd] at hfit hrun
                have HFIT := Aside0.mk hfit
                have HRU2 := Aside0.mk hrun
                have HCH := Aside0.mk hch
                obtain ⟨hr1, hr2, hCO⟩ := Kd.R_reads' HV.out.o
                obtain ⟨ad, hao, k0, k1, k2, k3, k4⟩ := at_T46 hCO (j : Int) hj0 (by first | exact hlt | (rw [HOL2.out]; exact hlt))
                subst hao
                rw [hrd] at k0 k1 k2 k3 k4
                simp only [Int.toNat_natCast] at k0 k1 k2 k3 k4
                clear hx hk12 hch hrd hfit hrun hr1 hr2 hCO
                go_wp2_with (go_at_call 23; go_loud (refine (iapply_ok wr g r3 ps3 HV.out.x (by have := HV.out.n; omega) K P C 2 (1 + (j : Int)) HCH.out (by rw [HV.out.f, List.length_map]; exact HFIT.out)).mono ?_; rintro e w13 ⟨r4, ps4, rfl, hi10, hf10, hn10, hc10⟩; obtain ⟨hbe, hre⟩ := hc10.bel HV.out.b HV.out.b.size HV.out.hg HV.out.r; have hinv : Inv2 w w13 g (.slice (some ad) i cO2) ops2 ((app d2 K P C 2 (1 + (j : Int))).map (·.f0)) r4 ps4 (64 + (j + 1)) := ⟨hc10.row46 HV.out.x HV.out.o, hi10, by rw [hf10, app_f0, HV.out.f], hbe, HV.out.hg, hre, by have := HV.out.n; omega⟩; clear k0 k1 k2 k3 k4 hbe hre hi10 hf10 hn10 hc10; have HV10 := Aside0.mk hinv; clear hinv))
                go_roundw
                case rel => exact ⟨j + 1, _, r4, ps4, by go_num, by omega, HRU2, HV10⟩
                case measure => simp [intOf]; omega
              · have c2 := decide_eq_false hlt
                obtain rfl : j = i := by omega
                obtain rfl : d2 = df2 := by
                  have := HRU.out
                  rw [List.drop_eq_nil_of_le (by rw [HOL2.out]; exact Nat.le_refl _)] at this
                  cases this
                  rfl
                go_wp2_with (go_at_call 20; go_loud (refine (text_any wr g r3 ps3 HV.out.x (by rw [HV.out.f, List.length_map]; have := HDS.out.2; omega)).mono ?_; rintro e w14 ⟨rfl, hb⟩; rw [HV.out.f, HDS.out.1]; have HB := Aside0.mk (below_then HV.out.b HV.out.b.size hb); clear hb))
                go_ret
                exact ⟨ret_bool (by simp), HB.out⟩
theorem back_walk (text pattern : ByteArray) (many : Int) (w : World) (hw : text.size ≤ 140737488351232) (hw2 : pattern.size ≤ 140737488351232) :
    Calls Try.prog 4 #[.string text, .string pattern, .int .i64 many] w (TrueAns w) := by
  obtain ⟨m, hm, hf⟩ := into_pure many 5 (by omega) (by omega)
  exact back_some text pattern many w hw hw2 m hf hm
end Go.Proofs.Ytfngcabckfmhnaa.B
