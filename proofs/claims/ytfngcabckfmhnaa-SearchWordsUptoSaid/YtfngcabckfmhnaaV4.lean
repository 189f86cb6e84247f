/- SearchWords: the walk of the law. -/
import Derived.Test.YtfngcabckfmhnaaV3
import Derived.Test.YtfngcabckfmhnaaW1
namespace Go.Proofs.Ytfngcabckfmhnaa.B
open Go.RowKit Go.Proofs.YtfngcabckfmhnaaW.PrintWords Go.Proofs.YtfngcabckfmhnaaW.PrintLast Go.Proofs.YtfngcabckfmhnaaW.PrintMore Go.Proofs.Ytfngcabckfmhnaa.PA
set_option linter.unusedVariables false
set_option linter.unusedSimpArgs false

theorem bytesOf_app2 (a b : ByteArray) : bytesOf (a ++ b) = bytesOf a ++ bytesOf b := by
  unfold bytesOf
  simp
theorem toList_of_nums (S : ByteArray) (n : Nat) : (strOfNums ((bytesOf S).take n)).data.toList = S.data.toList.take n := by
  refine bytesOf_inj ?_
  have e := bytesOf_strOfNums ((bytesOf S).take n) (fun x hx => bytesOf_range S x (List.mem_of_mem_take hx))
  unfold bytesOf at e ⊢
  rw [List.map_take]
  exact e
structure WS (w wr : World) (ws : List (List UInt8)) (cs : List Int) (v6 v7 : Value) : Prop where
  a : Kd.R Kd.string 9 wr w.heap.size (fun _ => True) v6 (ws.map bs)
  b : Kd.R (Kd.int .i64) 3 wr w.heap.size (fun _ => True) v7 cs
  c : Below w.heap.size w wr
theorem WS.step {w wr w' : World} {ws : List (List UInt8)} {cs : List Int} {v6 v7 : Value} (h : WS w wr ws cs v6 v7) (hb : Below wr.heap.size wr w') : WS w w' ws cs v6 v7 :=
  ⟨Kd.R_below h.a hb, Kd.R_below h.b hb, below_then h.c h.c.size hb⟩

set_option maxHeartbeats 32000000 in
set_option maxRecDepth 100000 in
theorem swords_walk (text : ByteArray) (w : World) (hT : text.size ≤ 140737488351232) : Calls Try.prog 7 #[.string text] w (TrueAns w) := by
  have hT2 : (9223372036854775807 < 3 + text.size) = False := eq_false (by omega)
  obtain ⟨n, hn⟩ : ∃ n, n = min (({ data := #[90, 113, 32] } : ByteArray) ++ text).size 800 := ⟨_, rfl⟩
  obtain ⟨ke, hke⟩ := elems_pure (({ data := #[90, 113, 32] } : ByteArray) ++ text) 800 (by omega)
  rw [← hn] at hke
  have hS1 : (({ data := #[90, 113, 32] } : ByteArray) ++ text).size = 3 + text.size := by rw [ByteArray.size_append]; rfl
  have HN : Aside0 (3 ≤ n ∧ n ≤ 800) := ⟨by omega⟩
  have hns : n ≤ (({ data := #[90, 113, 32] } : ByteArray) ++ text).size := by omega
  obtain ⟨xs, hxs⟩ : ∃ xs, xs = elemsL (({ data := #[90, 113, 32] } : ByteArray) ++ text) n := ⟨_, rfl⟩
  have HXL : Aside0 (xs.length = n) := ⟨by rw [hxs]; exact elemsL_length _ _⟩
  rw [← hxs] at hke
  have HKE := Aside0.mk hke
  obtain ⟨kt, hkt⟩ := text_pure xs (by rw [HXL.out]; have := HN.out; omega)
  obtain ⟨s, hs⟩ : ∃ s, s = strOfNums (xs.map (·.f0)) := ⟨_, rfl⟩
  have HSZ : Aside0 (s.size ≤ 800) := ⟨by rw [hs, strOfNums_size, List.length_map, HXL.out]; exact HN.out.2⟩
  rw [← hs] at hkt
  have HKT := Aside0.mk hkt
  obtain ⟨l, hl⟩ : ∃ l, l = s.data.toList := ⟨_, rfl⟩
  have HLL : Aside0 (l.length = s.size) := ⟨by rw [hl, size_toList]⟩
  have HZQ : Aside0 ([90, 113] ∈ runsOf l) := ⟨by
    rw [hl, hs, hxs, elemsL_f0 _ _ hns, toList_of_nums]
    obtain ⟨k, rfl⟩ : ∃ k, n = k + 3 := ⟨n - 3, by have := HN.out; omega⟩
    have e : (({ data := #[90, 113, 32] } : ByteArray) ++ text).data.toList.take (k + 3) = 90 :: 113 :: 32 :: text.data.toList.take k := by simp
    rw [e]
    exact zq_in _⟩
  have HS := Aside0.mk hs
  have HL := Aside0.mk hl
  clear hke hn hxs hS1 hT hns hkt hs hl
  go_enter Try.func7, Try.ntmps7
  go_wp2_with (first
    | (go_at_call 11; go_loud (refine (jotterlaw24_elems.calls ke (({ data := #[90, 113, 32] } : ByteArray) ++ text) 800 xs _ HKE.out).mono ?_; rintro e w1 ⟨v0, rfl, hr1, hb⟩; obtain ⟨A0, c0, rfl⟩ := Kd.R_slice hr1; have HR := Aside0.mk hr1; have HB := Aside0.mk hb; clear hr1 hb))
    | (go_at_call 16; go_loud (obtain ⟨_, hc0, hC0⟩ := Kd.R_reads' HR.out; refine (doc_Text.calls kt A0 c0 xs s w1 hC0 hc0 HKT.out).mono ?_; clear hc0 hC0; rintro e w2 ⟨rfl, hb⟩; replace HR := Aside0.mk (Kd.R_below HR.out hb); replace HB := Aside0.mk (below_then HB.out HB.out.size hb); clear hb))
    | (go_at_call 12; go_loud (obtain ⟨_, hc0, hC0⟩ := Kd.R_reads' HR.out; refine (new_any A0 c0 xs w2 hC0 hc0 (by rw [HXL.out]; have := HN.out; omega)).mono ?_; clear hc0 hC0; rintro e w3 ⟨g, r, ps, rfl, hi2, hf2, hg2, hr2, hn2, hb⟩; have HI := Aside0.mk hi2; have HF := Aside0.mk hf2; replace HB := Aside0.mk (below_then HB.out HB.out.size hb); clear hi2 hf2 hg2 hr2 hn2 hb HR))
    | (go_at_call 26; go_loud (refine (words_any w3 g r ps HI.out (by rw [HF.out, List.length_map, HXL.out]; have := HN.out; omega)).mono ?_; rw [HF.out, ← HS.out, ← HL.out]; rintro e w4 ⟨v6, v7, rfl, hr6, hr7, hb⟩; obtain ⟨A6, c6, rfl⟩ := Kd.R_slice hr6; obtain ⟨A7, c7, rfl⟩ := Kd.R_slice hr7; rw [List.length_map] at hr6 ⊢; rw [often_len] at hr7 ⊢; have HV : Aside0 (WS w w4 (wordsOf l) (oftenOf l) (.slice A6 (wordsOf l).length c6) (.slice A7 (wordsOf l).length c7)) := ⟨⟨Kd.R_lower hr6 HB.out.size, Kd.R_lower hr7 HB.out.size, below_then HB.out HB.out.size hb⟩⟩; clear hr6 hr7 hb; obtain ⟨m, hm⟩ : ∃ m, m = (wordsOf l).length := ⟨_, rfl⟩; rw [← hm] at HV ⊢; have HM := Aside0.mk hm; have hmp : (0 : Int) < (m : Int) := (by have := List.length_pos_of_mem (wordsOf_mem.2 HZQ.out); rw [← hm] at this; omega); have hm0 : decide ((m : Int) = 0) = false := decide_eq_false (by omega); have hm1 : ((m : Int) == 0) = false := beq_eq_false_iff_ne.mpr (by omega); have HMB : Aside0 (m ≤ 801) := ⟨by have := words_bound l; have := HLL.out; have := HSZ.out; omega⟩; clear hm)))
  go_loopw [8, 9, 10] (fun v8 v9 v10 wr => ∃ (i S : Nat) (Z : Bool), v8 = .int .i64 (S : Int) ∧ v9 = .bool Z ∧ v10 = .int .i64 (i : Int) ∧ (i : Int) ≤ (m : Int) ∧ Aside0 (S = sm l i ∧ Z = zq l i) ∧ Aside0 (WS w wr (wordsOf l) (oftenOf l) (.slice A6 m c6) (.slice A7 m c7))) (fun _ _ v10 _ => m - (intOf v10).toNat)
  case atStart => exact ⟨0, 0, false, rfl, rfl, rfl, by omega, ⟨rfl, rfl⟩, HV⟩
  case round =>
    clear HV
    obtain ⟨i, S, Z, rfl, rfl, rfl, hi, HSZ2, HV⟩ := hrel
    by_cases hlt : (i : Int) < (m : Int)
    · have c1 := decide_eq_true hlt
      have hi0 : (0 : Int) ≤ (i : Int) := by omega
      have him : (i : Int) ≤ 801 := by have := HMB.out; omega
      have HI2 : Aside0 (((i + 1 : Nat) : Int) ≤ (m : Int)) := ⟨by omega⟩
      obtain ⟨x, hx⟩ : ∃ x, (wordsOf l)[i]? = some x := ⟨_, List.getElem?_eq_getElem (by rw [← HM.out]; omega)⟩
      have hxm : x ∈ wordsOf l := List.mem_of_getElem? hx
      obtain ⟨hx1, hxl⟩ := word_letters hxm
      obtain ⟨c, hc⟩ : ∃ c : Nat, c = (runsOf l).count x := ⟨_, rfl⟩
      have hcp : 1 ≤ c := by rw [hc]; exact count_pos hxm
      have hstep := sm_step hx
      rw [← hc] at hstep
      have hle : sm l (i + 1) ≤ 800 := by
        have := sm_le (l := l) (i := i + 1) (by rw [← HM.out]; omega)
        have := HLL.out
        have := HSZ.out
        omega
      have hprod : c * x.length ≤ 800 := by omega
      have hcs : c ≤ 800 := Nat.le_trans (Nat.le_mul_of_pos_right c hx1) hprod
      obtain ⟨kr, hkr⟩ := runs_pure s x (by have := HSZ.out; omega) (by rw [← HL.out]; exact wordsOf_mem.1 hxm)
      rw [← HL.out, ← hc] at hkr
      have HKR := Aside0.mk hkr
      have hzst := zq_step hx
      have HST := Aside0.mk (And.intro hstep (And.intro hle hzst))
      have HXL := Aside0.mk (And.intro hx1 hxl)
      have HPR := Aside0.mk (And.intro hprod hcs)
      have hne : (bs x).toList.isEmpty = false := toList_ne (by rw [bs_size]; exact hx1)
      have hc1 : decide ((c : Int) < 1) = false := decide_eq_false (by omega)
      obtain ⟨hz1, hz2, hC6⟩ := Kd.R_reads' HV.out.a
      obtain ⟨hz3, hz4, hC7⟩ := Kd.R_reads' HV.out.b
      obtain ⟨ad6, hao6, hcx⟩ := Kd.at_string hC6 (i : Int) hi0 (by rw [List.length_map, ← HM.out]; exact hlt)
      obtain ⟨ad7, hao7, hcc⟩ := Kd.at_int hC7 (i : Int) hi0 (by rw [often_len, ← HM.out]; exact hlt)
      subst hao6 hao7
      rw [words_at hx, Int.toNat_natCast] at hcx
      rw [show rd (oftenOf l) (i : Int) = (c : Int) by unfold rd; rw [List.getD_eq_getElem?_getD, Int.toNat_natCast, often_at hx, hc]; rfl, Int.toNat_natCast] at hcc
      obtain ⟨X, hX⟩ : ∃ X, X = bs x := ⟨_, rfl⟩
      rw [← hX] at hne hcx hkr
      replace HKR := Aside0.mk hkr
      have HXT : Aside0 (X.toList = x) := ⟨by rw [hX]; exact bs_toList x⟩
      have hxs : X.size = x.length := by rw [hX, bs_size]
      have HXS : Aside0 (X.size ≤ 800) := ⟨by rw [hxs]; exact Nat.le_trans (Nat.le_mul_of_pos_left _ hcp) hprod⟩
      have HAT : Aside0 (rdOf ByteArray.empty ((wordsOf l).map bs) (i : Int) = X ∧ rd (oftenOf l) (i : Int) = (c : Int)) := ⟨by rw [hX]; exact words_at hx, by unfold rd; rw [List.getD_eq_getElem?_getD, Int.toNat_natCast, often_at hx, hc]; rfl⟩
      have HLET : Aside0 (∀ k : Nat, k < X.size → jotterlaw24_letter.f (bt X (k : Int)) = some true) := ⟨fun k hk => by
        rw [bt_l, letter_pure, hX, hxl _ (by
          rw [List.getD_eq_getElem?_getD]
          have : k < (bs x).data.toList.length := by rw [size_toList, ← hX]; exact hk
          rw [List.getElem?_eq_getElem this]
          exact List.getElem_mem _)]⟩
      obtain ⟨S2, hS2⟩ : ∃ S2, S2 = sm l (i + 1) := ⟨_, rfl⟩
      have HS2 := Aside0.mk hS2
      have hSi := HSZ2.out.1
      have HMUL : Aside0 (IntKind.i64.wrap ((c : Int) * (X.size : Int)) = ((c * x.length : Nat) : Int) ∧ IntKind.i64.wrap ((S : Int) + ((c * x.length : Nat) : Int)) = (S2 : Int)) := ⟨by
        rw [hxs, show (c : Int) * (x.length : Int) = ((c * x.length : Nat) : Int) by push_cast; rfl]; exact IntWalk.i64_in _ (by omega), by
        rw [show (S : Int) + ((c * x.length : Nat) : Int) = (S2 : Int) by rw [hS2, hstep, hSi]; push_cast; rfl]; exact IntWalk.i64_in _ (by omega)⟩
      have c1n := eq_true (show i < m by omega)
      have HSUM : Aside0 (Value.int .i64 (wrap64 ((S : Int) + (c : Int) * (x.length : Int))) = Value.int .i64 (S2 : Int)) := ⟨by
        have e : (S : Int) + (c : Int) * (x.length : Int) = (S2 : Int) := by rw [hS2, hstep, hSi]; push_cast; rfl
        rw [e, w64 (by omega) (by omega)]⟩
      clear hX hxs hS2 hSi
      by_cases h0 : (0 : Int) < (i : Int)
      · have c0 := decide_eq_true h0
        have c0' : decide (0 < i) = true := decide_eq_true (by omega)
        obtain ⟨j, hj⟩ : ∃ j, j = i - 1 := ⟨_, rfl⟩
        have hsub : IntKind.i64.wrap ((i : Int) - 1) = (j : Int) := by rw [show (i : Int) - 1 = (j : Int) by omega]; exact IntWalk.i64_in _ (by omega)
        have hj0 : (0 : Int) ≤ (j : Int) := by omega
        have hjm : (j : Int) < (m : Int) := by omega
        obtain ⟨y, hy⟩ : ∃ y, (wordsOf l)[j]? = some y := ⟨_, List.getElem?_eq_getElem (by rw [← HM.out]; omega)⟩
        have hless : Op.bytesLess (bs y).toList X.toList = true := by rw [HXT.out, ← bs_toList x]; exact words_sorted l hy (by rw [show j + 1 = i by omega]; exact hx)
        obtain ⟨ad6', hao6', hcy⟩ := Kd.at_string hC6 (j : Int) hj0 (by rw [List.length_map, ← HM.out]; exact hjm)
        cases hao6'
        rw [words_at hy, Int.toNat_natCast] at hcy
        clear hx hxm hx1 hxl hc hcp hstep hle hprod hcs hkr hzst hC6 hC7 hy h0 hj hz1 hz2 hz3 hz4
        go_wp2
        go_quiet (go_loud (refine Calls.quiet_of (v := .int .i64 (c : Int)) ((jotterlaw24_runs.calls kr s X (c : Int) _ HKR.out).mono ?_); rintro e w5 ⟨rfl, ⟨n5, rfl⟩⟩; exact ⟨rfl, n5, rfl⟩))
        have HV5 : Aside0 (WS w (wr.drewN nq) (wordsOf l) (oftenOf l) (.slice (some ad6) m c6) (.slice (some ad7) m c7)) := ⟨HV.out.step (pw_below_drewN (Below.refl _ _) nq)⟩
        go_wp2
        go_loopw [11] (fun v11 wr => ∃ k : Nat, v11 = .int .i64 (k : Int) ∧ (k : Int) ≤ (X.size : Int) ∧ Aside0 (WS w wr (wordsOf l) (oftenOf l) (.slice (some ad6) m c6) (.slice (some ad7) m c7))) (fun v11 _ => X.size - (intOf v11).toNat)
        case atStart => exact ⟨0, rfl, by omega, HV5⟩
        case round =>
          clear HV HV5 hcx hcc hcy hless hsub hjm hj0 c0 c0'
          obtain ⟨k, rfl, hk, HV⟩ := hrel
          obtain ⟨hz1, hz2, hC6⟩ := Kd.R_reads' HV.out.a
          obtain ⟨hz3, hz4, hC7⟩ := Kd.R_reads' HV.out.b
          obtain ⟨ad6'', hao6, hcx⟩ := Kd.at_string hC6 (i : Int) hi0 (by rw [List.length_map, ← HM.out]; exact hlt)
          obtain ⟨ad7'', hao7, hcc⟩ := Kd.at_int hC7 (i : Int) hi0 (by rw [often_len, ← HM.out]; exact hlt)
          cases hao6
          cases hao7
          rw [HAT.out.1, Int.toNat_natCast] at hcx
          rw [HAT.out.2, Int.toNat_natCast] at hcc
          clear hz1 hz2 hz3 hz4 hC6 hC7 hlt hi hmp hm0 hm1 hT2 hne hc1
          by_cases hk2 : (k : Int) < (X.size : Int)
          · have d1 := decide_eq_true hk2
            have hk0 : (0 : Int) ≤ (k : Int) := by omega
            have hkm : (k : Int) ≤ 801 := by have := HXS.out; omega
            have HK2 : Aside0 (((k + 1 : Nat) : Int) ≤ (X.size : Int)) := ⟨by omega⟩
            have hlet : jotterlaw24_letter.f (bt X (k : Int)) = some true := HLET.out k (by omega)
            have HLT := Aside0.mk hlet
            have p5 := eq_true hk0
            have q5 := eq_true hk2
            have q6 := eq_true (show k < X.size by omega)
            have hx5 : ∀ h : k < X.size, (((X[k]'h).toNat : Nat) : Int) = bt X (k : Int) := bt_at X (k : Int)
            clear hlet hk2
            go_wp2_with (go_at_call 28; go_loud ((with_reducible refine (jotterlaw24_letter.calls (bt X (k : Int)) true _ HLT.out).mono ?_); rintro e w6 ⟨rfl, hd⟩; replace HV := Aside0.mk (HV.out.step hd.below); clear hd))
            go_roundw
            case rel => exact ⟨k + 1, by go_num, HK2.out, HV⟩
            case measure => simp [intOf]; have := HK2.out; omega
          · have d1 := decide_eq_false hk2
            have q6 := eq_false (show ¬ k < X.size by omega)
            clear hk2 hk
            have hmul := HMUL.out.1
            have hadd := HMUL.out.2
            have HNX : Aside0 (∀ b : Bool, b = decide (x = [90, 113]) → (Z || b) = zq l (i + 1)) := ⟨fun b hb => by rw [hb, HST.out.2.2, ← HSZ2.out.2]⟩
            cases Z with
            | true =>
              go_wp2
              repeat (go_quiet (fail); try go_wp2)
              go_roundw
              case rel => exact ⟨i + 1, S2, true, by first | rfl | exact HSUM.out, rfl, by go_num, HI2.out, ⟨HS2.out, HNX.out _ rfl⟩, ⟨HV.out.step (by first | exact Below.refl _ _ | (apply pw_below_drewN; exact Below.refl _ _))⟩⟩
              case measure => simp [intOf]; have := HI2.out; omega
            | false =>
              by_cases hzq : x = [90, 113]
              · have z1 : (X.toList == [90, 113]) = true := by rw [HXT.out]; exact beq_iff_eq.mpr hzq
                have HZ2 : Aside0 (true = zq l (i + 1)) := ⟨HNX.out true (decide_eq_true hzq).symm⟩
                clear hzq
                go_wp2
                repeat (go_quiet (fail); try go_wp2)
                go_roundw
                case rel => exact ⟨i + 1, S2, true, by first | rfl | exact HSUM.out, rfl, by go_num, HI2.out, ⟨HS2.out, HZ2.out⟩, ⟨HV.out.step (by first | exact Below.refl _ _ | (apply pw_below_drewN; exact Below.refl _ _))⟩⟩
                case measure => simp [intOf]; have := HI2.out; omega
              · have z1 : (X.toList == [90, 113]) = false := by rw [HXT.out]; exact beq_eq_false_iff_ne.mpr hzq
                have HZ2 : Aside0 (false = zq l (i + 1)) := ⟨HNX.out false (decide_eq_false hzq).symm⟩
                clear hzq
                go_wp2
                repeat (go_quiet (fail); try go_wp2)
                go_roundw
                case rel => exact ⟨i + 1, S2, false, by first | rfl | exact HSUM.out, rfl, by go_num, HI2.out, ⟨HS2.out, HZ2.out⟩, ⟨HV.out.step (by first | exact Below.refl _ _ | (apply pw_below_drewN; exact Below.refl _ _))⟩⟩
                case measure => simp [intOf]; have := HI2.out; omega
      · have c0 := decide_eq_false h0
        have c0n := eq_false (show ¬ 0 < i by omega)
        have c0i := eq_false h0
        clear hx hxm hx1 hxl hc hcp hstep hle hprod hcs hkr hzst hC6 hC7 h0 hz1 hz2 hz3 hz4
        go_wp2
        go_quiet (go_loud (refine Calls.quiet_of (v := .int .i64 (c : Int)) ((jotterlaw24_runs.calls kr s X (c : Int) _ HKR.out).mono ?_); rintro e w5 ⟨rfl, ⟨n5, rfl⟩⟩; exact ⟨rfl, n5, rfl⟩))
        have HV5 : Aside0 (WS w (wr.drewN nq) (wordsOf l) (oftenOf l) (.slice (some ad6) m c6) (.slice (some ad7) m c7)) := ⟨HV.out.step (pw_below_drewN (Below.refl _ _) nq)⟩
        go_wp2
        go_loopw [11] (fun v11 wr => ∃ k : Nat, v11 = .int .i64 (k : Int) ∧ (k : Int) ≤ (X.size : Int) ∧ Aside0 (WS w wr (wordsOf l) (oftenOf l) (.slice (some ad6) m c6) (.slice (some ad7) m c7))) (fun v11 _ => X.size - (intOf v11).toNat)
        case atStart => exact ⟨0, rfl, by omega, HV5⟩
        case round =>
          clear HV HV5 hcx hcc c0 c0n c0i
          obtain ⟨k, rfl, hk, HV⟩ := hrel
          obtain ⟨hz1, hz2, hC6⟩ := Kd.R_reads' HV.out.a
          obtain ⟨hz3, hz4, hC7⟩ := Kd.R_reads' HV.out.b
          obtain ⟨ad6'', hao6, hcx⟩ := Kd.at_string hC6 (i : Int) hi0 (by rw [List.length_map, ← HM.out]; exact hlt)
          obtain ⟨ad7'', hao7, hcc⟩ := Kd.at_int hC7 (i : Int) hi0 (by rw [often_len, ← HM.out]; exact hlt)
          cases hao6
          cases hao7
          rw [HAT.out.1, Int.toNat_natCast] at hcx
          rw [HAT.out.2, Int.toNat_natCast] at hcc
          clear hz1 hz2 hz3 hz4 hC6 hC7 hlt hi hmp hm0 hm1 hT2 hne hc1
          by_cases hk2 : (k : Int) < (X.size : Int)
          · have d1 := decide_eq_true hk2
            have hk0 : (0 : Int) ≤ (k : Int) := by omega
            have hkm : (k : Int) ≤ 801 := by have := HXS.out; omega
            have HK2 : Aside0 (((k + 1 : Nat) : Int) ≤ (X.size : Int)) := ⟨by omega⟩
            have hlet : jotterlaw24_letter.f (bt X (k : Int)) = some true := HLET.out k (by omega)
            have HLT := Aside0.mk hlet
            have p5 := eq_true hk0
            have q5 := eq_true hk2
            have q6 := eq_true (show k < X.size by omega)
            have hx5 : ∀ h : k < X.size, (((X[k]'h).toNat : Nat) : Int) = bt X (k : Int) := bt_at X (k : Int)
            clear hlet hk2
            go_wp2_with (go_at_call 28; go_loud ((with_reducible refine (jotterlaw24_letter.calls (bt X (k : Int)) true _ HLT.out).mono ?_); rintro e w6 ⟨rfl, hd⟩; replace HV := Aside0.mk (HV.out.step hd.below); clear hd))
            go_roundw
            case rel => exact ⟨k + 1, by go_num, HK2.out, HV⟩
            case measure => simp [intOf]; have := HK2.out; omega
          · have d1 := decide_eq_false hk2
            have q6 := eq_false (show ¬ k < X.size by omega)
            clear hk2 hk
            have hmul := HMUL.out.1
            have hadd := HMUL.out.2
            have HNX : Aside0 (∀ b : Bool, b = decide (x = [90, 113]) → (Z || b) = zq l (i + 1)) := ⟨fun b hb => by rw [hb, HST.out.2.2, ← HSZ2.out.2]⟩
            cases Z with
            | true =>
              go_wp2
              repeat (go_quiet (fail); try go_wp2)
              go_roundw
              case rel => exact ⟨i + 1, S2, true, by first | rfl | exact HSUM.out, rfl, by go_num, HI2.out, ⟨HS2.out, HNX.out _ rfl⟩, ⟨HV.out.step (by first | exact Below.refl _ _ | (apply pw_below_drewN; exact Below.refl _ _))⟩⟩
              case measure => simp [intOf]; have := HI2.out; omega
            | false =>
              by_cases hzq : x = [90, 113]
              · have z1 : (X.toList == [90, 113]) = true := by rw [HXT.out]; exact beq_iff_eq.mpr hzq
                have HZ2 : Aside0 (true = zq l (i + 1)) := ⟨HNX.out true (decide_eq_true hzq).symm⟩
                clear hzq
                go_wp2
                repeat (go_quiet (fail); try go_wp2)
                go_roundw
                case rel => exact ⟨i + 1, S2, true, by first | rfl | exact HSUM.out, rfl, by go_num, HI2.out, ⟨HS2.out, HZ2.out⟩, ⟨HV.out.step (by first | exact Below.refl _ _ | (apply pw_below_drewN; exact Below.refl _ _))⟩⟩
                case measure => simp [intOf]; have := HI2.out; omega
              · have z1 : (X.toList == [90, 113]) = false := by rw [HXT.out]; exact beq_eq_false_iff_ne.mpr hzq
                have HZ2 : Aside0 (false = zq l (i + 1)) := ⟨HNX.out false (decide_eq_false hzq).symm⟩
                clear hzq
                go_wp2
                repeat (go_quiet (fail); try go_wp2)
                go_roundw
                case rel => exact ⟨i + 1, S2, false, by first | rfl | exact HSUM.out, rfl, by go_num, HI2.out, ⟨HS2.out, HZ2.out⟩, ⟨HV.out.step (by first | exact Below.refl _ _ | (apply pw_below_drewN; exact Below.refl _ _))⟩⟩
                case measure => simp [intOf]; have := HI2.out; omega
    · have c1 := decide_eq_false hlt
      have hie : i = m := by omega
      have HFS : Aside0 (S = nlt l ∧ Z = true) := ⟨by
        have := HSZ2.out.1
        rw [hie, HM.out, sm_all] at this
        refine ⟨this, ?_⟩
        rw [HSZ2.out.2, hie, HM.out]
        unfold zq
        rw [List.take_length]
        exact decide_eq_true (wordsOf_mem.2 HZQ.out)⟩
      obtain rfl : Z = true := HFS.out.2
      have c1n := eq_false (show ¬ i < m by omega)
      clear hlt hi hie hmp hm0 hm1 hT2
      go_wp2
      go_loopw [12, 13] (fun v12 v13 wr => ∃ (k a : Nat), v12 = .int .i64 (a : Int) ∧ v13 = .int .i64 (k : Int) ∧ (k : Int) ≤ (s.size : Int) ∧ Aside0 (a = nlt (l.take k)) ∧ Aside0 (Below w.heap.size w wr)) (fun _ v13 _ => s.size - (intOf v13).toNat)
      case atStart => exact ⟨0, 0, rfl, rfl, by omega, ⟨rfl⟩, ⟨HV.out.c⟩⟩
      case round =>
        clear HV
        obtain ⟨k, a, rfl, rfl, hk, HA, HB⟩ := hrel
        by_cases hk2 : (k : Int) < (s.size : Int)
        · have d1 := decide_eq_true hk2
          have hk0 : (0 : Int) ≤ (k : Int) := by omega
          have hkm : (k : Int) ≤ 801 := by have := HSZ.out; omega
          have HK2 : Aside0 (((k + 1 : Nat) : Int) ≤ (s.size : Int)) := ⟨by omega⟩
          have ha0 : (0 : Int) ≤ (a : Int) := by omega
          have ham : (a : Int) ≤ 801 := by
            have h1 := nlt_le (l.take k)
            rw [← HA.out, List.length_take] at h1
            omega
          have hst := nlt_step l (k := k) (by rw [HLL.out]; omega)
          have hlet : jotterlaw24_letter.f (bt s (k : Int)) = some (ltr (l.getD k 0)) := by rw [bt_l, letter_pure, HL.out]
          have p5 := eq_true hk0
          have q5 := eq_true hk2
          have q6 := eq_true (show k < s.size by omega)
          have hx5 : ∀ h : k < s.size, (((s[k]'h).toNat : Nat) : Int) = bt s (k : Int) := bt_at s (k : Int)
          cases hlb : ltr (l.getD k 0) with
          | true =>
            rw [hlb] at hlet hst
            have HLT := Aside0.mk hlet
            have HN : Aside0 (a + 1 = nlt (l.take (k + 1))) := ⟨by rw [hst, ← HA.out]; rfl⟩
            clear hlet hk2 hst hlb
            go_wp2_with (go_at_call 28; go_loud ((with_reducible refine (jotterlaw24_letter.calls (bt s (k : Int)) true _ HLT.out).mono ?_); rintro e w6 ⟨rfl, hd⟩; replace HB := Aside0.mk (below_then HB.out HB.out.size hd.below); clear hd))
            go_roundw
            case rel => exact ⟨k + 1, a + 1, by go_num, by go_num, HK2.out, HN, HB⟩
            case measure => simp [intOf]; have := HK2.out; omega
          | false =>
            rw [hlb] at hlet hst
            have HLT := Aside0.mk hlet
            have HN : Aside0 (a = nlt (l.take (k + 1))) := ⟨by rw [hst, ← HA.out]; rfl⟩
            clear hlet hk2 hst hlb
            go_wp2_with (go_at_call 28; go_loud ((with_reducible refine (jotterlaw24_letter.calls (bt s (k : Int)) false _ HLT.out).mono ?_); rintro e w6 ⟨rfl, hd⟩; replace HB := Aside0.mk (below_then HB.out HB.out.size hd.below); clear hd))
            go_roundw
            case rel => exact ⟨k + 1, a, rfl, by go_num, HK2.out, HN, HB⟩
            case measure => simp [intOf]; have := HK2.out; omega
        · have d1 := decide_eq_false hk2
          have q6 := eq_false (show ¬ k < s.size by omega)
          have hfin : ((S : Int) == (a : Int)) = true := beq_iff_eq.mpr (by
            have h1 := HA.out
            rw [List.take_of_length_le (by rw [HLL.out]; omega)] at h1
            rw [h1, HFS.out.1])
          clear hk2 hk
          go_wp2
          go_ret
          exact ⟨ret_bool (by first | rfl | (simp; done) | (simp [hfin]; done) | (have := beq_iff_eq.mp hfin; simp; omega)), HB.out⟩
end Go.Proofs.Ytfngcabckfmhnaa.B
