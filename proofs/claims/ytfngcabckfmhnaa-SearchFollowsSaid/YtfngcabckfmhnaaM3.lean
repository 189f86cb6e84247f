/- Words: its walk. -/
import Derived.Test.YtfngcabckfmhnaaM2
namespace Go.Proofs.Ytfngcabckfmhnaa.B
open Go.Sort Go.RowKit Go.Proofs.YtfngcabckfmhnaaW.PrintWords Go.Proofs.YtfngcabckfmhnaaW.PrintLast Go.Proofs.YtfngcabckfmhnaaW.PrintMore Go.Proofs.Ytfngcabckfmhnaa.PA
set_option linter.unusedVariables false
set_option linter.unusedSimpArgs false
set_option maxHeartbeats 32000000 in
set_option maxRecDepth 100000 in
theorem words_any (w : World) (g : Nat) (r : Option Nat) (ps : List (List Int)) (h : Idx w g r ps) (hn : (fl ps).length ≤ 5000) :
    Calls Try.prog 26 #[.pointer (some ⟨g, 0, none⟩)] w (WordsAns w (strOfNums (fl ps)).data.toList) := by
  have HI := Aside0.mk h
  have HN := Aside0.mk hn
  obtain ⟨s, hs⟩ : ∃ s, s = strOfNums (fl ps) := ⟨_, rfl⟩
  have HSZ : Aside0 (s.size ≤ 5000) := ⟨by rw [hs, strOfNums_size]; exact hn⟩
  have hT2 : (9223372036854775807 < s.size + 1) = False := eq_false (by have := HSZ.out; omega)
  rw [← hs]
  have HS := Aside0.mk hs
  clear hs h hn
  have hmm := @run_makeMap Try.prog
  go_enter Try.func26, Try.ntmps26
  go_wp2_with (go_at_call 20; go_loud (refine (text_any _ g r ps (HI.out.below (Below.alloc (Below.refl _ _) (Nat.le_refl _) _)) (by have := HN.out; omega)).mono ?_; rintro e w1 ⟨rfl, hb⟩; rw [← HS.out]; have HB := Aside0.mk hb; clear hb))
  obtain ⟨T, hT⟩ : ∃ T, T = s ++ ({ data := #[32] } : ByteArray) := ⟨_, rfl⟩
  rw [← hT]
  obtain ⟨l, hl⟩ : ∃ l, l = T.data.toList := ⟨_, rfl⟩
  have HTL : Aside0 (l = s.data.toList ++ [32]) := ⟨by rw [hl, hT]; simp⟩
  have HTS : Aside0 (T.size = s.data.toList.length + 1) := ⟨by rw [← size_toList T, ← hl, HTL.out]; simp⟩
  have HTB : Aside0 (T.size ≤ 5001) := ⟨by rw [HTS.out, size_toList]; have := HSZ.out; omega⟩
  have HL := Aside0.mk hl
  have HW := Aside0.mk (LW.start (T := T) HB.out)
  have HIT : Aside0 (w.heap.size < w1.heap.size) := ⟨HW.out.lt⟩
  clear hl hT hT2 hmm HB
  obtain ⟨it, hit⟩ : ∃ it, it = w1.heap.size := ⟨_, rfl⟩
  rw [← hit] at HW HIT ⊢
  have HITE := Aside0.mk hit
  clear hit
  go_loopw [6] (fun v6 wr => ∃ (pos n : Nat) (D : DataW Unit) (F : Int), v6 = .int .i64 F ∧ Aside0 (F = (stp l pos).1) ∧ Aside0 (pos ≤ T.size ∧ n ≤ pos) ∧ Aside0 (LW w wr it T pos n D) ∧ Aside0 (Cnt D (stp l pos).2)) (fun _ wr => T.size - wr.iterPos it)
  case atStart => exact ⟨0, 0, .map [], -1, rfl, ⟨rfl⟩, ⟨Nat.zero_le _, Nat.le_refl _⟩, HW, ⟨Cnt.start⟩⟩
  case round =>
    clear HW
    obtain ⟨pos, n, D, F, rfl, HF, HP, HW, HC⟩ := hrel
    by_cases hp : pos < T.size
    · have hd := dec_all T pos hp
      rw [← HL.out] at hd
      have hnx := fun ty => Lib.run_next_any_at (P := Try.prog) wr it T pos ty HW.out.i hp
      have hw2 := HW.out.next (pos + (Utf8.decode T pos).2)
      have hm2 : (wr.iterAt it T (pos + (Utf8.decode T pos).2)).iterPos it = pos + (Utf8.decode T pos).2 := by unfold World.iterPos; rw [hw2.i]
      obtain ⟨W2, hW2⟩ : ∃ W2, W2 = wr.iterAt it T (pos + (Utf8.decode T pos).2) := ⟨_, rfl⟩
      rw [← hW2] at hnx hw2 hm2
      obtain ⟨d, hdd⟩ : ∃ d, d = (Utf8.decode T pos).2 := ⟨_, rfl⟩
      obtain ⟨R, hR⟩ : ∃ R : Int, R = ((Utf8.decode T pos).1 : Int) := ⟨_, rfl⟩
      rw [← hdd] at hw2 hm2 hd
      rw [← hR] at hnx hd
      obtain ⟨hd1, hd2, hd3, hd4, hd5⟩ := hd
      have HD := Aside0.mk (And.intro hd2 hd3)
      have HSK : Aside0 (stp l (pos + d) = stp l (pos + 1)) := ⟨by
        obtain ⟨e, rfl⟩ : ∃ e, d = 1 + e := ⟨d - 1, by omega⟩
        cases e with
        | zero => rfl
        | succ e =>
          rw [show pos + (1 + (e + 1)) = pos + 1 + (e + 1) by omega]
          exact stp_skip (stp_none (hd5.resolve_left (by omega))) _ fun j h1 h2 => hd4 j h1 (by omega)⟩
      have hb := stp_bounds l pos
      rw [← HF.out] at hb
      have hm1 : wr.iterPos it = pos := by unfold World.iterPos; rw [HW.out.i]
      have HM := Aside0.mk (And.intro hm1 hm2)
      have HB := Aside0.mk hb
      have HW2 := Aside0.mk hw2
      have HP0 := Aside0.mk hp
      clear hdd hR hW2 hd2 hd3 hd4 hd5 hm1 hm2 hw2 hb hp
      have hmw : ∀ {W3 : World} {n' : Nat} {D' : DataW Unit}, LW w W3 it T (pos + d) n' D' → T.size - W3.iterPos it < T.size - wr.iterPos it := fun {W3 n' D'} h => by
        have h1 : W3.iterPos it = pos + d := by unfold World.iterPos; rw [h.i]
        have := HM.out.1
        have := HP0.out
        have := HD.out.1
        omega
      have HMW := Aside0.mk @hmw
      clear hmw
      cases hlt : ltrI R with
      | true =>
        have HLT := Aside0.mk hlt
        have HL1 : Aside0 (ltr (l.getD pos 0) = true) := ⟨by rw [← hd1, hlt]⟩
        clear hlt hd1
        by_cases hf : F < 0
        · have f1 := decide_eq_true hf
          have HST : Aside0 (stp l (pos + d) = ((pos : Int), (stp l pos).2)) := ⟨by rw [HSK.out]; exact stp_start HL1.out (by rw [← HF.out]; exact hf)⟩
          clear hf
          go_wp2_with (first | (go_at_call 44; go_loud (refine (letter_any R _).mono ?_; rintro e w3 ⟨rfl, hb⟩; rw [HLT.out]; replace HW2 := Aside0.mk (HW2.out.step hb); clear hb)))
          go_roundw
          case rel => exact ⟨pos + d, n, D, (pos : Int), rfl, ⟨by rw [HST.out]⟩, ⟨by have := HD.out; have := HP.out; omega⟩, HW2, ⟨by rw [HST.out]; exact HC.out⟩⟩
          case measure => exact HMW.out HW2.out
        · have f1 := decide_eq_false hf
          have HST : Aside0 (stp l (pos + d) = stp l pos) := ⟨by rw [HSK.out]; exact stp_on HL1.out (by rw [← HF.out]; exact hf)⟩
          clear hf
          go_wp2_with (first | (go_at_call 44; go_loud (refine (letter_any R _).mono ?_; rintro e w3 ⟨rfl, hb⟩; rw [HLT.out]; replace HW2 := Aside0.mk (HW2.out.step hb); clear hb)))
          go_roundw
          case rel => exact ⟨pos + d, n, D, F, rfl, ⟨by rw [HST.out]; exact HF.out⟩, ⟨by have := HD.out; have := HP.out; omega⟩, HW2, ⟨by rw [HST.out]; exact HC.out⟩⟩
          case measure => exact HMW.out HW2.out
      | false =>
        have HLT := Aside0.mk hlt
        have HL1 : Aside0 (ltr (l.getD pos 0) = false) := ⟨by rw [← hd1, hlt]⟩
        clear hlt hd1
        by_cases hf : F < 0
        · have f2 : decide (0 ≤ F) = false := decide_eq_false (by omega)
          have HST : Aside0 (stp l (pos + d) = stp l pos) := ⟨by rw [HSK.out]; exact stp_no HL1.out (by rw [← HF.out]; exact hf)⟩
          clear hf
          go_wp2_with (first | (go_at_call 44; go_loud (refine (letter_any R _).mono ?_; rintro e w3 ⟨rfl, hb⟩; rw [HLT.out]; replace HW2 := Aside0.mk (HW2.out.step hb); clear hb)))
          go_roundw
          case rel => exact ⟨pos + d, n, D, F, rfl, ⟨by rw [HST.out]; exact HF.out⟩, ⟨by have := HD.out; have := HP.out; omega⟩, HW2, ⟨by rw [HST.out]; exact HC.out⟩⟩
          case measure => exact HMW.out HW2.out
        · obtain ⟨f, rfl⟩ : ∃ f : Nat, F = (f : Int) := ⟨F.toNat, by omega⟩
          have f2 : decide (0 ≤ (f : Int)) = true := decide_eq_true (by omega)
          have hfp : f < pos := by have := HB.out; omega
          have HFP := Aside0.mk hfp
          obtain ⟨x, hx⟩ : ∃ x, x = (l.drop f).take (pos - f) := ⟨_, rfl⟩
          have HXB : Aside0 (T.extract f pos = bs x) := ⟨by
            apply ByteArray.ext
            apply Array.toList_inj.1
            rw [ByteArray.data_extract, Array.toList_extract, ← HL.out, hx]
            rfl⟩
          have HST : Aside0 (stp l (pos + d) = (-1, (stp l pos).2 ++ [x])) := ⟨by rw [HSK.out, stp_end HL1.out (by rw [← HF.out]; exact hf), ← HF.out, hx]; rfl⟩
          have HXL : Aside0 ((bs x).size ≤ maxLen) := ⟨by
            rw [← HXB.out, ByteArray.size_extract]
            have := HTB.out
            unfold maxLen
            omega⟩
          have HPT : Aside0 (pos ≤ T.size) := ⟨HP.out.1⟩
          have HKEY : Aside0 (keyOf Try.prog 9 (.string (T.extract f pos)) = some (.string x)) := ⟨by
            rw [HXB.out, Go.WideMaps.keyOf_string_mk Try.underlying9 HXL.out]
            simp [bs]⟩
          obtain ⟨c, hcc⟩ : ∃ c : Nat, c = (stp l pos).2.count x := ⟨_, rfl⟩
          have HCX : Aside0 (D.atKey (.string x) (.lit (.int .i64 0)) = .lit (.int .i64 (c : Int))) := ⟨by rw [hcc]; exact HC.out.at' x⟩
          have hc5 : (c : Int) ≤ 5001 := by
            have h1 := List.count_le_length (a := x) (l := (stp l pos).2)
            have h2 := stp_len l pos
            have := HTB.out
            have := HP.out.1
            omega
          have hc0 : (0 : Int) ≤ (c : Int) := by omega
          have HCC := Aside0.mk hcc
          clear hcc
          have b1 := eq_true (Nat.le_of_lt hfp)
          have b2 := eq_true HP.out.1
          have b3 := eq_true (show (f : Int) ≤ (pos : Int) by omega)
          have b4 := eq_true (show (pos : Int) ≤ (T.size : Int) by have := HP.out.1; omega)
          have b5 := eq_true (show (0 : Int) ≤ (f : Int) by omega)
          clear hf hx hfp
          go_wp2_with (first
            | (go_at_call 44; go_loud (refine (letter_any R _).mono ?_; rintro e w3 ⟨rfl, hb⟩; rw [HLT.out]; replace HW2 := Aside0.mk (HW2.out.step hb); clear hb))
            | (at_lookup; go_loud (refine wpList_lookup_own_int _ rfl _ _ 89 rfl 9 3 .i64 law9 Try.underlying89 Try.underlying3 (zero3 _) w.heap.size n _ rfl HW2.out.m (.string (T.extract f pos)) (.string x) rfl HKEY.out ?_; intro cc hat hwc; obtain rfl : (c : Int) = cc := by (have h1 := HCX.out.symm.trans hat; cases h1; rfl)))
            | (at_mapUpdate; go_loud (refine wpList_mapUpdate_own _ rfl _ _ _ 89 rfl 9 3 law9 Try.underlying89 _ w.heap.size n _ rfl HW2.out.m (by have := HTB.out; have := HP.out; unfold maxLen; omega) _ _ _ rfl rfl HKEY.out _ [] (plainElem_int Try.underlying3 (WalkArith.wf_i64 (by omega))) ?_; intro w4 hown1 hgrow1; have HC4 : Aside0 (Cnt (D.put (.string x) (.lit (.int .i64 ((c : Int) + 1)))) ((stp l pos).2 ++ [x])) := ⟨by rw [HCC.out]; exact HC.out.step (HW2.out.m.tidy law9).isMap x⟩; have HW4 := Aside0.mk (HW2.out.put hown1 hgrow1); clear hown1 hgrow1)))
          go_roundw
          case rel => exact ⟨pos + d, n + 1, _, -1, rfl, ⟨by rw [HST.out]⟩, ⟨by have := HD.out; have := HP.out; omega⟩, HW4, ⟨by rw [HST.out]; exact HC4.out⟩⟩
          case measure => exact HMW.out HW4.out
    · have hpe : pos = T.size := by have := HP.out.1; omega
      have hnx := fun ty => Lib.run_next_end_at (P := Try.prog) wr it T pos ty HW.out.i hp
      have HC1 : Aside0 (Cnt D (runsOf s.data.toList)) := ⟨by
        have := HC.out
        rw [hpe, HTS.out, HTL.out] at this
        exact this⟩
      have HD : Aside0 (Maps.size D ≤ 5001 ∧ n ≤ 5001) := ⟨by have := HW.out.m.size_le; have := HP.out; have := HTB.out; omega⟩
      obtain ⟨i0, hi0, hz0, hz1, hz2⟩ := info_parts info9w
      have HI9 := Aside0.mk (And.intro hz0 (And.intro hz1 hz2))
      have HSC : Aside0 (w.heap.size + 1 ≤ wr.heap.size) := ⟨by have := obj_lt HW.out.i; have := HW.out.lt; omega⟩
      clear hp hpe HP HC HF hz0 hz1 hz2
      go_wp2_with (first
        | (at_len; go_loud (refine wpList_len_own _ rfl _ 89 rfl 9 3 Try.underlying89 _ w.heap.size n D rfl HW.out.m ?_))
        | (at_make; go_loud (refine wpList_make_own _ rfl _ _ 55 rfl (w.heap.size + 1) 9 i0 (.string ⟨#[]⟩) 1 Try.underlying55 hi0 HI9.out.1 HI9.out.2.1 _ _ _ (Maps.size D) rfl rfl rfl (by rw [HI9.out.2.2]; have := HD.out; omega) (by have := HD.out; unfold maxLen; omega) HSC.out ?_; intro w2 hrow1 hg1; have HR1 := Aside0.mk hrow1; have HG1 := Aside0.mk hg1; clear hrow1 hg1))
        | (at_range; go_loud (refine wpList_range_own _ rfl _ 89 rfl 9 3 law9 Try.underlying89 _ w.heap.size n D rfl (HW.out.m.kept HG1.out (by simp)) ?_; intro w3 hrg0 hg0 hs0; have HV : Aside0 (LR w w3 w2.heap.size n D (Maps.has D) (Maps.size D) [] (.slice (some ⟨wr.heap.size, 0, none⟩) 0 (Maps.size D))) := ⟨⟨hrg0, by have := HD.out; simp; omega, HR1.out.kept hg0 (Or.inr (by simp [Value.ownBlock])), by simp, Collected.start D, (HW.out.b.grown HG1.out HW.out.b.size (fun j hj => by cases hj)).grown hg0 (by have := HG1.out.size; have := HSC.out; omega) (fun j hj => by cases hj), by have := HG1.out.size; have := HSC.out; omega⟩⟩; clear hrg0 hg0 hs0)))
      go_frame
      obtain ⟨it2, hit2⟩ : ∃ it2, it2 = w2.heap.size := ⟨_, rfl⟩
      rw [← hit2] at HV ⊢
      have HIT2 := Aside0.mk hit2
      have HI0 := Aside0.mk hi0
      clear hit2 HR1 HG1 hi0 hnx
      go_loopw [9] (fun v9 wr => ∃ (left : Lit → Bool) (cnt : Nat) (ss : List (List UInt8)), Aside0 (LR w wr it2 n D left cnt ss v9)) (fun _ wr => wr.rangeLeft w.heap.size it2)
      case atStart => exact ⟨_, _, _, HV⟩
      case round =>
        clear HV HW HSC
        obtain ⟨left, cnt, ss, HV⟩ := hrel
        go_wp2_with (first
          | (at_next; go_loud (refine wpList_next_ranges _ rfl _ rfl 9 law9 (plainElem Try.prog 3) encStr (Value.int .i64) (fun key kl hk => by obtain ⟨x, hx, _⟩ := Maps.keyOf_str Try.underlying9 hk; exact ⟨x, hx⟩) (fun v y hv => by obtain ⟨c, rfl, _⟩ := plainElem_int_inv Try.underlying3 hv; exact ⟨c, rfl⟩) w.heap.size it2 n _ _ _ rfl HV.out.g ?_ ?_)))
        · intro hc0 hl0
          have hrow := HV.out.row
          rcases hrow.2 with ⟨hnil, _⟩ | ⟨gg, cap, cur, rfl, hbase, hb, h1, h2, h3, h4⟩
          · exact absurd hnil HV.out.nn
          have hss : ss.mergeSort leB = wordsOf s.data.toList := ss_words HC1.out HV.out.C hl0
          have hsl : ss.length = (wordsOf s.data.toList).length := by rw [← hss, List.length_mergeSort]
          have hH : Holds encStr wr gg 0 ss.toArray := holds_of_block hb (by simpa using h4)
          have HCALL := Aside0.mk (Try.sort_Strings gg 0 cap ss wr hH (obj_lt hb) (by have := HV.out.cs; omega))
          have HOUT : ∀ {W3 : World}, (∃ n os, W3 = Sort.grow (Sort.putRow encStr (Sort.ahead wr n) gg 0 (ss.mergeSort fun x y => decide (x ≤ y)).toArray) os) →
              W3.ownsRow (w.heap.size + 1) 9 1 (.slice (some ⟨gg, 0, none⟩) ss.length cap) ss.length ((wordsOf s.data.toList).map encStr) ∧ wr.grownBy W3 (some gg) := by
            rintro W3 ⟨n, os, rfl⟩
            rw [← hss]
            exact ⟨ownsRow_sorted (by simp) hbase hb h1 h2 h3, grownBy_sorted _⟩
          have HO := Aside0.mk @HOUT
          have HBASE := Aside0.mk hbase
          have HSL := Aside0.mk hsl
          clear HOUT hss hH hb h1 h2 h3 h4 hrow hbase hl0 hc0 cur hsl
          go_wp2_with (go_at_call 45; go_loud (refine HCALL.out.mono ?_; rintro e W3 ⟨rfl, hW3⟩; obtain ⟨hr3, hg3⟩ := HO.out hW3; have HR3 := Aside0.mk hr3; have HG3 := Aside0.mk hg3; clear hr3 hg3 hW3))
          have HM3 : Aside0 (W3.ownsMap Try.prog 9 (plainElem Try.prog 3) w.heap.size n D) := ⟨HV.out.g.owns.kept HG3.out (by have := HBASE.out; simp; omega)⟩
          have HB3 : Aside0 (Below w.heap.size w W3) := ⟨HV.out.b.grown HG3.out HV.out.b.size (fun j hj => by cases hj; have := HBASE.out; omega)⟩
          obtain ⟨ws, hws⟩ : ∃ ws, ws = wordsOf s.data.toList := ⟨_, rfl⟩
          have HWS := Aside0.mk hws
          rw [← hws] at HR3 HSL
          have HR9 : Aside0 (Kd.R Kd.string 9 W3 w.heap.size (fun _ => True) (.slice (some ⟨gg, 0, none⟩) ss.length cap) (ws.map bs)) := ⟨Kd.R_lower (Kd.R_of_own (by rw [encs_bs, List.length_map, ← HSL.out]; exact HR3.out) (fun _ _ => trivial)) (Nat.le_succ _)⟩
          obtain ⟨m, hm⟩ : ∃ m, m = ss.length := ⟨_, rfl⟩
          have HML : Aside0 (m = ws.length) := ⟨by rw [hm, HSL.out]⟩
          have HMB : Aside0 (m ≤ 5001) := ⟨by have := HV.out.cs; omega⟩
          rw [← hm] at HR9 ⊢
          obtain ⟨A, hA⟩ : ∃ A : Option Addr, A = some ⟨gg, 0, none⟩ := ⟨_, rfl⟩
          rw [← hA] at HR9 ⊢
          clear hws hm HV HR3 HG3 HCALL HO hA
          go_loopw [11, 64] (fun v11 v64 wr => ∃ k : Nat, v64 = .int .i64 (k : Int) ∧ (k : Int) ≤ (m : Int) ∧ Aside0 (Kd.R (Kd.int .i64) 3 wr W3.heap.size (fun _ => True) v11 ((oftenOf s.data.toList).take k)) ∧ Aside0 (Below W3.heap.size W3 wr)) (fun _ v64 _ => m - (intOf v64).toNat)
          case atStart => exact ⟨0, rfl, by omega, ⟨Kd.R_nil _ _ _ _ _⟩, ⟨Below.refl _ _⟩⟩
          case round =>
            obtain ⟨k, rfl, hk, HO, HX⟩ := hrel
            by_cases hlt : (k : Int) < (m : Int)
            · have c1 := decide_eq_true hlt
              have hk0 : (0 : Int) ≤ (k : Int) := by omega
              have hkm : (k : Int) ≤ 5001 := by have := HMB.out; omega
              have HK2 : Aside0 (((k + 1 : Nat) : Int) ≤ (m : Int)) := ⟨by omega⟩
              obtain ⟨x, hx⟩ : ∃ x, ws[k]? = some x := ⟨_, List.getElem?_eq_getElem (by rw [← HML.out]; omega)⟩
              have HR9b := Aside0.mk (Kd.R_below HR9.out HX.out)
              obtain ⟨hr1, hr2, hC⟩ := Kd.R_reads' HR9b.out
              obtain ⟨ad, hao, hcx⟩ := Kd.at_string hC (k : Int) hk0 (by rw [List.length_map, ← HML.out]; exact hlt)
              cases hao
              rw [words_at hx, Int.toNat_natCast] at hcx
              have HMK := Aside0.mk (HM3.out.kept (grown_of_below HX.out none) (by simp))
              obtain ⟨c, hc⟩ : ∃ c : Nat, c = (runsOf s.data.toList).count x := ⟨_, rfl⟩
              have HCX : Aside0 (D.atKey (.string x) (.lit (.int .i64 0)) = .lit (.int .i64 (c : Int))) := ⟨by rw [hc]; exact HC1.out.at' x⟩
              have HST : Aside0 ((oftenOf s.data.toList).take k ++ [(c : Int)] = (oftenOf s.data.toList).take (k + 1)) := ⟨by rw [hc]; exact often_step (by rw [← HWS.out]; exact hx)⟩
              have HKEY : Aside0 (keyOf Try.prog 9 (.string (bs x)) = some (.string x)) := ⟨by
                have hsz : (bs x).size ≤ maxLen := word_size (by rw [size_toList]; exact HSZ.out) (by rw [← HWS.out]; exact hx)
                rw [Go.WideMaps.keyOf_string_mk Try.underlying9 hsz]
                simp [bs]⟩
              have HTL2 : Aside0 (((oftenOf s.data.toList).take k).length ≤ 5001) := ⟨by rw [List.length_take]; omega⟩
              clear hx hr1 hr2 hC hc
              go_wp2_with (first
                | (at_lookup; go_loud (refine wpList_lookup_own_int _ rfl _ _ 89 rfl 9 3 .i64 law9 Try.underlying89 Try.underlying3 (zero3 _) w.heap.size n _ rfl HMK.out (.string (bs x)) (.string x) rfl HKEY.out ?_; intro cc hat hwc; obtain rfl : (c : Int) = cc := by (have h1 := HCX.out.symm.trans hat; cases h1; rfl)))
                | ((with_reducible refine gate_builtin (b := .append) (xs := #[.tmp 68, .tmp 72]) rfl ?_); at_builtin; go_loud (refine Kd.R_append (Kd.int .i64) (w0 := W3) W3.heap.size rfl (.tmp 68) (.tmp 72) 27 3 (.int .i64 0) 8 rfl Try.underlying27 info3w rfl (by decide) (by omega) u11 ((oftenOf s.data.toList).take k) (c : Int) [.int .i64 (c : Int)] (fun _ => True) (fun _ => False) rfl rfl ?aP (fun _ hk => hk.elim) ?aF ?aO ?aB ?aS ?aL ?_; (case aP => exact rfl); (case aB => exact (by repeat (first | (with_reducible first | exact HX.out | apply below_alloc | apply pw_below_drewN | apply below_drew1) | exact HX.out))); (case aF => exact (fun _ _ => trivial)); (case aO => exact (by (with_reducible repeat (first | apply Kd.R_alloc | apply Kd.R_drewN | apply Kd.R_drew)); exact HO.out)); (case aS => exact (below_size (by repeat (first | (with_reducible first | exact HX.out | apply below_alloc | apply pw_below_drewN | apply below_drew1) | exact HX.out)))); (case aL => have := HTL2.out; omega); intro v9 w9 ho hb hg hat; rw [HST.out] at ho; replace HO := Aside0.mk ho; replace HX := Aside0.mk hb; clear ho hb hg hat)))
              go_roundw
              case rel => exact ⟨k + 1, by go_num, HK2.out, HO, HX⟩
              case measure => simp [intOf]; have := HK2.out; omega
            · have c1 := decide_eq_false hlt
              have HKL : Aside0 ((oftenOf s.data.toList).take k = oftenOf s.data.toList) := ⟨List.take_of_length_le (by unfold oftenOf; rw [List.length_map, ← HWS.out, ← HML.out]; omega)⟩
              have HFIN : Aside0 (Kd.R Kd.string 9 wr w.heap.size (fun _ => True) (.slice A m cap) ((wordsOf s.data.toList).map bs) ∧ Kd.R (Kd.int .i64) 3 wr w.heap.size (fun _ => True) u11 (oftenOf s.data.toList) ∧ Below w.heap.size w wr) := ⟨⟨by rw [← HWS.out]; exact Kd.R_below HR9.out HX.out, by rw [← HKL.out]; exact Kd.R_lower HO.out HB3.out.size, below_then HB3.out HB3.out.size HX.out⟩⟩
              go_wp2
              go_ret2
              exact ⟨_, _, rfl, HFIN.out⟩
        · intro x c kl yd yp w4 cnt2 hkey hlk hv hat hrg2 hlt hg2 hs2 hen
          obtain ⟨x', ex, rfl, _⟩ := Maps.keyOf_str Try.underlying9 hkey
          obtain rfl : x = x' := encStr_inj ex
          have hrow2 := HV.out.row.kept hg2 (Or.inr (row_ne_iter HV.out.row HV.out.g).symm)
          have hb2 := HV.out.b.grown hg2 HV.out.b.size (fun j hj => by cases hj; exact Nat.le_of_lt HV.out.lt)
          have hz4 : w.heap.size + 1 ≤ w4.heap.size := by
            have h1 := hg2.size
            rcases HV.out.row.2 with ⟨hnil, _⟩ | ⟨gg, cap, cur, _, hbase, hb, _⟩
            · exact absurd hnil HV.out.nn
            · have := obj_lt hb
              omega
          have HROW := Aside0.mk hrow2
          have HB2 := Aside0.mk hb2
          have HZ4 := Aside0.mk hz4
          have HRG := Aside0.mk hrg2
          have HCN := Aside0.mk (HV.out.C.step hlk hat)
          have HLT := Aside0.mk hlt
          clear hs2 hkey ex hlk hat hv hg2 hrow2 hb2 hz4 hrg2 hlt
          go_wp2_with (at_builtin; go_loud (refine wpList_append_own _ rfl _ _ 55 rfl (w.heap.size + 1) 9 i0 (.string ⟨#[]⟩) 1 16 Try.underlying55 HI0.out HI9.out.1 HI9.out.2.1 HI9.out.2.2 rfl (by decide) _ _ _ rfl (HROW.out.alloc _) ⟨w4.heap.size, 0, none⟩ 1 1 [encStr x] rfl rfl (cell_one_new _ _ _) (by simp [Value.oneCell', encStr]) (by have := HV.out.cs; unfold maxLen; omega) (by have := HV.out.cs; omega) (by have := HZ4.out; simp; omega) ?_; intro v' w5 hown' hg3 hnil3; have HV5 : Aside0 (LR w w5 it2 n D (fun z => left z && !z.sameKey (.string x)) cnt2 (ss ++ [x]) v') := ⟨⟨(HRG.out.alloc _).kept hg3 (row_ne_low HROW.out (by omega)) (row_ne_iter HROW.out HRG.out), by have := HV.out.cs; have := HLT.out; simp; omega, by simpa using hown', fun hv' => by have := (hnil3.1 hv').2; omega, HCN.out, (below_alloc HB2.out _).grown hg3 (by have := HZ4.out; simp; omega) (fun j hj => by have := (HROW.out.lt j hj).1; omega), HV.out.lt⟩⟩; clear hown' hg3 hnil3; go_frame))
          go_roundw
          case rel => exact ⟨_, cnt2, _, HV5⟩
          case measure => rw [HV5.out.g.left_eq, HV.out.g.left_eq]; exact HLT.out
end Go.Proofs.Ytfngcabckfmhnaa.B
