/- SearchSwaps: the walk of the law. -/
import Derived.Test.YtfngcabckfmhnaaP1
import Derived.Test.YtfngcabckfmhnaaS4
namespace Go.Proofs.Ytfngcabckfmhnaa.B
open Go.RowKit Go.Proofs.YtfngcabckfmhnaaW.PrintWords Go.Proofs.YtfngcabckfmhnaaW.PrintLast Go.Proofs.YtfngcabckfmhnaaW.PrintMore Go.Proofs.Ytfngcabckfmhnaa.PA
set_option linter.unusedVariables false
set_option linter.unusedSimpArgs false

theorem Chg.bel {n : Nat} {w w1 w2 : World} {g : Nat} {r r' : Option Nat} (hb : Below n w w1) (hn : n ≤ w1.heap.size) (h : Chg w1 w2 g r r') (hg : n ≤ g) (hr : ∀ k, r = some k → n ≤ k) : Below n w w2 ∧ ∀ k, r' = some k → n ≤ k := by
  refine ⟨⟨h.os.trans hb.os, h.tape.trans hb.tape, h.output.trans hb.output, Nat.le_trans hb.size h.size, fun k hk => ?_⟩, fun k hk => ?_⟩
  · rw [h.block k (by omega) (by omega) (fun e => by have := hr k e.symm; omega), hb.block k hk]
  · rcases h.row with e | ⟨j, e, hj⟩
    · exact hr k (by rw [← e]; exact hk)
    · rw [hk] at e; cases e; omega
theorem Chg.typ {w w' : World} {g : Nat} {r r' : Option Nat} {ps : List (List Int)} (h : Chg w w' g r r') (hi : Idx w g r ps) (t : Nat) (h1 : t ≠ 82) (h2 : t ≠ 53) (k : Nat) (c : Array Value) (hk : w.heap[k]? = some (.cells c t (0, 0))) : w'.heap[k]? = w.heap[k]? := by
  obtain ⟨v, cs, b1, b2, b3, b4⟩ := hi
  refine h.block k (blk_lt hk) (fun e => ?_) (fun e => ?_)
  · subst e
    rw [b1] at hk
    injection hk with hk
    injection hk with _ hk _
    exact h1 hk.symm
  · rw [← b3] at e
    exact own_ne b2 hk (fun x => h2 x.symm) e
theorem Chg.row76 {w w' : World} {g : Nat} {r r' : Option Nat} {ps : List (List Int)} (h : Chg w w' g r r') (hi : Idx w g r ps) {B : Nat} {ok : Nat → Prop} {v : Value} {l : List S76} (hr : Kd.R k76 76 w B ok v l) : Kd.R k76 76 w' B ok v l :=
  Kd.R_mono (Kd.R_move (Kd.R_bound hr) (fun k hk => by
    obtain ⟨_, _, _, q, hq, c, hc⟩ := hk
    have : q = 76 := by simpa [k76, Kd.iso, Kd.pair, Kd.int, Kd.scalar] using hq
    subst this
    exact h.typ hi 76 (by decide) (by decide) k c hc)) (fun k hk => hk.1)
theorem Chg.row46 {w w' : World} {g : Nat} {r r' : Option Nat} {ps : List (List Int)} (h : Chg w w' g r r') (hi : Idx w g r ps) {B : Nat} {ok : Nat → Prop} {v : Value} {l : List S46} (hr : Kd.R k46 46 w B ok v l) : Kd.R k46 46 w' B ok v l :=
  Kd.R_mono (Kd.R_move (Kd.R_bound hr) (fun k hk => by
    obtain ⟨_, _, _, q, hq, c, hc⟩ := hk
    have : q = 46 := by simpa [k46, Kd.iso, Kd.pair, Kd.int, Kd.scalar] using hq
    subst this
    exact h.typ hi 46 (by decide) (by decide) k c hc)) (fun k hk => hk.1)
structure Inv (w wr : World) (g : Nat) (vO : Value) (ops : List S46) (v : Value) (d : List S76) (r : Option Nat) (ps : List (List Int)) (i : Nat) : Prop where
  o : Kd.R k46 46 wr w.heap.size (fun _ => True) vO ops
  e : Kd.R k76 76 wr w.heap.size (fun _ => True) v d
  x : Idx wr g r ps
  f : fl ps = d.map (·.f0)
  b : Below w.heap.size w wr
  hg : w.heap.size ≤ g
  r : ∀ k, r = some k → w.heap.size ≤ k
  n : ps.length ≤ 1001 + i
theorem mkOps_at (c f : Int) (l : List (Int × Int × Int)) (i : Nat) (hi : i < l.length) : ∃ x, l[i]? = some x ∧ rd_T46 (mkOps c f l) (i : Int) = ⟨x.1, x.2.1, x.2.2, c, f + (i : Int)⟩ := by
  refine ⟨l[i], List.getElem?_eq_getElem hi, ?_⟩
  unfold rd_T46 mkOps
  rw [List.getD_eq_getElem?_getD, Int.toNat_natCast, List.getElem?_mapIdx, List.getElem?_eq_getElem hi]
  rfl
theorem raws_kinds (m : Nat) (q : ByteArray) (L : List Nat) : ∀ k, ∀ x ∈ raws m q L k, (x.1 = 1 ∨ x.1 = 2) ∧ 0 ≤ x.2.2 ∧ x.2.2 ≤ 255 := by
  intro k
  induction k with
  | zero => intro x hx; simp [raws] at hx
  | succ k ih =>
    intro x hx
    rw [raws, List.mem_append] at hx
    rcases hx with hx | hx
    · exact ih x hx
    · unfold rawAt at hx
      rw [List.mem_append] at hx
      rcases hx with hx | hx
      · obtain ⟨_, rfl⟩ := List.mem_replicate.1 hx
        exact ⟨.inr rfl, by show (0 : Int) ≤ 0; omega, by show (0 : Int) ≤ 255; omega⟩
      · obtain ⟨j, hj, rfl⟩ := List.mem_map.1 hx
        rw [List.mem_range] at hj
        refine ⟨.inl rfl, ?_⟩
        show 0 ≤ bt q (j : Int) ∧ bt q (j : Int) ≤ 255
        exact bytesOf_range q _ (by rw [← bytes_range q]; exact List.mem_map.2 ⟨j, List.mem_range.2 hj, rfl⟩)
theorem run_step {d d' : List S76} {ops : List S46} {i : Nat} (hi : i < ops.length) (h : Run d (ops.drop i) d') :
    fit d.length (rd_T46 ops (i : Int)).f0 (rd_T46 ops (i : Int)).f1 (rd_T46 ops (i : Int)).f2 (rd_T46 ops (i : Int)).f3 (rd_T46 ops (i : Int)).f4 = 0 ∧
    Run (app d (rd_T46 ops (i : Int)).f0 (rd_T46 ops (i : Int)).f1 (rd_T46 ops (i : Int)).f2 (rd_T46 ops (i : Int)).f3 (rd_T46 ops (i : Int)).f4) (ops.drop (i + 1)) d' := by
  have e : rd_T46 ops (i : Int) = ops[i] := by
    unfold rd_T46
    rw [List.getD_eq_getElem?_getD, Int.toNat_natCast, List.getElem?_eq_getElem hi]; rfl
  rw [e]
  rw [List.drop_eq_getElem_cons hi] at h
  cases h with
  | cons h1 h2 => exact ⟨h1, h2⟩
end Go.Proofs.Ytfngcabckfmhnaa.B
/- SearchSwaps: the walk of the law. -/
namespace Go.Proofs.Ytfngcabckfmhnaa.B
open Go.RowKit Go.Proofs.YtfngcabckfmhnaaW.PrintWords Go.Proofs.YtfngcabckfmhnaaW.PrintLast Go.Proofs.YtfngcabckfmhnaaW.PrintMore Go.Proofs.Ytfngcabckfmhnaa.PA
set_option linter.unusedVariables false
set_option linter.unusedSimpArgs false

theorem bytesOf_strOfNums (l : List Int) (h : ∀ x ∈ l, 0 ≤ x ∧ x ≤ 255) : bytesOf (strOfNums l) = l := by
  unfold bytesOf
  rw [strOfNums_data, List.map_map]
  conv => rhs; rw [← List.map_id l]
  refine List.map_congr_left fun x hx => ?_
  have := h x hx
  simp only [Function.comp, id]
  rw [UInt8.toNat_ofNat_of_lt' (by show x.toNat < 256; omega)]
  omega
theorem swap_ok (w : World) (g : Nat) (r : Option Nat) (ps : List (List Int)) (h : Idx w g r ps) (s : ByteArray) (hs : strOfNums (fl ps) = s) (hn : s.size ≤ 2000) (p q : ByteArray) (hp : 1 ≤ p.size) (hpl : plB p = true) (hql : plB q = true) (client first : Int)
    (hc : 1 ≤ client ∧ client ≤ 64) (hf : 1 ≤ first ∧ first ≤ 65) (L : List Nat) (hL : L = plc s p 0 true) (hmany : ((L.length * (p.size + q.size) : Nat) : Int) ≤ 65 - first) :
    Calls Try.prog 21 #[.pointer (some ⟨g, 0, none⟩), .string p, .string q, .int .i64 client, .int .i64 first] w (SwapAns w (mkOps client first (raws p.size q L L.length))) := by
  subst hs
  have hsz : (fl ps).length ≤ 2000 := by rw [strOfNums_size] at hn; exact hn
  have hfull : (plc (strOfNums (fl ps)) p 0 true).length * (p.size + q.size) = 0 ∨ (((fl ps).length : Int) ≤ 4096 ∧ ((fl ps).length : Int) + ((plc (strOfNums (fl ps)) p 0 true).length : Int) * ((q.size : Int) - (p.size : Int)) ≤ 4096) := by
    right
    refine ⟨by omega, ?_⟩
    rw [← hL]
    have h1 : (L.length : Int) * ((q.size : Int) - (p.size : Int)) ≤ (L.length : Int) * (q.size : Int) := Int.mul_le_mul_of_nonneg_left (by omega) (by omega)
    have h2 : L.length * q.size ≤ L.length * (p.size + q.size) := Nat.mul_le_mul_left _ (by omega)
    have h3 : (L.length : Int) * (q.size : Int) = ((L.length * q.size : Nat) : Int) := by rw [Int.natCast_mul]
    omega
  subst hL
  by_cases hz : (0 : Int) < (((plc (strOfNums (fl ps)) p 0 true).length * (p.size + q.size) : Nat) : Int)
  · exact swap_ok1 w g r ps h (by omega) p q hp hpl hql client first hc hf hmany hfull hz
  · exact swap_ok0 w g r ps h (by omega) p q hp hpl hql client first hc hf hmany hfull hz

set_option maxHeartbeats 32000000 in
set_option maxRecDepth 100000 in
theorem swaps_some (text pattern filling : ByteArray) (w : World) (hpt : pattern.size ≤ 140737488351232) (hby : filling.size ≤ 140737488351232) (hb : 1 ≤ filling.size) :
    Calls Try.prog 5 #[.string text, .string pattern, .string filling] w (TrueAns w) := by
  have hne := toList_ne hb
  clear hb
  obtain ⟨n, hn⟩ : ∃ n, n = min text.size 1000 := ⟨_, rfl⟩
  obtain ⟨ke, hke⟩ := elems_pure text 1000 (by omega)
  rw [← hn] at hke
  have hn' : n ≤ 1000 := by omega
  have HN := Aside0.mk hn'
  have HNt : Aside0 (n ≤ text.size) := ⟨by omega⟩
  obtain ⟨xs, hxs⟩ : ∃ xs, xs = elemsL text n := ⟨_, rfl⟩
  have HX := Aside0.mk hxs
  have HXL : Aside0 (xs.length = n) := ⟨by rw [hxs]; exact elemsL_length _ _⟩
  rw [← hxs] at hke
  have HKE := Aside0.mk hke
  clear hke hn hn' hxs
  obtain ⟨kt, hkt⟩ := text_pure xs (by rw [HXL.out]; have := HN.out; omega)
  obtain ⟨s, hs⟩ : ∃ s, s = strOfNums (xs.map (·.f0)) := ⟨_, rfl⟩
  have HSZ : Aside0 (s.size = n) := ⟨by rw [hs, strOfNums_size, List.length_map]; exact HXL.out⟩
  rw [← hs] at hkt
  have HKT := Aside0.mk hkt
  have HS := Aside0.mk hs
  clear hkt hs
  go_enter Try.func5, Try.ntmps5
  go_wp2_with (first
    | (go_at_call 11; refine (jotterlaw24_elems.calls ke text 1000 xs _ HKE.out).mono ?_; rintro e w1 ⟨v0, rfl, hr1, hb1⟩; obtain ⟨A0, c0, rfl⟩ := Kd.R_slice hr1; have HR := Aside0.mk hr1; have HB := Aside0.mk hb1; clear hr1 hb1)
    | (go_at_call 16; obtain ⟨_, hc0, hC0⟩ := Kd.R_reads' HR.out; refine (doc_Text.calls kt A0 c0 xs s w1 hC0 hc0 HKT.out).mono ?_; clear hc0 hC0; rintro e w2 ⟨rfl, hb2⟩; replace HR := Aside0.mk (Kd.R_below HR.out hb2); replace HB := Aside0.mk (below_then HB.out HB.out.size hb2); clear hb2)
    | (go_at_call 12; obtain ⟨_, hc0, hC0⟩ := Kd.R_reads' HR.out; refine (new_any A0 c0 xs w2 hC0 hc0 (by rw [HXL.out]; have := HN.out; omega)).mono ?_; clear hc0 hC0; rintro e w3 ⟨g, r, ps, rfl, hi2, hf2, hg2, hr2, hn2, hb3⟩; have HI := Aside0.mk hi2; have HF := Aside0.mk hf2; have HNP := Aside0.mk hn2; have HG : Aside0 (w.heap.size ≤ g ∧ ∀ k, r = some k → w.heap.size ≤ k) := ⟨by have := HB.out.size; omega, fun k hk => by have := hr2 k hk; have := HB.out.size; omega⟩; replace HR := Aside0.mk (Kd.R_below HR.out hb3); replace HB := Aside0.mk (below_then HB.out HB.out.size hb3); clear hi2 hf2 hg2 hr2 hn2 hb3)
    | (go_at_call 13; (with_reducible refine (needle_any pattern w3 hpt).mono ?_); rintro e w4 ⟨p, rfl, hp1, hp2, hb4⟩; have HP1 := Aside0.mk hp1; have HP2 := Aside0.mk hp2; replace HI := Aside0.mk (HI.out.below hb4); replace HR := Aside0.mk (Kd.R_below HR.out hb4); replace HB := Aside0.mk (below_then HB.out HB.out.size hb4); clear hp1 hp2 hb4)
    | (go_at_call 13; (with_reducible refine (needle_any filling w4 hby).mono ?_); rintro e w5 ⟨q, rfl, hq1, hq2, hb5⟩; have HQ1 := Aside0.mk hq1; replace HI := Aside0.mk (HI.out.below hb5); replace HR := Aside0.mk (Kd.R_below HR.out hb5); replace HB := Aside0.mk (below_then HB.out HB.out.size hb5); clear hq1 hq2 hb5))
  have HPS := Aside0.mk (plB_size HP1.out)
  have HQS := Aside0.mk (plB_size HQ1.out)
  have hps := HPS.out
  have hqs := HQS.out
  have HT : Aside0 (strOfNums (fl ps) = s) := ⟨by rw [HF.out, ← HS.out]⟩
  obtain ⟨L, hL⟩ : ∃ L, L = plc s p 0 true := ⟨_, rfl⟩
  obtain ⟨N, hN⟩ : ∃ N : Nat, N = L.length * (p.size + q.size) := ⟨_, rfl⟩
  have hg : Gap p.size n L := by rw [hL, ← HSZ.out]; exact plc_gap s p
  have HGP := Aside0.mk hg
  obtain ⟨ks, hks⟩ := swapped_pure s p q HP2.out HPS.out (by rw [HSZ.out]; have := HN.out; omega) HQS.out L hL
  obtain ⟨W, hW⟩ : ∃ W, W = strOfNums (outB (bytesOf s) p.size q L L.length ++ (bytesOf s).drop (srcP p.size L L.length)) := ⟨_, rfl⟩
  rw [← hW] at hks
  have HKS := Aside0.mk hks
  have HW := Aside0.mk hW
  have HL := Aside0.mk hL
  have HNN := Aside0.mk hN
  have hLl : L.length ≤ 1001 := by
    have := plc_length ps p
    rw [HT.out, ← HL.out, HF.out, List.length_map, HXL.out] at this
    have := HN.out
    omega
  have hNb : N ≤ 1001 * 128 := by rw [hN]; exact Nat.mul_le_mul hLl (by omega)
  have hM : IntKind.i64.wrap ((L.length : Int) * ((p.size : Int) + (q.size : Int))) = (N : Int) := by
    rw [show (L.length : Int) * ((p.size : Int) + (q.size : Int)) = (N : Int) by rw [hN]; push_cast; rfl]
    exact IntWalk.i64_in _ (by omega)
  clear hks hW hL hN hg
  by_cases hmany : (62 : Int) < (N : Int)
  · have d1 := decide_eq_true hmany
    have HMM := Aside0.mk hmany
    clear hmany
    go_wp2_with (first
      | (go_at_call 22; refine (jotterlaw24_swapped.calls ks s p q W (L.length : Int) _ HKS.out).mono ?_; rintro e w6 ⟨rfl, hb6⟩; replace HI := Aside0.mk (HI.out.below hb6); replace HB := Aside0.mk (below_then HB.out HB.out.size hb6); clear hb6)
      | (go_at_call 21; refine (swap_maker w6 g r ps HI.out (by rw [HF.out, List.length_map, HXL.out]; have := HN.out; omega) p q HP2.out HP1.out HQ1.out 64 3 (by rw [HT.out, ← HL.out, ← HNN.out]; have := HMM.out; omega)).mono ?_; rintro e w7 ⟨rfl, hb7⟩; replace HI := Aside0.mk (HI.out.below hb7); replace HB := Aside0.mk (below_then HB.out HB.out.size hb7); clear hb7)
      | (go_at_call 20; refine (text_any w7 g r ps HI.out (by rw [HF.out, List.length_map, HXL.out]; have := HN.out; omega)).mono ?_; rintro e w8 ⟨rfl, hb8⟩; rw [HT.out]; replace HI := Aside0.mk (HI.out.below hb8); replace HB := Aside0.mk (below_then HB.out HB.out.size hb8); clear hb8))
    go_ret
    exact ⟨ret_bool (by simp), HB.out⟩
  · have d1 := decide_eq_false hmany
    have HMM := Aside0.mk hmany
    have hNs : (N : Int) ≤ 62 := by omega
    clear hmany hNb
    obtain ⟨ops, hops⟩ : ∃ ops, ops = mkOps 64 3 (raws p.size q L L.length) := ⟨_, rfl⟩
    have HOL : Aside0 (ops.length = N) := ⟨by rw [hops, mkOps_length, raws_length, HNN.out]⟩
    obtain ⟨df, hdf⟩ : ∃ df, df = outE xs p.size q L 64 3 L.length ++ xs.drop (srcP p.size L L.length) := ⟨_, rfl⟩
    have HRUN : Aside0 (Run xs ops df) := ⟨by
      rw [hops, hdf]
      exact raws_run xs p.size q HQ1.out L 64 3 (by rw [HXL.out]; exact HGP.out) (by omega) (by omega) (by rw [← HNN.out]; omega) (by rw [HXL.out]; have := HN.out; omega) _ (Nat.le_refl _)⟩
    have HOPS := Aside0.mk hops
    have HDF := Aside0.mk hdf
    clear hops hdf
    go_wp2_with (first
      | (go_at_call 22; refine (jotterlaw24_swapped.calls ks s p q W (L.length : Int) _ HKS.out).mono ?_; rintro e w6 ⟨rfl, hb6⟩; replace HI := Aside0.mk (HI.out.below hb6); replace HR := Aside0.mk (Kd.R_below HR.out hb6); replace HB := Aside0.mk (below_then HB.out HB.out.size hb6); clear hb6)
      | (go_at_call 21; refine (swap_ok w6 g r ps HI.out s HT.out (by rw [HSZ.out]; have := HN.out; omega) p q HP2.out HP1.out HQ1.out 64 3 (by omega) (by omega) L HL.out (by rw [← HNN.out]; omega)).mono ?_; rintro e w7 ⟨vO, rfl, ho, hb7⟩; rw [← HOPS.out] at ho; obtain ⟨AO, cO, rfl⟩ := Kd.R_slice ho; rw [HOL.out] at ho ⊢; have HO := Aside0.mk (Kd.R_lower ho HB.out.size); replace HI := Aside0.mk (HI.out.below hb7); replace HR := Aside0.mk (Kd.R_below HR.out hb7); replace HB := Aside0.mk (below_then HB.out HB.out.size hb7); clear ho hb7)
      | (go_at_call 20; refine (text_any w7 g r ps HI.out (by rw [HF.out, List.length_map, HXL.out]; have := HN.out; omega)).mono ?_; rintro e w8 ⟨rfl, hb8⟩; rw [HT.out]; replace HI := Aside0.mk (HI.out.below hb8); replace HO := Aside0.mk (Kd.R_below HO.out hb8); replace HR := Aside0.mk (Kd.R_below HR.out hb8); replace HB := Aside0.mk (below_then HB.out HB.out.size hb8); clear hb8))
    have hINV : Inv w w8 g (.slice AO N cO) ops (.slice A0 xs.length c0) xs r ps 0 := ⟨HO.out, HR.out, HI.out, HF.out, HB.out, HG.out.1, HG.out.2, by have := HNP.out; rw [HXL.out] at this; have := HN.out; omega⟩
    have HV := Aside0.mk hINV
    have HAN : Aside0 (∃ A c, (Value.slice A0 xs.length c0) = .slice A xs.length c) := ⟨A0, c0, rfl⟩
    clear hINV
    go_loopw [7, 17] (fun v7 v17 wr => ∃ (i : Nat) (d : List S76) (r' : Option Nat) (ps' : List (List Int)), v17 = .int .i64 (i : Int) ∧ (i : Int) ≤ (N : Int) ∧ Aside0 (∃ A c, v7 = .slice A d.length c) ∧ Aside0 (Run d (ops.drop i) df) ∧ Aside0 (Inv w wr g (.slice AO N cO) ops v7 d r' ps' i)) (fun _ v17 _ => N - (intOf v17).toNat)
    case atStart => exact ⟨0, xs, r, ps, rfl, by omega, HAN, HRUN, HV⟩
    case round =>
      clear HV HAN HRUN
      obtain ⟨i, d, r', ps', rfl, hi, HA, HRU, HV⟩ := hrel
      obtain ⟨A, c, rfl⟩ := HA.out
      by_cases hlt : (i : Int) < (N : Int)
      · have c1 := decide_eq_true hlt
        have hi0 : (0 : Int) ≤ (i : Int) := by omega
        have hie : (i : Int) ≤ 62 := by omega
        obtain ⟨x, hx, hrd⟩ := mkOps_at 64 3 (raws p.size q L L.length) i (by rw [raws_length, ← HNN.out]; omega)
        obtain ⟨hk12, hch⟩ := raws_kinds _ _ _ _ x (List.mem_of_getElem? hx)
        rw [← HOPS.out] at hrd
        obtain ⟨K, P, C⟩ := x
        have HRD := Aside0.mk hrd
        obtain ⟨hfit, hrun⟩ := run_step (by rw [HOL.out]; omega) HRU.out
        rw [hrd] at hfit hrun
        have HFIT := Aside0.mk hfit
        have HRU2 := Aside0.mk hrun
        have HCH := Aside0.mk hch
        have hK0 : (K == 0) = false := beq_eq_false_iff_ne.mpr (by rcases hk12 with h | h <;> (rw [show K = _ from h]; decide))
        have hK0' : decide (K = 0) = false := decide_eq_false (by rcases hk12 with h | h <;> (rw [show K = _ from h]; decide))
        obtain ⟨hr1, hr2, hCO⟩ := Kd.R_reads' HV.out.o
        obtain ⟨ad, hao, k0, k1, k2, k3, k4⟩ := at_T46 hCO (i : Int) hi0 (by first | exact hlt | (rw [HOL.out]; exact hlt))
        subst hao
        rw [hrd] at k0 k1 k2 k3 k4
        simp only [Int.toNat_natCast] at k0 k1 k2 k3 k4
        clear hx hk12 hch hrd hfit hrun hr1 hr2 hCO
        go_wp2_with (first
          | (go_at_call 24; obtain ⟨_, hcd, hCd⟩ := Kd.R_reads' HV.out.e; refine (apply_ok A d c wr K P C 64 (3 + (i : Int)) hCd hcd HCH.out HFIT.out).mono ?_; clear hcd hCd; rintro e w9 ⟨v9, rfl, hv9, hb9⟩; obtain ⟨A9, c9, rfl⟩ := Kd.R_slice hv9; have HV9 := Aside0.mk hv9; have HB9 := Aside0.mk hb9; replace k0 := pw_cell_below hb9 k0; replace k1 := pw_cell_below hb9 k1; replace k2 := pw_cell_below hb9 k2; replace k3 := pw_cell_below hb9 k3; replace k4 := pw_cell_below hb9 k4; clear hv9 hb9)
          | (go_at_call 23; refine (iapply_ok w9 g r' ps' (HV.out.x.below HB9.out) (by have := HV.out.n; omega) K P C 64 (3 + (i : Int)) HCH.out (by rw [HV.out.f, List.length_map]; exact HFIT.out)).mono ?_; rintro e w10 ⟨r2, ps2, rfl, hi10, hf10, hn10, hc10⟩; have HI9 := Aside0.mk (HV.out.x.below HB9.out); obtain ⟨hbe, hre⟩ := hc10.bel (below_then HV.out.b HV.out.b.size HB9.out) (by have := HV.out.b.size; have := HB9.out.size; omega) HV.out.hg HV.out.r; have hinv : Inv w w10 g (.slice (some ad) N cO) ops (.slice A9 (app d K P C 64 (3 + (i : Int))).length c9) (app d K P C 64 (3 + (i : Int))) r2 ps2 (i + 1) := ⟨hc10.row46 HI9.out (Kd.R_below HV.out.o HB9.out), hc10.row76 HI9.out (Kd.R_lower HV9.out HV.out.b.size), hi10, by rw [hf10, app_f0, HV.out.f], hbe, HV.out.hg, hre, by have := HV.out.n; omega⟩; obtain ⟨hr1, hr2, hCO⟩ := Kd.R_reads' hinv.o; obtain ⟨ad2, hao, j0, j1, j2, j3, j4⟩ := at_T46 hCO (i : Int) hi0 (by first | exact hlt | (rw [HOL.out]; exact hlt)); cases hao; rw [HRD.out] at j0 j1 j2 j3 j4; simp only [Int.toNat_natCast] at j0 j1 j2 j3 j4; clear k0 k1 k2 k3 k4 hr1 hr2 hCO hbe hre hi10 hf10 hn10 hc10; have HV10 := Aside0.mk hinv; clear hinv))
        go_roundw
        case rel => exact ⟨i + 1, _, r2, ps2, by go_num, by omega, ⟨A9, c9, rfl⟩, HRU2, HV10⟩
        case measure => simp [intOf]; omega
      · have c1 := decide_eq_false hlt
        obtain rfl : i = N := by omega
        obtain rfl : d = df := by
          have := HRU.out
          rw [List.drop_eq_nil_of_le (by rw [HOL.out]; exact Nat.le_refl _)] at this
          cases this
          rfl
        have hb255 : ∀ x ∈ xs.map (·.f0), 0 ≤ x ∧ x ≤ 255 := fun x hx => by
          rw [HX.out, elemsL_f0 _ _ HNt.out] at hx
          exact bytesOf_range _ _ (List.mem_of_mem_take hx)
        have hbs : bytesOf s = xs.map (·.f0) := by rw [HS.out]; exact bytesOf_strOfNums _ hb255
        have HW2 : Aside0 (strOfNums (d.map (·.f0)) = W) := ⟨by rw [HW.out, HDF.out, List.map_append, outE_f0, List.map_drop, hbs]⟩
        have hdl : d.length ≤ 1000 + 64 := by
          have h1 := outE_length xs p.size q L 64 3 (by rw [HXL.out]; exact HGP.out) L.length (Nat.le_refl _)
          have h2 : L.length * (p.size + q.size) = L.length * p.size + L.length * q.size := Nat.mul_add _ _ _
          have h3 := HNN.out
          have h4 := HXL.out
          have h5 := HN.out
          rw [HDF.out, List.length_append, List.length_drop]
          omega
        have HDL := Aside0.mk hdl
        obtain ⟨kt2, hkt2⟩ := text_pure d (by omega)
        rw [HW2.out] at hkt2
        obtain ⟨kk, hkk⟩ := kept_swap text n HN.out p.size HPS.out q HQS.out L 3 HGP.out (by rw [← HNN.out]; omega)
        rw [← HX.out, ← HDF.out] at hkk
        have hP2 : IntKind.i64.wrap ((p.size : Int) * (L.length : Int)) = (p.size : Int) * (L.length : Int) := by
          have h1 : p.size * L.length ≤ 64 * 1001 := Nat.mul_le_mul HPS.out hLl
          have h2 : (p.size : Int) * (L.length : Int) = ((p.size * L.length : Nat) : Int) := by rw [Int.natCast_mul]
          exact IntWalk.i64_in _ (by omega)
        have HKT2 := Aside0.mk hkt2
        have HKK := Aside0.mk hkk
        have hsn : (s.size : Int) = (n : Int) := by rw [HSZ.out]
        have HSN := Aside0.mk hsn
        clear hb255 hbs hdl hkt2 hkk hsn
        go_wp2_with (first
          | (go_at_call 20; refine (text_any wr g r' ps' HV.out.x (by rw [HV.out.f, List.length_map]; have := HDL.out; omega)).mono ?_; rintro e w11 ⟨rfl, hb11⟩; rw [HV.out.f, HW2.out]; have HB11 := Aside0.mk (below_then HV.out.b HV.out.b.size hb11); have HR11 := Aside0.mk (Kd.R_below HV.out.e hb11); clear hb11)
          | (go_at_call 16; obtain ⟨_, hcd, hCd⟩ := Kd.R_reads' HR11.out; refine (doc_Text.calls kt2 A c d W w11 hCd hcd HKT2.out).mono ?_; clear hcd hCd; rintro e w12 ⟨rfl, hb12⟩; have HB12 := Aside0.mk (below_then HB11.out HB11.out.size hb12); have HR12 := Aside0.mk (Kd.R_below HR11.out hb12); clear hb12)
          | (go_at_call 25; obtain ⟨_, hcd, hCd⟩ := Kd.R_reads' HR12.out; go_loud (refine (jotterlaw24_kept.calls kk A c d (s.size : Int) ((p.size : Int) * (L.length : Int)) true w12 hCd hcd (by rw [HSN.out]; exact HKK.out)).mono ?_; clear hcd hCd; rintro e w13 ⟨rfl, ⟨nd, rfl⟩⟩)))
        go_ret
        exact ⟨ret_bool (by simp), pw_below_drewN HB12.out nd⟩
end Go.Proofs.Ytfngcabckfmhnaa.B
/- SearchSwaps: the walk of the law. -/
namespace Go.Proofs.Ytfngcabckfmhnaa.B
open Go.RowKit Go.Proofs.YtfngcabckfmhnaaW.PrintWords Go.Proofs.YtfngcabckfmhnaaW.PrintLast Go.Proofs.YtfngcabckfmhnaaW.PrintMore Go.Proofs.Ytfngcabckfmhnaa.PA
set_option linter.unusedVariables false
set_option linter.unusedSimpArgs false


set_option maxHeartbeats 32000000 in
set_option maxRecDepth 100000 in
theorem swaps_none (text pattern filling : ByteArray) (w : World) (hpt : pattern.size ≤ 140737488351232) (hby : filling.size ≤ 140737488351232) (hb : filling.size = 0) :
    Calls Try.prog 5 #[.string text, .string pattern, .string filling] w (TrueAns w) := by
  have hne := toList_em hb
  clear hb
  obtain ⟨n, hn⟩ : ∃ n, n = min text.size 1000 := ⟨_, rfl⟩
  obtain ⟨ke, hke⟩ := elems_pure text 1000 (by omega)
  rw [← hn] at hke
  have hn' : n ≤ 1000 := by omega
  have HN := Aside0.mk hn'
  have HNt : Aside0 (n ≤ text.size) := ⟨by omega⟩
  obtain ⟨xs, hxs⟩ : ∃ xs, xs = elemsL text n := ⟨_, rfl⟩
  have HX := Aside0.mk hxs
  have HXL : Aside0 (xs.length = n) := ⟨by rw [hxs]; exact elemsL_length _ _⟩
  rw [← hxs] at hke
  have HKE := Aside0.mk hke
  clear hke hn hn' hxs
  obtain ⟨kt, hkt⟩ := text_pure xs (by rw [HXL.out]; have := HN.out; omega)
  obtain ⟨s, hs⟩ : ∃ s, s = strOfNums (xs.map (·.f0)) := ⟨_, rfl⟩
  have HSZ : Aside0 (s.size = n) := ⟨by rw [hs, strOfNums_size, List.length_map]; exact HXL.out⟩
  rw [← hs] at hkt
  have HKT := Aside0.mk hkt
  have HS := Aside0.mk hs
  clear hkt hs
  go_enter Try.func5, Try.ntmps5
  go_wp2_with (first
    | (go_at_call 11; refine (jotterlaw24_elems.calls ke text 1000 xs _ HKE.out).mono ?_; rintro e w1 ⟨v0, rfl, hr1, hb1⟩; obtain ⟨A0, c0, rfl⟩ := Kd.R_slice hr1; have HR := Aside0.mk hr1; have HB := Aside0.mk hb1; clear hr1 hb1)
    | (go_at_call 16; obtain ⟨_, hc0, hC0⟩ := Kd.R_reads' HR.out; refine (doc_Text.calls kt A0 c0 xs s w1 hC0 hc0 HKT.out).mono ?_; clear hc0 hC0; rintro e w2 ⟨rfl, hb2⟩; replace HR := Aside0.mk (Kd.R_below HR.out hb2); replace HB := Aside0.mk (below_then HB.out HB.out.size hb2); clear hb2)
    | (go_at_call 12; obtain ⟨_, hc0, hC0⟩ := Kd.R_reads' HR.out; refine (new_any A0 c0 xs w2 hC0 hc0 (by rw [HXL.out]; have := HN.out; omega)).mono ?_; clear hc0 hC0; rintro e w3 ⟨g, r, ps, rfl, hi2, hf2, hg2, hr2, hn2, hb3⟩; have HI := Aside0.mk hi2; have HF := Aside0.mk hf2; have HNP := Aside0.mk hn2; have HG : Aside0 (w.heap.size ≤ g ∧ ∀ k, r = some k → w.heap.size ≤ k) := ⟨by have := HB.out.size; omega, fun k hk => by have := hr2 k hk; have := HB.out.size; omega⟩; replace HR := Aside0.mk (Kd.R_below HR.out hb3); replace HB := Aside0.mk (below_then HB.out HB.out.size hb3); clear hi2 hf2 hg2 hr2 hn2 hb3)
    | (go_at_call 13; (with_reducible refine (needle_any pattern w3 hpt).mono ?_); rintro e w4 ⟨p, rfl, hp1, hp2, hb4⟩; have HP1 := Aside0.mk hp1; have HP2 := Aside0.mk hp2; replace HI := Aside0.mk (HI.out.below hb4); replace HR := Aside0.mk (Kd.R_below HR.out hb4); replace HB := Aside0.mk (below_then HB.out HB.out.size hb4); clear hp1 hp2 hb4))
  generalize hq : (ByteArray.mk #[]) = q
  have HQ1 : Aside0 (plB q = true) := ⟨by rw [← hq]; rfl⟩
  clear hq
  have HPS := Aside0.mk (plB_size HP1.out)
  have HQS := Aside0.mk (plB_size HQ1.out)
  have hps := HPS.out
  have hqs := HQS.out
  have HT : Aside0 (strOfNums (fl ps) = s) := ⟨by rw [HF.out, ← HS.out]⟩
  obtain ⟨L, hL⟩ : ∃ L, L = plc s p 0 true := ⟨_, rfl⟩
  obtain ⟨N, hN⟩ : ∃ N : Nat, N = L.length * (p.size + q.size) := ⟨_, rfl⟩
  have hg : Gap p.size n L := by rw [hL, ← HSZ.out]; exact plc_gap s p
  have HGP := Aside0.mk hg
  obtain ⟨ks, hks⟩ := swapped_pure s p q HP2.out HPS.out (by rw [HSZ.out]; have := HN.out; omega) HQS.out L hL
  obtain ⟨W, hW⟩ : ∃ W, W = strOfNums (outB (bytesOf s) p.size q L L.length ++ (bytesOf s).drop (srcP p.size L L.length)) := ⟨_, rfl⟩
  rw [← hW] at hks
  have HKS := Aside0.mk hks
  have HW := Aside0.mk hW
  have HL := Aside0.mk hL
  have HNN := Aside0.mk hN
  have hLl : L.length ≤ 1001 := by
    have := plc_length ps p
    rw [HT.out, ← HL.out, HF.out, List.length_map, HXL.out] at this
    have := HN.out
    omega
  have hNb : N ≤ 1001 * 128 := by rw [hN]; exact Nat.mul_le_mul hLl (by omega)
  have hM : IntKind.i64.wrap ((L.length : Int) * ((p.size : Int) + (q.size : Int))) = (N : Int) := by
    rw [show (L.length : Int) * ((p.size : Int) + (q.size : Int)) = (N : Int) by rw [hN]; push_cast; rfl]
    exact IntWalk.i64_in _ (by omega)
  clear hks hW hL hN hg
  by_cases hmany : (62 : Int) < (N : Int)
  · have d1 := decide_eq_true hmany
    have HMM := Aside0.mk hmany
    clear hmany
    go_wp2_with (first
      | (go_at_call 22; refine (jotterlaw24_swapped.calls ks s p q W (L.length : Int) _ HKS.out).mono ?_; rintro e w6 ⟨rfl, hb6⟩; replace HI := Aside0.mk (HI.out.below hb6); replace HB := Aside0.mk (below_then HB.out HB.out.size hb6); clear hb6)
      | (go_at_call 21; refine (swap_maker w6 g r ps HI.out (by rw [HF.out, List.length_map, HXL.out]; have := HN.out; omega) p q HP2.out HP1.out HQ1.out 64 3 (by rw [HT.out, ← HL.out, ← HNN.out]; have := HMM.out; omega)).mono ?_; rintro e w7 ⟨rfl, hb7⟩; replace HI := Aside0.mk (HI.out.below hb7); replace HB := Aside0.mk (below_then HB.out HB.out.size hb7); clear hb7)
      | (go_at_call 20; refine (text_any w7 g r ps HI.out (by rw [HF.out, List.length_map, HXL.out]; have := HN.out; omega)).mono ?_; rintro e w8 ⟨rfl, hb8⟩; rw [HT.out]; replace HI := Aside0.mk (HI.out.below hb8); replace HB := Aside0.mk (below_then HB.out HB.out.size hb8); clear hb8))
    go_ret
    exact ⟨ret_bool (by simp), HB.out⟩
  · have d1 := decide_eq_false hmany
    have HMM := Aside0.mk hmany
    have hNs : (N : Int) ≤ 62 := by omega
    clear hmany hNb
    obtain ⟨ops, hops⟩ : ∃ ops, ops = mkOps 64 3 (raws p.size q L L.length) := ⟨_, rfl⟩
    have HOL : Aside0 (ops.length = N) := ⟨by rw [hops, mkOps_length, raws_length, HNN.out]⟩
    obtain ⟨df, hdf⟩ : ∃ df, df = outE xs p.size q L 64 3 L.length ++ xs.drop (srcP p.size L L.length) := ⟨_, rfl⟩
    have HRUN : Aside0 (Run xs ops df) := ⟨by
      rw [hops, hdf]
      exact raws_run xs p.size q HQ1.out L 64 3 (by rw [HXL.out]; exact HGP.out) (by omega) (by omega) (by rw [← HNN.out]; omega) (by rw [HXL.out]; have := HN.out; omega) _ (Nat.le_refl _)⟩
    have HOPS := Aside0.mk hops
    have HDF := Aside0.mk hdf
    clear hops hdf
    go_wp2_with (first
      | (go_at_call 22; refine (jotterlaw24_swapped.calls ks s p q W (L.length : Int) _ HKS.out).mono ?_; rintro e w6 ⟨rfl, hb6⟩; replace HI := Aside0.mk (HI.out.below hb6); replace HR := Aside0.mk (Kd.R_below HR.out hb6); replace HB := Aside0.mk (below_then HB.out HB.out.size hb6); clear hb6)
      | (go_at_call 21; refine (swap_ok w6 g r ps HI.out s HT.out (by rw [HSZ.out]; have := HN.out; omega) p q HP2.out HP1.out HQ1.out 64 3 (by omega) (by omega) L HL.out (by rw [← HNN.out]; omega)).mono ?_; rintro e w7 ⟨vO, rfl, ho, hb7⟩; rw [← HOPS.out] at ho; obtain ⟨AO, cO, rfl⟩ := Kd.R_slice ho; rw [HOL.out] at ho ⊢; have HO := Aside0.mk (Kd.R_lower ho HB.out.size); replace HI := Aside0.mk (HI.out.below hb7); replace HR := Aside0.mk (Kd.R_below HR.out hb7); replace HB := Aside0.mk (below_then HB.out HB.out.size hb7); clear ho hb7)
      | (go_at_call 20; refine (text_any w7 g r ps HI.out (by rw [HF.out, List.length_map, HXL.out]; have := HN.out; omega)).mono ?_; rintro e w8 ⟨rfl, hb8⟩; rw [HT.out]; replace HI := Aside0.mk (HI.out.below hb8); replace HO := Aside0.mk (Kd.R_below HO.out hb8); replace HR := Aside0.mk (Kd.R_below HR.out hb8); replace HB := Aside0.mk (below_then HB.out HB.out.size hb8); clear hb8))
    have hINV : Inv w w8 g (.slice AO N cO) ops (.slice A0 xs.length c0) xs r ps 0 := ⟨HO.out, HR.out, HI.out, HF.out, HB.out, HG.out.1, HG.out.2, by have := HNP.out; rw [HXL.out] at this; have := HN.out; omega⟩
    have HV := Aside0.mk hINV
    have HAN : Aside0 (∃ A c, (Value.slice A0 xs.length c0) = .slice A xs.length c) := ⟨A0, c0, rfl⟩
    clear hINV
    go_loopw [7, 17] (fun v7 v17 wr => ∃ (i : Nat) (d : List S76) (r' : Option Nat) (ps' : List (List Int)), v17 = .int .i64 (i : Int) ∧ (i : Int) ≤ (N : Int) ∧ Aside0 (∃ A c, v7 = .slice A d.length c) ∧ Aside0 (Run d (ops.drop i) df) ∧ Aside0 (Inv w wr g (.slice AO N cO) ops v7 d r' ps' i)) (fun _ v17 _ => N - (intOf v17).toNat)
    case atStart => exact ⟨0, xs, r, ps, rfl, by omega, HAN, HRUN, HV⟩
    case round =>
      clear HV HAN HRUN
      obtain ⟨i, d, r', ps', rfl, hi, HA, HRU, HV⟩ := hrel
      obtain ⟨A, c, rfl⟩ := HA.out
      by_cases hlt : (i : Int) < (N : Int)
      · have c1 := decide_eq_true hlt
        have hi0 : (0 : Int) ≤ (i : Int) := by omega
        have hie : (i : Int) ≤ 62 := by omega
        obtain ⟨x, hx, hrd⟩ := mkOps_at 64 3 (raws p.size q L L.length) i (by rw [raws_length, ← HNN.out]; omega)
        obtain ⟨hk12, hch⟩ := raws_kinds _ _ _ _ x (List.mem_of_getElem? hx)
        rw [← HOPS.out] at hrd
        obtain ⟨K, P, C⟩ := x
        have HRD := Aside0.mk hrd
        obtain ⟨hfit, hrun⟩ := run_step (by rw [HOL.out]; omega) HRU.out
        rw [hrd] at hfit hrun
        have HFIT := Aside0.mk hfit
        have HRU2 := Aside0.mk hrun
        have HCH := Aside0.mk hch
        have hK0 : (K == 0) = false := beq_eq_false_iff_ne.mpr (by rcases hk12 with h | h <;> (rw [show K = _ from h]; decide))
        have hK0' : decide (K = 0) = false := decide_eq_false (by rcases hk12 with h | h <;> (rw [show K = _ from h]; decide))
        obtain ⟨hr1, hr2, hCO⟩ := Kd.R_reads' HV.out.o
        obtain ⟨ad, hao, k0, k1, k2, k3, k4⟩ := at_T46 hCO (i : Int) hi0 (by first | exact hlt | (rw [HOL.out]; exact hlt))
        subst hao
        rw [hrd] at k0 k1 k2 k3 k4
        simp only [Int.toNat_natCast] at k0 k1 k2 k3 k4
        clear hx hk12 hch hrd hfit hrun hr1 hr2 hCO
        go_wp2_with (first
          | (go_at_call 24; obtain ⟨_, hcd, hCd⟩ := Kd.R_reads' HV.out.e; refine (apply_ok A d c wr K P C 64 (3 + (i : Int)) hCd hcd HCH.out HFIT.out).mono ?_; clear hcd hCd; rintro e w9 ⟨v9, rfl, hv9, hb9⟩; obtain ⟨A9, c9, rfl⟩ := Kd.R_slice hv9; have HV9 := Aside0.mk hv9; have HB9 := Aside0.mk hb9; replace k0 := pw_cell_below hb9 k0; replace k1 := pw_cell_below hb9 k1; replace k2 := pw_cell_below hb9 k2; replace k3 := pw_cell_below hb9 k3; replace k4 := pw_cell_below hb9 k4; clear hv9 hb9)
          | (go_at_call 23; refine (iapply_ok w9 g r' ps' (HV.out.x.below HB9.out) (by have := HV.out.n; omega) K P C 64 (3 + (i : Int)) HCH.out (by rw [HV.out.f, List.length_map]; exact HFIT.out)).mono ?_; rintro e w10 ⟨r2, ps2, rfl, hi10, hf10, hn10, hc10⟩; have HI9 := Aside0.mk (HV.out.x.below HB9.out); obtain ⟨hbe, hre⟩ := hc10.bel (below_then HV.out.b HV.out.b.size HB9.out) (by have := HV.out.b.size; have := HB9.out.size; omega) HV.out.hg HV.out.r; have hinv : Inv w w10 g (.slice (some ad) N cO) ops (.slice A9 (app d K P C 64 (3 + (i : Int))).length c9) (app d K P C 64 (3 + (i : Int))) r2 ps2 (i + 1) := ⟨hc10.row46 HI9.out (Kd.R_below HV.out.o HB9.out), hc10.row76 HI9.out (Kd.R_lower HV9.out HV.out.b.size), hi10, by rw [hf10, app_f0, HV.out.f], hbe, HV.out.hg, hre, by have := HV.out.n; omega⟩; obtain ⟨hr1, hr2, hCO⟩ := Kd.R_reads' hinv.o; obtain ⟨ad2, hao, j0, j1, j2, j3, j4⟩ := at_T46 hCO (i : Int) hi0 (by first | exact hlt | (rw [HOL.out]; exact hlt)); cases hao; rw [HRD.out] at j0 j1 j2 j3 j4; simp only [Int.toNat_natCast] at j0 j1 j2 j3 j4; clear k0 k1 k2 k3 k4 hr1 hr2 hCO hbe hre hi10 hf10 hn10 hc10; have HV10 := Aside0.mk hinv; clear hinv))
        go_roundw
        case rel => exact ⟨i + 1, _, r2, ps2, by go_num, by omega, ⟨A9, c9, rfl⟩, HRU2, HV10⟩
        case measure => simp [intOf]; omega
      · have c1 := decide_eq_false hlt
        obtain rfl : i = N := by omega
        obtain rfl : d = df := by
          have := HRU.out
          rw [List.drop_eq_nil_of_le (by rw [HOL.out]; exact Nat.le_refl _)] at this
          cases this
          rfl
        have hb255 : ∀ x ∈ xs.map (·.f0), 0 ≤ x ∧ x ≤ 255 := fun x hx => by
          rw [HX.out, elemsL_f0 _ _ HNt.out] at hx
          exact bytesOf_range _ _ (List.mem_of_mem_take hx)
        have hbs : bytesOf s = xs.map (·.f0) := by rw [HS.out]; exact bytesOf_strOfNums _ hb255
        have HW2 : Aside0 (strOfNums (d.map (·.f0)) = W) := ⟨by rw [HW.out, HDF.out, List.map_append, outE_f0, List.map_drop, hbs]⟩
        have hdl : d.length ≤ 1000 + 64 := by
          have h1 := outE_length xs p.size q L 64 3 (by rw [HXL.out]; exact HGP.out) L.length (Nat.le_refl _)
          have h2 : L.length * (p.size + q.size) = L.length * p.size + L.length * q.size := Nat.mul_add _ _ _
          have h3 := HNN.out
          have h4 := HXL.out
          have h5 := HN.out
          rw [HDF.out, List.length_append, List.length_drop]
          omega
        have HDL := Aside0.mk hdl
        obtain ⟨kt2, hkt2⟩ := text_pure d (by omega)
        rw [HW2.out] at hkt2
        obtain ⟨kk, hkk⟩ := kept_swap text n HN.out p.size HPS.out q HQS.out L 3 HGP.out (by rw [← HNN.out]; omega)
        rw [← HX.out, ← HDF.out] at hkk
        have hP2 : IntKind.i64.wrap ((p.size : Int) * (L.length : Int)) = (p.size : Int) * (L.length : Int) := by
          have h1 : p.size * L.length ≤ 64 * 1001 := Nat.mul_le_mul HPS.out hLl
          have h2 : (p.size : Int) * (L.length : Int) = ((p.size * L.length : Nat) : Int) := by rw [Int.natCast_mul]
          exact IntWalk.i64_in _ (by omega)
        have HKT2 := Aside0.mk hkt2
        have HKK := Aside0.mk hkk
        have hsn : (s.size : Int) = (n : Int) := by rw [HSZ.out]
        have HSN := Aside0.mk hsn
        clear hb255 hbs hdl hkt2 hkk hsn
        go_wp2_with (first
          | (go_at_call 20; refine (text_any wr g r' ps' HV.out.x (by rw [HV.out.f, List.length_map]; have := HDL.out; omega)).mono ?_; rintro e w11 ⟨rfl, hb11⟩; rw [HV.out.f, HW2.out]; have HB11 := Aside0.mk (below_then HV.out.b HV.out.b.size hb11); have HR11 := Aside0.mk (Kd.R_below HV.out.e hb11); clear hb11)
          | (go_at_call 16; obtain ⟨_, hcd, hCd⟩ := Kd.R_reads' HR11.out; refine (doc_Text.calls kt2 A c d W w11 hCd hcd HKT2.out).mono ?_; clear hcd hCd; rintro e w12 ⟨rfl, hb12⟩; have HB12 := Aside0.mk (below_then HB11.out HB11.out.size hb12); have HR12 := Aside0.mk (Kd.R_below HR11.out hb12); clear hb12)
          | (go_at_call 25; obtain ⟨_, hcd, hCd⟩ := Kd.R_reads' HR12.out; go_loud (refine (jotterlaw24_kept.calls kk A c d (s.size : Int) ((p.size : Int) * (L.length : Int)) true w12 hCd hcd (by rw [HSN.out]; exact HKK.out)).mono ?_; clear hcd hCd; rintro e w13 ⟨rfl, ⟨nd, rfl⟩⟩)))
        go_ret
        exact ⟨ret_bool (by simp), pw_below_drewN HB12.out nd⟩

theorem swaps_walk (text pattern filling : ByteArray) (w : World) (hpt : pattern.size ≤ 140737488351232) (hby : filling.size ≤ 140737488351232) :
    Calls Try.prog 5 #[.string text, .string pattern, .string filling] w (TrueAns w) := by
  by_cases h : 1 ≤ filling.size
  · exact swaps_some text pattern filling w hpt hby h
  · exact swaps_none text pattern filling w hpt hby (by omega)
end Go.Proofs.Ytfngcabckfmhnaa.B
