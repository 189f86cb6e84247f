/- The walk of search.Index.split: a piece cut in two. -/
import Derived.Test.YtfngcabckfmhnaaG1
import Derived.IntWalk
import Derived.Test.YtfngcabckfmhnaaF1
import Derived.Deep.RegionLawGrows
namespace Go.Proofs.Ytfngcabckfmhnaa.B
open Go.RowKit Go.Proofs.YtfngcabckfmhnaaW.PrintWords Go.Proofs.YtfngcabckfmhnaaW.PrintLast Go.Proofs.YtfngcabckfmhnaaW.PrintMore Go.Proofs.Ytfngcabckfmhnaa.PA
set_option linter.unusedVariables false
set_option linter.unusedSimpArgs false

def SplitAns (w : World) (g : Nat) (r : Option Nat) (ps : List (List Int)) (e : Ending) (w' : World) : Prop :=
  ∃ r', e = .returned (.tuple #[]) ∧ Idx w' g r' ps ∧ Chg w w' g r r'

set_option maxHeartbeats 16000000 in
set_option maxRecDepth 100000 in
theorem split_any (w : World) (g : Nat) (r : Option Nat) (ps : List (List Int)) (h : Idx w g r ps) (hK : ps.length ≤ 5800000000000) (i : Nat) (l : List Int) (hi : ps[i]? = some l) (hl : l.length ≤ 140737488351232) (hl1 : 1 ≤ l.length) :
    Calls Try.prog 43 #[.pointer (some ⟨g, 0, none⟩), .int .i64 (i : Int)] w (SplitAns w g r (ps.take i ++ [l.take (l.length / 2), l.drop (l.length / 2)] ++ ps.drop (i + 1))) := by
  obtain ⟨v, cs, h1, h2, h3, h4⟩ := h
  have hil := (List.getElem?_eq_some_iff.1 hi).1
  obtain ⟨b, cap, rfl, hb0, hbl⟩ := h2.form (by omega)
  obtain ⟨u, hu, B, d, rfl, hd, hC, hT⟩ := h4 i l hi
  obtain rfl : some b = r := h3
  have hcg : w.cell? ⟨g, 0, none⟩ = some (.slice (some ⟨b, 0, none⟩) ps.length cap) := (blk_cell h1 0).trans rfl
  have hfg : w.frozen? ⟨g, 0, none⟩ = false := blk_frozen h1 0
  have hci : w.cell? ⟨b, i, none⟩ = some (.slice B l.length d) := by have := h2.cells (g := b) rfl i _ hu; rwa [add_plain] at this
  have H1 := Aside0.mk h1
  have H2 := Aside0.mk h2
  have H4 := Aside0.mk h4
  have HI := Aside0.mk hi
  have HC := Aside0.mk hC
  have HT := Aside0.mk hT
  have hgs : g < w.heap.size := blk_lt h1
  have hnb : some g ≠ (Value.slice (some ⟨b, 0, none⟩) ps.length cap).ownBlock := own_ne h2 h1 (by decide)
  obtain ⟨i53, hi53, hz53, hz531, hz532⟩ := info_parts info53
  have HI53 := Aside0.mk (And.intro hi53 (And.intro hz53 (And.intro hz531 hz532)))
  have hi0 : (0 : Int) ≤ (i : Int) := by omega
  have hi1 : (i : Int) < (ps.length : Int) := by omega
  have hk1 : (ps.length : Int) ≤ 5800000000000 := by omega
  have hll : (l.length : Int) ≤ 140737488351232 := by omega
  clear h1 h2 h4 hi hC hT hi53 hz53 hz531 hz532 hu
  go_enter Try.func43, Try.ntmps43
  go_wp2_with (at_builtin; go_loud (refine wpList_append_lies _ rfl (.tmp 20) (.tmp 21) 80 rfl 0 53 i53 _ 1 24 Try.underlying80 HI53.out.1 HI53.out.2.1 HI53.out.2.2.1 HI53.out.2.2.2 rfl (by omega) (.slice (some ⟨b, 0, none⟩) ps.length cap) ps.length cs rfl (H2.out.alloc _) ⟨w.heap.size, 0, none⟩ 1 1 [.slice none 0 0] rfl rfl (World.news_of_block (cs := #[.slice none 0 0]) (t := 53) (fr := (0, 0)) (heap_alloc_new w _)) (by simp [Value.oneCell']) (by omega) (by unfold maxLen; omega) (by omega) (Nat.zero_le _) (w.heap.size + 1) (by simp) ?_; intro gg cap2 w2 hown2 hgrow hat hlt2; have hcv2 := (hgrow.cell_far ⟨g, 0, none⟩ (by simp; omega) hnb); have hfv2 := (hgrow.frozen_far ⟨g, 0, none⟩ (by simp; omega) hnb)))
  have hcsl : cs.length = ps.length := by have := H2.out.1; omega
  obtain ⟨cur, hcur, hncap, hmx, hcsz, htk⟩ : ∃ cur : Array Value, w2.heap[gg]? = some (.cells cur 53 (0, 0)) ∧ ps.length + 1 ≤ cap2 ∧ cap2 ≤ 9223372036854775807 ∧ cur.toList.length = cap2 ∧ cur.toList.take (ps.length + 1) = cs ++ [.slice none 0 0] := by
    rcases hown2.2 with ⟨e, _⟩ | ⟨g', cap', cur, e, _, q1, q2, q3, q4, q5⟩
    · cases e
    · injection e with e1 e2 e3
      injection e1 with e1
      injection e1 with e1
      subst e1
      subst e3
      exact ⟨cur, q1, q2, by unfold maxLen at q3; exact q3, by simp [q4], by rwa [Nat.mul_one] at q5⟩
  have hgg : gg ≠ g := fun e => by
    subst e
    have h5 : w2.heap[gg]? = some (.cells #[.slice (some ⟨b, 0, none⟩) ps.length cap, .int .i64 ((fl ps).length : Int)] 82 (0, 0)) := blk_grown (by rw [Below.heap_alloc _ _ _ hgs]; exact H1.out) hgrow hnb
    rw [hcur] at h5
    injection h5 with h5
    injection h5 with _ h5
    cases h5
  obtain ⟨C, hC⟩ : ∃ C : List Value, C = cur.toList := ⟨_, rfl⟩
  have hcur' : w2.heap[gg]? = some (.cells C.toArray 53 (0, 0)) := by rw [hC]; exact hcur
  rw [← hC] at hcsz htk
  have HCU := Aside0.mk hcur'
  have HTK := Aside0.mk htk
  have HCL := Aside0.mk hcsz
  have HCS := Aside0.mk hcsl
  have HMx := Aside0.mk hmx
  clear hmx
  have HG2 : Aside0 (w2.heap[g]? = some (.cells #[.slice (some ⟨b, 0, none⟩) ps.length cap, .int .i64 ((fl ps).length : Int)] 82 (0, 0))) := ⟨blk_grown (by rw [Below.heap_alloc _ _ _ hgs]; exact H1.out) hgrow hnb⟩
  have HChg : Aside0 (Chg w w2 g (some b) (some gg)) := ⟨((Chg.refl w g (some b)).trans (Chg.of_below (below_alloc (Below.refl _ _) _) g (some b))).grown hgrow (by
    rcases hat with e | e
    · exact .inl (by have e' : some b = some gg := e; rw [e'])
    · exact .inr ⟨gg, rfl, by simp; omega⟩)⟩
  clear hcur hcur' hC htk hcsz hcsl hgrow hat
  generalize hw3 : w2.setCell ⟨g, 0, none⟩ (.slice (some ⟨gg, 0, none⟩) (ps.length + 1) cap2) = w3
  have HG3 : Aside0 (w3.heap[g]? = some (.cells #[.slice (some ⟨gg, 0, none⟩) (ps.length + 1) cap2, .int .i64 ((fl ps).length : Int)] 82 (0, 0))) := ⟨by rw [← hw3, blk_set HG2.out]; rfl⟩
  have HCU3 : Aside0 (w3.heap[gg]? = some (.cells C.toArray 53 (0, 0))) := ⟨by rw [← hw3, Below.heap_setCell _ _ _ _ (by exact hgg)]; exact HCU.out⟩
  have HChg3 : Aside0 (Chg w w3 g (some b) (some gg)) := ⟨by rw [← hw3]; exact HChg.out.set _ _ (.inl rfl)⟩
  have hcg3 : w3.cell? ⟨g, 0, none⟩ = some (.slice (some ⟨gg, 0, none⟩) (ps.length + 1) cap2) := (blk_cell HG3.out 0).trans rfl
  clear hw3 HG2 HCU HChg hown2 hlt2 hcv2 hfv2
  have hw1 : IntKind.i64.wrap ((i : Int) + 2) = (i : Int) + 2 := IntWalk.i64_in _ (by omega)
  have hw2 : IntKind.i64.wrap ((i : Int) + 1) = (i : Int) + 1 := IntWalk.i64_in _ (by omega)
  have HW1 := Aside0.mk hw1
  have HW2 := Aside0.mk hw2
  clear hw1 hw2
  have hd1 : (0 : Int) ≤ (i : Int) + 2 := by omega
  have hd1' : (0 : Int) ≤ (i : Int) + 1 := by omega
  have hd2 : (i : Int) + 2 ≤ (ps.length : Int) + 1 := by omega
  have hd3 : (i : Int) + 1 ≤ (ps.length : Int) + 1 := by omega
  have hd4 : ((i : Int) + 2).toNat = i + 2 := by omega
  have hd5 : ((i : Int) + 1).toNat = i + 1 := by omega
  have hd6 : ¬ cap2 = i + 1 := by omega
  have hd7 : (ps.length : Int) + 1 ≤ (cap2 : Int) := by omega
  have HNm : Aside0 ((cs.drop (i + 1)).length = Nat.min (ps.length - i) (ps.length - (i + 1))) := ⟨by rw [List.length_drop, HCS.out]; exact (Nat.min_eq_right (by omega)).symm⟩
  have HCg : Aside0 (∀ (j : Nat) (x : Value), cs[j]? = some x → C[j]? = some x) := ⟨fun j x hj => by
    have := congrArg (fun (l : List Value) => l[j]?) HTK.out
    have hjl := (List.getElem?_eq_some_iff.1 hj).1
    simp only [List.getElem?_take, List.getElem?_append, hjl, if_true] at this
    rw [if_pos (by have := HCS.out; omega)] at this
    rw [this, hj]⟩
  have HPs : Aside0 (0 < (cs.drop (i + 1)).length → (if cap2 = i + 2 then some (⟨gg, 0, none⟩ : Addr) else some ⟨gg, i + 2, none⟩) = some ⟨gg, i + 2, none⟩ ∧ ∃ ad, some (⟨gg, i + 1, none⟩ : Addr) = some ad ∧ ∀ (j : Nat) (v : Value), (cs.drop (i + 1))[j]? = some v → w3.drew.cell? (ad.add j) = some v) := ⟨fun hp => by
    rw [List.length_drop, HCS.out] at hp
    refine ⟨if_neg (by omega), _, rfl, fun j x hj => ?_⟩
    rw [List.getElem?_drop] at hj
    rw [add_off]
    exact (blk_cell HCU3.out (i + 1 + j)).trans (by simpa using HCg.out _ _ hj)⟩
  have HFt : Aside0 (i + 2 + (cs.drop (i + 1)).length ≤ C.length) := ⟨by rw [List.length_drop, HCS.out, HCL.out]; omega⟩
  have HOne : Aside0 (∀ x ∈ cs.drop (i + 1), x.oneCell' = true) := ⟨fun x hx => by
    obtain ⟨j, hj, rfl⟩ := List.mem_iff_getElem.1 (List.mem_of_mem_drop hx)
    obtain ⟨u, hu, A', c', rfl, _⟩ := H4.out j _ (List.getElem?_eq_getElem (by have := HCS.out; omega))
    rw [List.getElem?_eq_getElem hj] at hu
    rw [Option.some.inj hu]
    rfl⟩
  have hw1 := HW1.out
  have hw2 := HW2.out
  have hgg' : some g ≠ some gg := fun e => hgg (by injection e with e; exact e.symm)
  go_region_held3 (fun w' => w'.cell? ⟨g, 0, none⟩ = some (.slice (some ⟨gg, 0, none⟩) (ps.length + 1) cap2)) (go_keep) ((go_loud (refine step_copy_in (by rfl) (.tmp 31) (.tmp 38) 80 80 (by rfl) 53 Try.underlying80 (by kernel_rfl) _ _ (ps.length - (i + 1)) (cap2 - (i + 2)) (ps.length - i) (cap2 - (i + 1)) (by rfl) (by rfl) gg (i + 2) C 53 HCU3.out (cs.drop (i + 1)) HNm.out HPs.out HFt.out HOne.out ?_; intro w4 hb4 hg4; have hcg4 : w4.cell? ⟨g, 0, none⟩ = some (.slice (some ⟨gg, 0, none⟩) (ps.length + 1) cap2) := (hg4.cell_far ⟨g, 0, none⟩ (blk_lt HG3.out) hgg').trans hcg3)))
  all_goals
    clear hw1 hw2
    generalize (if cap2 = i + 2 then some (⟨gg, 0, none⟩ : Addr) else some ⟨gg, i + 2, none⟩) = A31
    have HG4 : Aside0 (w4.heap[g]? = some (.cells #[.slice (some ⟨gg, 0, none⟩) (ps.length + 1) cap2, .int .i64 ((fl ps).length : Int)] 82 (0, 0))) := ⟨blk_grown (blk_drew HG3.out) hg4 hgg'⟩
    have HB4 := Aside0.mk hb4
    have HChg4 : Aside0 (Chg w w4 g (some b) (some gg)) := ⟨(HChg3.out.drewN 1).grown hg4 (.inl rfl)⟩
    obtain ⟨D, hD⟩ : ∃ D : List Value, D = splice C (i + 2) (cs.drop (i + 1)) := ⟨_, rfl⟩
    rw [← hD] at hb4 HB4
    have HDl : Aside0 (D.length = cap2) := ⟨by rw [hD, length_splice _ _ _ HFt.out, HCL.out]⟩
    have HDD := Aside0.mk hD
    obtain ⟨x1, hx1⟩ : ∃ x1, D[i]? = some x1 := ⟨_, List.getElem?_eq_getElem (by have := HDl.out; omega)⟩
    obtain ⟨x2, hx2⟩ : ∃ x2, D[i + 1]? = some x2 := ⟨_, List.getElem?_eq_getElem (by have := HDl.out; omega)⟩
    have hcx1 : w4.cell? ⟨gg, i, none⟩ = some x1 := (blk_cell hb4 i).trans (by simpa using hx1)
    have hcx2 : w4.cell? ⟨gg, i + 1, none⟩ = some x2 := (blk_cell hb4 (i + 1)).trans (by simpa using hx2)
    have hfx1 : w4.frozen? ⟨gg, i, none⟩ = false := blk_frozen hb4 i
    have hfx2 : w4.frozen? ⟨gg, i + 1, none⟩ = false := blk_frozen hb4 (i + 1)
    have hgs4 : g < w4.heap.size := blk_lt HG4.out
    have hggs4 : gg < w4.heap.size := blk_lt hb4
    clear hb4 hg4 hx1 hx2 hD hcg3
    have hi53 := HI53.out.1
    obtain ⟨i5, hi5, _, hz51, _⟩ := info_parts info5
    have kc3 := cut_hm (P := Try.prog) 53 5 .i64 .i64 Try.underlying53 hi5 B l.length d ((l.length : Int) / 2) (by omega) (by omega)
    have kc4 := cut_from (P := Try.prog) 53 5 .i64 Try.underlying53 hi5 1 hz51 B l.length d ((l.length : Int) / 2) (by omega) (by omega)
    rw [show ((l.length : Int) / 2).toNat = l.length / 2 by omega] at kc3 kc4
    obtain ⟨B2, hB2⟩ : ∃ B2, B2 = (if d = l.length / 2 then B else B.map (·.add (l.length / 2 * 1))) := ⟨_, rfl⟩
    rw [← hB2] at kc4
    have hbl4 : Below w.heap.size w w := Below.refl _ _
    have HP4 : Aside0 (∀ (u : Value) (m : List Int), Pc w u m → Pc w4 u m) := ⟨fun u m hp => hp.keep fun k c hk => HChg4.out.block k (blk_lt hk) (fun e => by subst e; rw [H1.out] at hk; injection hk with hk; injection hk with _ hk; cases hk) (own_ne H2.out hk (by decide))⟩
    have HPl : Aside0 (Pc w4 (.slice B l.length d) l) := ⟨HP4.out _ _ ⟨B, d, rfl, hd, HC.out, HT.out⟩⟩
    have HD2 : Aside0 (Kd.C (Kd.int .u8) w4 B2 (l.length - l.length / 2) (l.drop (l.length / 2))) := ⟨by
      obtain ⟨A', c', e, hcc, hC', _⟩ := HPl.out
      injection e with e1 e2 e3
      subst e1
      have := Kd.C_drop hC' (m := l.length / 2) (c := d) (by omega) hd
      rw [List.length_drop] at this
      rw [hB2]
      exact this⟩
    clear hB2 hi5 hz51 hi53 hbl4
    go_wp2
    have hd8 : (i : Int) < (ps.length : Int) + 1 := by omega
    have hd9 : (i : Int) + 1 < (ps.length : Int) + 1 := by omega
    have hw2 := HW2.out
    go_region_held3 (fun w' => w'.cell? ⟨g, 0, none⟩ = some (.slice (some ⟨gg, 0, none⟩) (ps.length + 1) cap2)) (go_keep) ((go_loud (refine Kd.R_append_rows_step (Kd.int .u8) (w0 := w4) w4.heap.size (by rfl) (.const (.slice none 0 0)) (.tmp 57) 53 5 (.int .u8 0) 1 rfl Try.underlying53 info5 rfl (by decide) (by omega) (.slice none 0 0) [] (l.drop (l.length / 2)) B2 (l.length - l.length / 2) (d - l.length / 2) (fun _ => True) (fun _ => False) (by rfl) (by rfl) (Kd.R_nil _ _ _ _ _) (Kd.C_drew HD2.out) (fun _ _ h => h) (fun _ h => h.elim) (fun _ _ => trivial) ((Below.refl _ _).drew) (Nat.le_refl _) (by simp; omega) ?_; intro v5 w5 ho hb hg hat; rw [List.nil_append] at ho; obtain ⟨A5, c5, rfl⟩ := Kd.R_slice ho; rw [List.length_drop] at ho ⊢; have HO5 := Aside0.mk ho; have HB5 := Aside0.mk hb; clear ho hg hat; have y1 := hb.cell (p := ⟨g, 0, none⟩) hgs4; have y2 := hb.cell (p := ⟨gg, i, none⟩) hggs4; have y3 := hb.cell (p := ⟨gg, i + 1, none⟩) hggs4; have y4 := hb.frozen (p := ⟨gg, i, none⟩) hggs4; have y5 := hb.frozen (p := ⟨gg, i + 1, none⟩) hggs4)))
    all_goals clear hw2
    all_goals
      go_end0
      have k5 : w5.heap[gg]? = some (.cells D.toArray 53 (0, 0)) := blk_below HB4.out HB5.out
      have kg : w5.heap[g]? = some (.cells #[.slice (some ⟨gg, 0, none⟩) (ps.length + 1) cap2, .int .i64 ((fl ps).length : Int)] 82 (0, 0)) := blk_below HG4.out HB5.out
      have kc : ∀ (u1 u2 : Value), Chg w ((w5.setCell ⟨gg, i, none⟩ u1).setCell ⟨gg, i + 1, none⟩ u2) g (some b) (some gg) := fun u1 u2 => ((HChg4.out.trans (Chg.of_below HB5.out g (some gg))).set _ _ (.inr rfl)).set _ _ (.inr rfl)
      have kp : ∀ (u1 u2 u : Value) (m : List Int), Pc w5 u m → Pc ((w5.setCell ⟨gg, i, none⟩ u1).setCell ⟨gg, i + 1, none⟩ u2) u m := fun u1 u2 u m hp => hp.keep fun k c hk => by
        have hne : k ≠ gg := fun e => by subst e; rw [k5] at hk; injection hk with hk; injection hk with _ hk; cases hk
        rw [Below.heap_setCell _ _ _ _ hne, Below.heap_setCell _ _ _ _ hne]
      refine ⟨some gg, rfl, Idx_of (n := ps.length + 1) (cap := cap2) (D := (D.set i (.slice B (l.length / 2) (l.length / 2))).set (i + 1) (.slice A5 (l.length - l.length / 2) c5)) ?_ ?_ (by rw [List.length_set, List.length_set]; exact HDl.out) hncap HMx.out ?_ ?_, kc _ _⟩
      · rw [fl_split HI.out, Below.heap_setCell _ _ _ _ (Ne.symm hgg), Below.heap_setCell _ _ _ _ (Ne.symm hgg)]
        exact kg
      · have := blk_set (blk_set k5 i (.slice B (l.length / 2) (l.length / 2))) (i + 1) (.slice A5 (l.length - l.length / 2) c5)
        simpa using this
      · simp; omega
      · intro j m hm
        rw [split_pieces hil] at hm
        have hj : j < ps.length + 1 := by
          rcases Nat.lt_or_ge j (ps.length + 1) with h | h
          · exact h
          · rw [if_neg (by omega), if_neg (by omega), if_neg (by omega), List.getElem?_eq_none (by omega)] at hm
            cases hm
        rw [HDD.out, split_cells HCS.out HCg.out (by have := HCL.out; omega) hil j hj]
        by_cases h1 : j < i
        · rw [if_pos h1] at hm ⊢
          obtain ⟨u, hu, hp⟩ := H4.out j m hm
          exact ⟨u, hu, kp _ _ _ _ ((HP4.out _ _ hp).below HB5.out)⟩
        · rw [if_neg h1] at hm ⊢
          by_cases h2 : j = i
          · rw [if_pos h2] at hm ⊢
            obtain rfl := Option.some.inj hm
            exact ⟨_, rfl, kp _ _ _ _ ((Pc_take HPl.out (by omega) (Nat.le_refl _)).below HB5.out)⟩
          · rw [if_neg h2] at hm ⊢
            by_cases h3 : j = i + 1
            · rw [if_pos h3] at hm ⊢
              obtain rfl := Option.some.inj hm
              exact ⟨_, rfl, kp _ _ _ _ (Pc_of_R HO5.out)⟩
            · rw [if_neg h3] at hm ⊢
              obtain ⟨u, hu, hp⟩ := H4.out (j - 1) m hm
              exact ⟨u, hu, kp _ _ _ _ ((HP4.out _ _ hp).below HB5.out)⟩
end Go.Proofs.Ytfngcabckfmhnaa.B
/- The walk of search.Index.Apply: an insertion. -/
namespace Go.Proofs.Ytfngcabckfmhnaa.B
open Go.RowKit Go.Proofs.YtfngcabckfmhnaaW.PrintWords Go.Proofs.YtfngcabckfmhnaaW.PrintLast Go.Proofs.YtfngcabckfmhnaaW.PrintMore Go.Proofs.Ytfngcabckfmhnaa.PA
set_option linter.unusedVariables false
set_option linter.unusedSimpArgs false

def IApplyAns (w : World) (g : Nat) (r : Option Nat) (ps : List (List Int)) (t : List Int) (e : Ending) (w' : World) : Prop :=
  ∃ r' ps', e = .returned (.int .i64 0) ∧ Idx w' g r' ps' ∧ fl ps' = t ∧ ps'.length ≤ ps.length + 1 ∧ Chg w w' g r r'

theorem fl_set {ps : List (List Int)} {i : Nat} {l m : List Int} (h : ps[i]? = some l) : fl (ps.set i m) = fl (ps.take i) ++ m ++ fl (ps.drop (i + 1)) := by
  have hi := (List.getElem?_eq_some_iff.1 h).1
  unfold fl
  rw [List.set_eq_take_append_cons_drop, if_pos hi, List.flatten_append, List.flatten_cons, List.append_assoc]
theorem fl_parts {ps : List (List Int)} {i : Nat} {l : List Int} (h : ps[i]? = some l) : fl ps = fl (ps.take i) ++ l ++ fl (ps.drop (i + 1)) := by
  obtain ⟨hi, hv⟩ := List.getElem?_eq_some_iff.1 h
  have e : ps = ps.take i ++ l :: ps.drop (i + 1) := by rw [← hv, ← List.drop_eq_getElem_cons hi, List.take_append_drop]
  unfold fl
  conv => lhs; rw [e]
  rw [List.flatten_append, List.flatten_cons, List.append_assoc]
theorem fl_ins {ps : List (List Int)} {i q p : Nat} {l : List Int} {c : Int} (h : ps[i]? = some l) (hq : q ≤ l.length) (hp : (fl (ps.take i)).length + q = p) :
    fl (ps.set i (l.take q ++ [c] ++ l.drop q)) = (fl ps).take p ++ [c] ++ (fl ps).drop p := by
  rw [fl_set h, fl_parts h, ← hp]
  have e1 : ((fl (ps.take i) ++ l ++ fl (ps.drop (i + 1))).take ((fl (ps.take i)).length + q)) = fl (ps.take i) ++ l.take q := by
    rw [List.append_assoc, List.take_append, List.take_of_length_le (by omega), Nat.add_sub_cancel_left, List.take_append_of_le_length hq]
  have e2 : ((fl (ps.take i) ++ l ++ fl (ps.drop (i + 1))).drop ((fl (ps.take i)).length + q)) = l.drop q ++ fl (ps.drop (i + 1)) := by
    rw [List.append_assoc, List.drop_append, List.drop_of_length_le (by omega), Nat.add_sub_cancel_left, List.nil_append, List.drop_append_of_le_length hq]
  rw [e1, e2]
  simp only [List.append_assoc]

set_option maxHeartbeats 16000000 in
set_option maxRecDepth 100000 in
theorem ins_some (w : World) (g : Nat) (r : Option Nat) (ps : List (List Int)) (h : Idx w g r ps) (hK : ps.length ≤ 5700000000000) (hne : 0 < ps.length) (p : Nat) (c cl s : Int) (hc : 0 ≤ c ∧ c ≤ 255) (he : fit (fl ps).length 1 p c cl s = 0) :
    Calls Try.prog 23 #[.pointer (some ⟨g, 0, none⟩), .agg #[.int .i64 1, .int .i64 p, .int .u8 c, .int .i64 cl, .int .i64 s]] w (IApplyAns w g r ps ((fl ps).take p ++ [c] ++ (fl ps).drop p)) := by
  have HF : Aside0 (doc_Fits.f 2 (fl ps).length 1 p c cl s = some 0) := ⟨by rw [fits_pure _ _ _ _ _ _ hc, he]⟩
  obtain ⟨-, -, -, hn, -, hp, -⟩ := fit_zero he
  obtain ⟨-, -, hpn, hn4⟩ := hp rfl
  have HI := Aside0.mk h
  have HPN : Aside0 (p ≤ (fl ps).length ∧ (fl ps).length < 4096) := ⟨by omega⟩
  have HK := Aside0.mk hK
  have HNE := Aside0.mk hne
  obtain ⟨v, cs, h1, h2, h3, h4⟩ := h
  obtain ⟨b, cap, rfl, hb0, hbl⟩ := h2.form hne
  obtain rfl : some b = r := h3
  have hcg0 : w.cell? ⟨g, 0, none⟩ = some (.slice (some ⟨b, 0, none⟩) ps.length cap) := (blk_cell h1 0).trans rfl
  have hcg1 : w.cell? ⟨g, 1, none⟩ = some (.int .i64 ((fl ps).length : Int)) := (blk_cell h1 1).trans rfl
  have hgs : g < w.heap.size := blk_lt h1
  have cz : ((ps.length : Int) == 0) = false := beq_eq_false_iff_ne.mpr (by omega)
  have H1 := Aside0.mk h1
  have H2 := Aside0.mk h2
  have H4 := Aside0.mk h4
  have hpb : (p : Int) < 4096 := by omega
  clear h1 h2 h4 hn hp hpn hn4 he hne hK hc
  go_enter Try.func23, Try.ntmps23
  go_wp2
  go_region_held3 (fun w' => w'.cell? ⟨g, 1, none⟩ = some (.int .i64 ((fl ps).length : Int)) ∧ w'.cell? ⟨w.heap.size, 0, none⟩ = some (.int .i64 1) ∧ w'.cell? ⟨w.heap.size, 1, none⟩ = some (.int .i64 p) ∧ w'.cell? ⟨w.heap.size, 2, none⟩ = some (.int .u8 c) ∧ w'.cell? ⟨w.heap.size, 3, none⟩ = some (.int .i64 cl) ∧ w'.cell? ⟨w.heap.size, 4, none⟩ = some (.int .i64 s)) (go_keep) ((go_at_call 41; refine (doc_Fits.calls 2 (fl ps).length 1 p c cl s 0 _ HF.out).mono ?_; rintro e w1 ⟨rfl, hb1⟩; have BX : Aside0 (w1.heap[w.heap.size]? = some (.cells #[.int .i64 1, .int .i64 p, .int .u8 c, .int .i64 cl, .int .i64 s] 46 (0, 0))) := ⟨blk_below (blk_drew (heap_alloc_new w _)) hb1⟩; have hbw : Below w.heap.size w w1 := below_then (((Below.refl _ _).alloc (Nat.le_refl _) _).drew) (by simp) hb1; have HB1 := Aside0.mk hbw; have g0 := pw_cell_below hbw hcg0; have g1 := pw_cell_below hbw hcg1; have x0 : w1.cell? ⟨w.heap.size, 0, none⟩ = some (.int .i64 1) := (blk_cell BX.out 0).trans rfl; have x1 : w1.cell? ⟨w.heap.size, 1, none⟩ = some (.int .i64 p) := (blk_cell BX.out 1).trans rfl; have x2 : w1.cell? ⟨w.heap.size, 2, none⟩ = some (.int .u8 c) := (blk_cell BX.out 2).trans rfl; have x3 : w1.cell? ⟨w.heap.size, 3, none⟩ = some (.int .i64 cl) := (blk_cell BX.out 3).trans rfl; have x4 : w1.cell? ⟨w.heap.size, 4, none⟩ = some (.int .i64 s) := (blk_cell BX.out 4).trans rfl; clear hb1 hbw))
  go_wp2_with (go_at_call 42; go_loud (refine (spot_any w1 g (some b) ps (HI.out.below HB1.out) (by have := HPN.out; omega) HNE.out p HPN.out.1).mono ?_; rintro e w2 ⟨i, q, l, rfl, hil, hql, hpq, _, rfl⟩; obtain ⟨u, hu, B, d, rfl, hd, hC, hT⟩ := H4.out i l hil; have hi' := (List.getElem?_eq_some_iff.1 hil).1; have hi0 : (0 : Int) ≤ (i : Int) := (by omega); have hi1 : (i : Int) < (ps.length : Int) := (by omega); have hci : w2.cell? ⟨b, i, none⟩ = some (.slice B l.length d) := pw_cell_below HB1.out (by have := H2.out.cells (g := b) rfl i _ hu; rwa [add_plain] at this); have HIL := Aside0.mk hil; have HQ := Aside0.mk hpq; have HC := Aside0.mk (Kd.C_below hC HB1.out); have HT := Aside0.mk hT; have HD := Aside0.mk hd; have HQL := Aside0.mk hql; clear hil hpq hC hT hu hi' hd hql))
  have hq0 : (0 : Int) ≤ (q : Int) := by omega
  have hq1 : (q : Int) ≤ (l.length : Int) := by have := HQL.out; omega
  have hd1 : (l.length : Int) ≤ (d : Int) := by have := HD.out; omega
  have hll : l.length ≤ 4096 := by have := fl_step HIL.out; have := HPN.out; omega
  obtain ⟨i5, hi5, hz5, hz51, hz52⟩ := info_parts info5
  have kc3 := cut_hm (P := Try.prog) 53 5 .i64 .i64 Try.underlying53 hi5 B l.length d (q : Int) (by omega) (by omega)
  have kc4 := cut_from (P := Try.prog) 53 5 .i64 Try.underlying53 hi5 1 hz51 B l.length d (q : Int) (by omega) (by omega)
  rw [Int.toNat_natCast] at kc3 kc4
  obtain ⟨B2, hB2⟩ : ∃ B2, B2 = (if d = q then B else B.map (·.add (q * 1))) := ⟨_, rfl⟩
  rw [← hB2] at kc4
  have HD2 : Aside0 (Kd.C (Kd.int .u8) w2 B2 (l.length - q) (l.drop q)) := ⟨by
    have := Kd.C_drop HC.out (m := q) (c := d) HQL.out HD.out
    rw [List.length_drop] at this
    rw [hB2]
    exact this⟩
  have HCT : Aside0 (Kd.C (Kd.int .u8) w2 B q (l.take q)) := ⟨by have := Kd.C_take HC.out (m := q) HQL.out; rwa [List.length_take, Nat.min_eq_left HQL.out] at this⟩
  have HI5 := Aside0.mk (And.intro hi5 (And.intro hz5 (And.intro hz51 hz52)))
  clear hB2 hi5 hz5 hz51 hz52
  have HNo : Aside0 (B = none → q = 0 ∧ q = 0) := ⟨fun e => by
    rcases Nat.eq_zero_or_pos q with h | h
    · exact ⟨h, h⟩
    · obtain ⟨ad, e2, _⟩ := HCT.out.2.2 h
      rw [e] at e2; cases e2⟩
  have HLo : Aside0 ((nums .u8 (l.take q)).length = q * 1) := ⟨by rw [nums_length, List.length_take]; omega⟩
  have HHo : Aside0 (∀ (W : World), Below w2.heap.size w2 W → ∀ a, B = some a → ∀ (j : Nat) (u : Value), (nums .u8 (l.take q))[j]? = some u → W.cell? (a.add j) = some u) := ⟨fun W hW a ha j u hj => by
    have hj' : j < (l.take q).length := by have := (List.getElem?_eq_some_iff.1 hj).1; rwa [nums_length] at this
    have hl : (l.take q).length = q := by rw [List.length_take]; omega
    obtain ⟨ad, e, hc⟩ := Kd.at_int HCT.out (j : Int) (by omega) (by omega)
    rw [ha] at e
    injection e with e
    subst e
    rw [Int.toNat_natCast] at hc
    have hx : (nums .u8 (l.take q))[j]? = some (.int .u8 (rd (l.take q) (j : Int))) := by
      unfold nums rd
      rw [List.getElem?_map, List.getElem?_eq_getElem hj', List.getD_eq_getElem?_getD, Int.toNat_natCast, List.getElem?_eq_getElem hj']
      rfl
    rw [hx] at hj
    rw [← Option.some.inj hj]
    exact pw_cell_below hW hc⟩
  obtain ⟨l', hl'⟩ : ∃ l', l' = l.take q ++ [c] ++ l.drop q := ⟨_, rfl⟩
  have HL' := Aside0.mk hl'
  have HLl : Aside0 (l'.length = l.length + 1) := ⟨by rw [hl', List.length_append, List.length_append, List.length_take, List.length_drop]; simp; omega⟩
  have hbs : b < w2.heap.size := Nat.lt_of_lt_of_le hbl HB1.out.size
  have hfi : w2.frozen? ⟨b, i, none⟩ = false := by
    rcases H2.out.2 with ⟨e, _⟩ | ⟨b', cap', cur, e, _, q1, _⟩
    · cases e
    · injection e with e1
      injection e1 with e1
      injection e1 with e1
      subst e1
      exact blk_frozen (blk_below q1 HB1.out) i
  have hw8 : w.heap.size < w2.heap.size := blk_lt BX.out
  have hgs2 : g < w2.heap.size := by omega
  have HTl : Aside0 ((l.take q ++ [c]).length = q + 1) := ⟨by rw [List.length_append, List.length_take, Nat.min_eq_left HQL.out]; rfl⟩
  have HEn : Aside0 (nums .u8 (l.take q) ++ [Value.int .u8 c] = encs (Value.int .u8) (l.take q ++ [c])) := ⟨by simp [nums, encs]⟩
  have hbw : b ≠ w.heap.size := by omega
  have hgb : b ≠ g := fun e => own_ne H2.out H1.out (by decide) (by rw [← e]; rfl)
  clear hl'
  go_region_held3 (fun w' => w'.cell? ⟨g, 0, none⟩ = some (.slice (some ⟨b, 0, none⟩) ps.length cap) ∧ w'.cell? ⟨w.heap.size, 2, none⟩ = some (.int .u8 c)) (go_keep) ((first
    | (refine step_append_grows (by rfl) (.tmp 54) (.tmp 57) 53 (by rfl) 5 i5 (.int .u8 0) 1 1 Try.underlying53 HI5.out.1 HI5.out.2.1 HI5.out.2.2.1 HI5.out.2.2.2 rfl (by omega) B q q (nums .u8 (l.take q)) (by rfl) HNo.out HLo.out (HHo.out _ (((Below.refl _ _).alloc (Nat.le_refl _) _).drew)) ⟨w2.heap.size, 0, none⟩ 1 1 [.int .u8 c] (by rfl) (by rfl) (World.news_of_block (cs := #[.int .u8 c]) (t := 5) (fr := (0, 0)) (heap_alloc_new w2 _)) (by simp [Value.oneCell']) (by omega) (by unfold maxLen; omega) (by omega) ?_; intro v3 w3 hown3 hg3; have hb3 : Below w2.heap.size w2 w3 := (((Below.refl _ _).alloc (Nat.le_refl _) _).drew).grown hg3 (by simp) (fun k e => by cases e); have HB3 := Aside0.mk hb3; have HO3 : Aside0 (Kd.R (Kd.int .u8) 5 w3 w2.heap.size (fun _ => True) v3 (l.take q ++ [c])) := ⟨Kd.R_of_own (enc := Value.int .u8) (h1 := fun _ => rfl) (by have := own_weaken hown3 (base' := w2.heap.size) (by simp); rw [HEn.out, ← HTl.out] at this; exact this) (fun _ _ => trivial)⟩; have g03 := pw_cell_below hb3 g0; have x23 := pw_cell_below hb3 x2; clear hown3 hg3 hb3)
    | (refine Kd.R_append_rows_step (Kd.int .u8) (w0 := w2) w2.heap.size (by rfl) (.tmp 58) (.tmp 61) 53 5 (.int .u8 0) 1 rfl Try.underlying53 info5 rfl (by decide) (by omega) v3 (l.take q ++ [c]) (l.drop q) B2 (l.length - q) (d - q) (fun _ => True) (fun _ => False) (by rfl) (by rfl) HO3.out (Kd.C_below HD2.out HB3.out) (fun _ _ h => h) (fun _ h => h.elim) (fun _ _ => trivial) HB3.out HB3.out.size (by rw [List.length_append, List.length_take]; simp; omega) ?_; intro v4 w4 ho hb hg hat; rw [← HL'.out] at ho; obtain ⟨A4, c4, rfl⟩ := Kd.R_slice ho; have HO4 := Aside0.mk ho; have HB4 := Aside0.mk hb; have g04 := pw_cell_below hb g0; have x24 := pw_cell_below hb x2; have hci4 := pw_cell_below hb hci; have hfi4 := (hb.frozen (p := ⟨b, i, none⟩) hbs).trans hfi; clear ho hb hg hat)))
  have HFl : Aside0 (fl (ps.set i l') = (fl ps).take p ++ [c] ++ (fl ps).drop p) := ⟨by rw [HL'.out]; exact fl_ins HIL.out HQL.out HQ.out⟩
  have HFn : Aside0 ((fl (ps.set i l')).length = (fl ps).length + 1) := ⟨by rw [HFl.out, List.length_append, List.length_append, List.length_take, List.length_drop]; have := HPN.out; simp; omega⟩
  have hnn : ((fl ps).length : Int) < 4096 := by have := HPN.out; omega
  have HW4 : Aside0 (Below w.heap.size w w4) := ⟨below_then HB1.out HB1.out.size HB4.out⟩
  have HG4 : Aside0 (w4.heap[g]? = some (.cells #[.slice (some ⟨b, 0, none⟩) ps.length cap, .int .i64 ((fl ps).length : Int)] 82 (0, 0))) := ⟨blk_below H1.out HW4.out⟩
  generalize hw5 : w4.setCell ⟨b, i, none⟩ (.slice A4 l'.length c4) = w5
  have HG5 : Aside0 (w5.heap[g]? = some (.cells #[.slice (some ⟨b, 0, none⟩) ps.length cap, .int .i64 ((fl ps).length : Int)] 82 (0, 0))) := ⟨by rw [← hw5, Below.heap_setCell _ _ _ _ (Ne.symm hgb)]; exact HG4.out⟩
  have g05 : w5.cell? ⟨g, 0, none⟩ = some (.slice (some ⟨b, 0, none⟩) ps.length cap) := (blk_cell HG5.out 0).trans rfl
  have g15 : w5.cell? ⟨g, 1, none⟩ = some (.int .i64 ((fl ps).length : Int)) := (blk_cell HG5.out 1).trans rfl
  have f15 : w5.frozen? ⟨g, 1, none⟩ = false := blk_frozen HG5.out 1
  have hci5 : w5.cell? ⟨b, i, none⟩ = some (.slice A4 l'.length c4) := by rw [← hw5]; exact World.cell?_setCell_same _ _ _ hci4
  have HI6 : Aside0 (Idx (w5.setCell ⟨g, 1, none⟩ (.int .i64 (((fl ps).length : Int) + 1))) g (some b) (ps.set i l')) := ⟨by
    obtain ⟨cur, k1, k2, k3, k4, k5⟩ : ∃ cur : Array Value, w.heap[b]? = some (.cells cur 53 (0, 0)) ∧ ps.length ≤ cap ∧ cap ≤ 9223372036854775807 ∧ cur.toList.length = cap ∧ cur.toList.take ps.length = cs := by
      rcases H2.out.2 with ⟨e, _⟩ | ⟨g', cap', cur, e, _, q1, q2, q3, q4, q5⟩
      · cases e
      · injection e with e1 e2 e3
        injection e1 with e1
        injection e1 with e1
        subst e1
        subst e3
        exact ⟨cur, q1, q2, by unfold maxLen at q3; exact q3, by simp [q4], by rwa [Nat.mul_one] at q5⟩
    have kb : w5.heap[b]? = some (.cells (cur.setIfInBounds i (.slice A4 l'.length c4)) 53 (0, 0)) := by rw [← hw5]; exact blk_set (blk_below k1 HW4.out) i _
    have keep : ∀ (k : Nat) (c' : Array Value), w4.heap[k]? = some (.cells c' 5 (0, 0)) → (w5.setCell ⟨g, 1, none⟩ (.int .i64 (((fl ps).length : Int) + 1))).heap[k]? = w4.heap[k]? := fun k c' hk => by
      have n1 : k ≠ g := fun e => by subst e; rw [HG4.out] at hk; injection hk with hk; injection hk with _ hk; cases hk
      have n2 : k ≠ b := fun e => by subst e; rw [blk_below k1 HW4.out] at hk; injection hk with hk; injection hk with _ hk; cases hk
      rw [Below.heap_setCell _ _ _ _ n1, ← hw5, Below.heap_setCell _ _ _ _ n2]
    refine Idx_of (n := ps.length) (cap := cap) (D := cur.toList.set i (.slice A4 l'.length c4)) ?_ ?_ (by rw [List.length_set]; exact k4) k2 k3 (by rw [List.length_set]) ?_
    · rw [HFn.out]
      exact (blk_set HG5.out 1 _).trans rfl
    · rw [Below.heap_setCell _ _ _ _ hgb, kb]
      congr 2
      apply Array.ext'
      simp
    · intro j m hm
      rw [List.getElem?_set] at hm ⊢
      by_cases hij : i = j
      · rw [if_pos hij] at hm ⊢
        have hi' : i < ps.length := by omega
        rw [if_pos (by omega)] at hm
        rw [if_pos (by omega)]
        obtain rfl := Option.some.inj hm
        exact ⟨_, rfl, (Pc_of_R HO4.out).keep keep⟩
      · rw [if_neg hij] at hm ⊢
        obtain ⟨u, hu, hp⟩ := H4.out j m hm
        have hjl := (List.getElem?_eq_some_iff.1 hm).1
        refine ⟨u, ?_, (hp.below HW4.out).keep keep⟩
        rw [← k5, List.getElem?_take, if_pos hjl] at hu
        exact hu⟩
  have HCh : Aside0 (∀ u, Chg w (w5.setCell ⟨g, 1, none⟩ u) g (some b) (some b)) := ⟨fun u => by rw [← hw5]; exact ((Chg.of_below HW4.out g (some b)).set _ _ (.inr rfl)).set _ _ (.inl rfl)⟩
  clear hw5 hci4 hfi4 g04 x24 kc3 kc4
  have hci6 := hci5
  have HIs : Aside0 ((ps.set i l')[i]? = some l') := ⟨by rw [List.getElem?_set, if_pos rfl, if_pos (by omega)]⟩
  by_cases h64 : (64 : Int) < (l'.length : Int)
  · have c64 := decide_eq_true h64
    have H64 := Aside0.mk h64
    clear h64
    go_wp2_with (go_at_call 43; go_loud (refine (split_any _ g (some b) (ps.set i l') HI6.out (by rw [List.length_set]; have := HK.out; omega) i l' HIs.out (by have := HLl.out; omega) (by have := HLl.out; omega)).mono ?_; rintro e w7 ⟨r7, rfl, hi7, hc7⟩; have HI7 := Aside0.mk hi7; have HC7 := Aside0.mk hc7; clear hi7 hc7))
    go_ret
    refine ⟨r7, _, rfl, HI7.out, by rw [fl_split HIs.out]; exact HFl.out, ?_, (HCh.out _).trans HC7.out⟩
    simp
    omega
  · have c64 := decide_eq_false h64
    clear h64
    go_wp2
    go_ret
    exact ⟨some b, _, rfl, HI6.out, HFl.out, by simp, HCh.out _⟩
end Go.Proofs.Ytfngcabckfmhnaa.B
/- The walk of search.Index.Apply: an insertion into an empty index. -/
namespace Go.Proofs.Ytfngcabckfmhnaa.B
open Go.RowKit Go.Proofs.YtfngcabckfmhnaaW.PrintWords Go.Proofs.YtfngcabckfmhnaaW.PrintLast Go.Proofs.YtfngcabckfmhnaaW.PrintMore Go.Proofs.Ytfngcabckfmhnaa.PA
set_option linter.unusedVariables false
set_option linter.unusedSimpArgs false


/-- What holds once an empty index has got its one empty piece. -/
structure NoneFacts (w w1 wz : World) (g b xb : Nat) (ps : List (List Int)) (r : Option Nat) (c cl s : Int) : Prop where
  idx : Idx wz g (some b) ps
  g1 : wz.heap[g]? = some (.cells #[.slice (some ⟨b, 0, none⟩) ps.length 1, .int .i64 ((fl ps).length : Int)] 82 (0, 0))
  own : wz.ownsRow 0 53 1 (.slice (some ⟨b, 0, none⟩) ps.length 1) ps.length [.slice none 0 0]
  pcs : ∀ (i : Nat) (l : List Int), ps[i]? = some l → ∃ u, ([.slice none 0 0] : List Value)[i]? = some u ∧ Pc wz u l
  box : wz.heap[xb]? = some (.cells #[.int .i64 1, .int .i64 0, .int .u8 c, .int .i64 cl, .int .i64 s] 46 (0, 0))
  chg : Chg w wz g r (some b)
  len : ps.length = 1
  emp : fl ps = []
  bx : b ≠ xb
  bl : b < wz.heap.size
  gl : g < wz.heap.size
theorem none_facts {w w1 wz : World} {g b xb c0 : Nat} {A0 : Option Addr} {ps : List (List Int)} {r : Option Nat} {c cl s : Int} (hB : Below w.heap.size w w1) (h1 : w.heap[g]? = some (.cells #[.slice A0 0 c0, .int .i64 0] 82 (0, 0))) (hb : b = w1.heap.size)
    (hwz : wz = (w1.setCell ⟨g, 0, none⟩ (.slice (some ⟨w1.heap.size, 0, none⟩) 1 1)).alloc (.cells #[.slice none 0 0] 53)) (hps : ps = [[]]) (hg : g < w.heap.size)
    (hx : w1.heap[xb]? = some (.cells #[.int .i64 1, .int .i64 0, .int .u8 c, .int .i64 cl, .int .i64 s] 46 (0, 0))) (hgx : g ≠ xb) : NoneFacts w w1 wz g b xb ps r c cl s := by
  subst hps
  subst hb
  have hs : (w1.setCell ⟨g, 0, none⟩ (.slice (some ⟨w1.heap.size, 0, none⟩) 1 1)).heap.size = w1.heap.size := by simp [World.setCell]
  have hgl : g < w1.heap.size := Nat.lt_of_lt_of_le hg hB.size
  have hxl : xb < w1.heap.size := blk_lt hx
  have hnew : wz.heap[w1.heap.size]? = some (.cells #[.slice none 0 0] 53 (0, 0)) := by
    have := heap_alloc_new (w1.setCell ⟨g, 0, none⟩ (.slice (some ⟨w1.heap.size, 0, none⟩) 1 1)) (.cells #[.slice none 0 0] 53)
    rw [hs] at this
    rw [hwz]
    exact this
  have hsz : wz.heap.size = w1.heap.size + 1 := by rw [hwz]; simp [World.setCell]
  have hg1 : wz.heap[g]? = some (.cells #[.slice (some ⟨w1.heap.size, 0, none⟩) 1 1, .int .i64 0] 82 (0, 0)) := by
    rw [hwz, Below.heap_alloc _ _ _ (by rw [hs]; exact hgl)]
    exact (blk_set (blk_below h1 hB) 0 _).trans rfl
  have hP : ∀ (i : Nat) (l : List Int), ([[]] : List (List Int))[i]? = some l → ∃ u, ([.slice none 0 0] : List Value)[i]? = some u ∧ Pc wz u l := by
    intro i l hi
    cases i with
    | zero =>
      obtain rfl := Option.some.inj hi
      exact ⟨_, rfl, none, 0, rfl, Nat.le_refl _, Kd.C_nil _ _, fun a ha => by cases ha⟩
    | succ i => simp at hi
  refine ⟨Idx_of (n := 1) (cap := 1) (D := [.slice none 0 0]) hg1 hnew rfl (Nat.le_refl _) (by omega) rfl hP, hg1, ⟨rfl, .inr ⟨w1.heap.size, 1, #[.slice none 0 0], rfl, Nat.zero_le _, hnew, Nat.le_refl _, by unfold maxLen; omega, rfl, rfl⟩⟩, hP, ?_, ?_, rfl, rfl, by omega, by omega, by omega⟩
  · rw [hwz, Below.heap_alloc _ _ _ (by rw [hs]; exact hxl), Below.heap_setCell _ _ _ _ (Ne.symm hgx)]
    exact hx
  · refine ⟨?_, ?_, ?_, by have := hB.size; omega, fun k hk hkg _ => ?_, .inr ⟨w1.heap.size, rfl, hB.size⟩⟩
    · rw [hwz]; exact hB.os
    · rw [hwz]; exact hB.tape
    · rw [hwz]; exact hB.output
    · rw [hwz, Below.heap_alloc _ _ _ (by rw [hs]; have := hB.size; omega), Below.heap_setCell _ _ _ _ hkg]
      exact hB.block k hk

set_option maxHeartbeats 16000000 in
set_option maxRecDepth 100000 in
theorem ins_none (w : World) (g : Nat) (r : Option Nat) (h : Idx w g r []) (p : Nat) (c cl s : Int) (hc : 0 ≤ c ∧ c ≤ 255) (he : fit (fl []).length 1 p c cl s = 0) :
    Calls Try.prog 23 #[.pointer (some ⟨g, 0, none⟩), .agg #[.int .i64 1, .int .i64 p, .int .u8 c, .int .i64 cl, .int .i64 s]] w (IApplyAns w g r [] ((fl []).take p ++ [c] ++ (fl []).drop p)) := by
  have HF : Aside0 (doc_Fits.f 2 (0 : Int) 1 p c cl s = some 0) := ⟨by have := fits_pure ((fl []).length : Int) 1 p c cl s hc; rw [he] at this; exact this⟩
  obtain ⟨-, -, -, hn, -, hp, -⟩ := fit_zero he
  obtain ⟨-, -, hpn, hn4⟩ := hp rfl
  obtain rfl : p = 0 := by have : (fl []).length = 0 := rfl; omega
  obtain ⟨v, cs, h1, h2, h3, h4⟩ := h
  obtain ⟨A0, c0, rfl⟩ := own_slice h2
  have hcg0 : w.cell? ⟨g, 0, none⟩ = some (.slice A0 0 c0) := (blk_cell h1 0).trans rfl
  have hcg1 : w.cell? ⟨g, 1, none⟩ = some (.int .i64 0) := (blk_cell h1 1).trans rfl
  have hfg0 : w.frozen? ⟨g, 0, none⟩ = false := blk_frozen h1 0
  have hgs0 : g < w.heap.size := blk_lt h1
  have H10 := Aside0.mk h1
  clear h1 h2 h3 h4 hn hp hpn hn4 he hc
  go_enter Try.func23, Try.ntmps23
  go_wp2
  go_region_held3 (fun w' => w'.cell? ⟨g, 1, none⟩ = some (.int .i64 0) ∧ w'.cell? ⟨w.heap.size, 0, none⟩ = some (.int .i64 1) ∧ w'.cell? ⟨w.heap.size, 1, none⟩ = some (.int .i64 0) ∧ w'.cell? ⟨w.heap.size, 2, none⟩ = some (.int .u8 c) ∧ w'.cell? ⟨w.heap.size, 3, none⟩ = some (.int .i64 cl) ∧ w'.cell? ⟨w.heap.size, 4, none⟩ = some (.int .i64 s)) (go_keep) ((go_at_call 41; refine (doc_Fits.calls 2 (0 : Int) 1 0 c cl s 0 _ HF.out).mono ?_; rintro e w1 ⟨rfl, hb1⟩; have BX : Aside0 (w1.heap[w.heap.size]? = some (.cells #[.int .i64 1, .int .i64 0, .int .u8 c, .int .i64 cl, .int .i64 s] 46 (0, 0))) := ⟨blk_below (blk_drew (heap_alloc_new w _)) hb1⟩; have hbw : Below w.heap.size w w1 := below_then (((Below.refl _ _).alloc (Nat.le_refl _) _).drew) (by simp) hb1; have HB1 := Aside0.mk hbw; have g0 := pw_cell_below hbw hcg0; have f0 := (hbw.frozen (p := ⟨g, 0, none⟩) hgs0).trans hfg0; have g1 := pw_cell_below hbw hcg1; have x0 : w1.cell? ⟨w.heap.size, 0, none⟩ = some (.int .i64 1) := (blk_cell BX.out 0).trans rfl; have x1 : w1.cell? ⟨w.heap.size, 1, none⟩ = some (.int .i64 0) := (blk_cell BX.out 1).trans rfl; have x2 : w1.cell? ⟨w.heap.size, 2, none⟩ = some (.int .u8 c) := (blk_cell BX.out 2).trans rfl; have x3 : w1.cell? ⟨w.heap.size, 3, none⟩ = some (.int .i64 cl) := (blk_cell BX.out 3).trans rfl; have x4 : w1.cell? ⟨w.heap.size, 4, none⟩ = some (.int .i64 s) := (blk_cell BX.out 4).trans rfl; clear hb1 hbw))
  have hgx : ¬ g = w.heap.size := by omega
  have hgx2 : ¬ w.heap.size = g := by omega
  have hw1s := HB1.out.size
  have hgs1 : g < w1.heap.size := by omega
  have hxs1 : w.heap.size < w1.heap.size := blk_lt BX.out
  go_wp2_with (go_at_call 42; go_loud (obtain ⟨wz, hwz⟩ : ∃ wz, wz = (w1.setCell ⟨g, 0, none⟩ (.slice (some ⟨w1.heap.size, 0, none⟩) 1 1)).alloc (.cells #[.slice none 0 0] 53) := ⟨_, rfl⟩; rw [← hwz]; obtain ⟨ps, hps⟩ : ∃ ps : List (List Int), ps = [[]] := ⟨_, rfl⟩; obtain ⟨b, hb⟩ : ∃ b, b = w1.heap.size := ⟨_, rfl⟩; obtain ⟨xb, hxb⟩ : ∃ xb, xb = w.heap.size := ⟨_, rfl⟩; rw [← hxb] at BX; rw [← hxb]; have Z := none_facts (r := r) HB1.out H10.out hb hwz hps hgs0 BX.out (by omega); have HZ := Aside0.mk Z; clear Z; have HI := Aside0.mk HZ.out.idx; have HB1 : Aside0 (Below wz.heap.size wz wz) := ⟨Below.refl _ _⟩; have H1 := Aside0.mk HZ.out.g1; have H2 := Aside0.mk HZ.out.own; have H4 := Aside0.mk HZ.out.pcs; replace BX := Aside0.mk HZ.out.box; have HNE : Aside0 (0 < ps.length) := ⟨by rw [HZ.out.len]; omega⟩; have HPN : Aside0 (0 ≤ (fl ps).length ∧ (fl ps).length < 4096) := ⟨by rw [HZ.out.emp]; simp⟩; have hbl := HZ.out.bl; have hbx := HZ.out.bx; have hgs := HZ.out.gl; have g0 : wz.cell? ⟨g, 0, none⟩ = some (.slice (some ⟨b, 0, none⟩) ps.length 1) := (blk_cell H1.out 0).trans rfl; have x2 : wz.cell? ⟨xb, 2, none⟩ = some (.int .u8 c) := (blk_cell BX.out 2).trans rfl; have g1 : wz.cell? ⟨g, 1, none⟩ = some (.int .i64 ((fl ps).length : Int)) := (blk_cell H1.out 1).trans rfl; clear hwz hps hb hxb; refine (spot_any wz g (some b) ps HI.out (by have := HPN.out; omega) HNE.out 0 HPN.out.1).mono ?_; rintro e w2 ⟨i, q, l, rfl, hil, hql, hpq, _, hw2⟩; subst hw2; obtain ⟨u, hu, B, d, rfl, hd, hC, hT⟩ := H4.out i l hil; have hi' := (List.getElem?_eq_some_iff.1 hil).1; have hi0 : (0 : Int) ≤ (i : Int) := (by omega); have hi1 : (i : Int) < (ps.length : Int) := (by omega); have hci : w2.cell? ⟨b, i, none⟩ = some (.slice B l.length d) := pw_cell_below HB1.out (by have := H2.out.cells (g := b) rfl i _ hu; rwa [add_plain] at this); have HIL := Aside0.mk hil; have HQ := Aside0.mk hpq; have HC := Aside0.mk (Kd.C_below hC HB1.out); have HT := Aside0.mk hT; have HD := Aside0.mk hd; have HQL := Aside0.mk hql; clear hil hpq hC hT hu hi' hd hql))
  have hq0 : (0 : Int) ≤ (q : Int) := by omega
  have hq1 : (q : Int) ≤ (l.length : Int) := by have := HQL.out; omega
  have hd1 : (l.length : Int) ≤ (d : Int) := by have := HD.out; omega
  have hll : l.length ≤ 4096 := by have := fl_step HIL.out; have := HPN.out; omega
  obtain ⟨i5, hi5, hz5, hz51, hz52⟩ := info_parts info5
  have kc3 := cut_hm (P := Try.prog) 53 5 .i64 .i64 Try.underlying53 hi5 B l.length d (q : Int) (by omega) (by omega)
  have kc4 := cut_from (P := Try.prog) 53 5 .i64 Try.underlying53 hi5 1 hz51 B l.length d (q : Int) (by omega) (by omega)
  rw [Int.toNat_natCast] at kc3 kc4
  obtain ⟨B2, hB2⟩ : ∃ B2, B2 = (if d = q then B else B.map (·.add (q * 1))) := ⟨_, rfl⟩
  rw [← hB2] at kc4
  have HD2 : Aside0 (Kd.C (Kd.int .u8) w2 B2 (l.length - q) (l.drop q)) := ⟨by
    have := Kd.C_drop HC.out (m := q) (c := d) HQL.out HD.out
    rw [List.length_drop] at this
    rw [hB2]
    exact this⟩
  have HCT : Aside0 (Kd.C (Kd.int .u8) w2 B q (l.take q)) := ⟨by have := Kd.C_take HC.out (m := q) HQL.out; rwa [List.length_take, Nat.min_eq_left HQL.out] at this⟩
  have HI5 := Aside0.mk (And.intro hi5 (And.intro hz5 (And.intro hz51 hz52)))
  clear hB2 hi5 hz5 hz51 hz52
  have HNo : Aside0 (B = none → q = 0 ∧ q = 0) := ⟨fun e => by
    rcases Nat.eq_zero_or_pos q with h | h
    · exact ⟨h, h⟩
    · obtain ⟨ad, e2, _⟩ := HCT.out.2.2 h
      rw [e] at e2; cases e2⟩
  have HLo : Aside0 ((nums .u8 (l.take q)).length = q * 1) := ⟨by rw [nums_length, List.length_take]; omega⟩
  have HHo : Aside0 (∀ (W : World), Below w2.heap.size w2 W → ∀ a, B = some a → ∀ (j : Nat) (u : Value), (nums .u8 (l.take q))[j]? = some u → W.cell? (a.add j) = some u) := ⟨fun W hW a ha j u hj => by
    have hj' : j < (l.take q).length := by have := (List.getElem?_eq_some_iff.1 hj).1; rwa [nums_length] at this
    have hl : (l.take q).length = q := by rw [List.length_take]; omega
    obtain ⟨ad, e, hc⟩ := Kd.at_int HCT.out (j : Int) (by omega) (by omega)
    rw [ha] at e
    injection e with e
    subst e
    rw [Int.toNat_natCast] at hc
    have hx : (nums .u8 (l.take q))[j]? = some (.int .u8 (rd (l.take q) (j : Int))) := by
      unfold nums rd
      rw [List.getElem?_map, List.getElem?_eq_getElem hj', List.getD_eq_getElem?_getD, Int.toNat_natCast, List.getElem?_eq_getElem hj']
      rfl
    rw [hx] at hj
    rw [← Option.some.inj hj]
    exact pw_cell_below hW hc⟩
  obtain ⟨l', hl'⟩ : ∃ l', l' = l.take q ++ [c] ++ l.drop q := ⟨_, rfl⟩
  have HL' := Aside0.mk hl'
  have HLl : Aside0 (l'.length = l.length + 1) := ⟨by rw [hl', List.length_append, List.length_append, List.length_take, List.length_drop]; simp; omega⟩
  have hbs : b < w2.heap.size := Nat.lt_of_lt_of_le hbl HB1.out.size
  have hfi : w2.frozen? ⟨b, i, none⟩ = false := by
    rcases H2.out.2 with ⟨e, _⟩ | ⟨b', cap', cur, e, _, q1, _⟩
    · cases e
    · injection e with e1
      injection e1 with e1
      injection e1 with e1
      subst e1
      exact blk_frozen (blk_below q1 HB1.out) i
  have hw8 : xb < w2.heap.size := blk_lt BX.out
  have hgs2 : g < w2.heap.size := hgs
  have HTl : Aside0 ((l.take q ++ [c]).length = q + 1) := ⟨by rw [List.length_append, List.length_take, Nat.min_eq_left HQL.out]; rfl⟩
  have HEn : Aside0 (nums .u8 (l.take q) ++ [Value.int .u8 c] = encs (Value.int .u8) (l.take q ++ [c])) := ⟨by simp [nums, encs]⟩
  have hbw : b ≠ xb := hbx
  have hgb : b ≠ g := fun e => own_ne H2.out H1.out (by decide) (by rw [← e]; rfl)
  clear hl'
  go_region_held3 (fun w' => w'.cell? ⟨g, 0, none⟩ = some (.slice (some ⟨b, 0, none⟩) ps.length 1) ∧ w'.cell? ⟨xb, 2, none⟩ = some (.int .u8 c)) (go_keep) ((first
    | (refine step_append_grows (by rfl) (.tmp 54) (.tmp 57) 53 (by rfl) 5 i5 (.int .u8 0) 1 1 Try.underlying53 HI5.out.1 HI5.out.2.1 HI5.out.2.2.1 HI5.out.2.2.2 rfl (by omega) B q q (nums .u8 (l.take q)) (by rfl) HNo.out HLo.out (HHo.out _ (((Below.refl _ _).alloc (Nat.le_refl _) _).drew)) ⟨w2.heap.size, 0, none⟩ 1 1 [.int .u8 c] (by rfl) (by rfl) (World.news_of_block (cs := #[.int .u8 c]) (t := 5) (fr := (0, 0)) (heap_alloc_new w2 _)) (by simp [Value.oneCell']) (by omega) (by unfold maxLen; omega) (by omega) ?_; intro v3 w3 hown3 hg3; have hb3 : Below w2.heap.size w2 w3 := (((Below.refl _ _).alloc (Nat.le_refl _) _).drew).grown hg3 (by simp) (fun k e => by cases e); have HB3 := Aside0.mk hb3; have HO3 : Aside0 (Kd.R (Kd.int .u8) 5 w3 w2.heap.size (fun _ => True) v3 (l.take q ++ [c])) := ⟨Kd.R_of_own (enc := Value.int .u8) (h1 := fun _ => rfl) (by have := own_weaken hown3 (base' := w2.heap.size) (by simp); rw [HEn.out, ← HTl.out] at this; exact this) (fun _ _ => trivial)⟩; have g03 := pw_cell_below hb3 g0; have x23 := pw_cell_below hb3 x2; clear hown3 hg3 hb3)
    | (refine Kd.R_append_rows_step (Kd.int .u8) (w0 := w2) w2.heap.size (by rfl) (.tmp 58) (.tmp 61) 53 5 (.int .u8 0) 1 rfl Try.underlying53 info5 rfl (by decide) (by omega) v3 (l.take q ++ [c]) (l.drop q) B2 (l.length - q) (d - q) (fun _ => True) (fun _ => False) (by rfl) (by rfl) HO3.out (Kd.C_below HD2.out HB3.out) (fun _ _ h => h) (fun _ h => h.elim) (fun _ _ => trivial) HB3.out HB3.out.size (by rw [List.length_append, List.length_take]; simp; omega) ?_; intro v4 w4 ho hb hg hat; rw [← HL'.out] at ho; obtain ⟨A4, c4, rfl⟩ := Kd.R_slice ho; have HO4 := Aside0.mk ho; have HB4 := Aside0.mk hb; have g04 := pw_cell_below hb g0; have x24 := pw_cell_below hb x2; have hci4 := pw_cell_below hb hci; have hfi4 := (hb.frozen (p := ⟨b, i, none⟩) hbs).trans hfi; clear ho hb hg hat)))
  have HFl : Aside0 (fl (ps.set i l') = (fl ps).take 0 ++ [c] ++ (fl ps).drop 0) := ⟨by rw [HL'.out]; exact fl_ins HIL.out HQL.out HQ.out⟩
  have HFn : Aside0 ((fl (ps.set i l')).length = (fl ps).length + 1) := ⟨by rw [HFl.out, List.length_append, List.length_append, List.length_take, List.length_drop]; have := HPN.out; simp; omega⟩
  have hnn : ((fl ps).length : Int) < 4096 := by have := HPN.out; omega
  have HW4 : Aside0 (Below w2.heap.size w2 w4) := ⟨below_then HB1.out HB1.out.size HB4.out⟩
  have HG4 : Aside0 (w4.heap[g]? = some (.cells #[.slice (some ⟨b, 0, none⟩) ps.length 1, .int .i64 ((fl ps).length : Int)] 82 (0, 0))) := ⟨blk_below H1.out HW4.out⟩
  generalize hw5 : w4.setCell ⟨b, i, none⟩ (.slice A4 l'.length c4) = w5
  have HG5 : Aside0 (w5.heap[g]? = some (.cells #[.slice (some ⟨b, 0, none⟩) ps.length 1, .int .i64 ((fl ps).length : Int)] 82 (0, 0))) := ⟨by rw [← hw5, Below.heap_setCell _ _ _ _ (Ne.symm hgb)]; exact HG4.out⟩
  have g05 : w5.cell? ⟨g, 0, none⟩ = some (.slice (some ⟨b, 0, none⟩) ps.length 1) := (blk_cell HG5.out 0).trans rfl
  have g15 : w5.cell? ⟨g, 1, none⟩ = some (.int .i64 ((fl ps).length : Int)) := (blk_cell HG5.out 1).trans rfl
  have f15 : w5.frozen? ⟨g, 1, none⟩ = false := blk_frozen HG5.out 1
  have hci5 : w5.cell? ⟨b, i, none⟩ = some (.slice A4 l'.length c4) := by rw [← hw5]; exact World.cell?_setCell_same _ _ _ hci4
  have HI6 : Aside0 (Idx (w5.setCell ⟨g, 1, none⟩ (.int .i64 (((fl ps).length : Int) + 1))) g (some b) (ps.set i l')) := ⟨by
    obtain ⟨cur, k1, k2, k3, k4, k5⟩ : ∃ cur : Array Value, w2.heap[b]? = some (.cells cur 53 (0, 0)) ∧ ps.length ≤ 1 ∧ (1 : Nat) ≤ 9223372036854775807 ∧ cur.toList.length = 1 ∧ cur.toList.take ps.length = [.slice none 0 0] := by
      rcases H2.out.2 with ⟨e, _⟩ | ⟨g', cap', cur, e, _, q1, q2, q3, q4, q5⟩
      · cases e
      · injection e with e1 e2 e3
        injection e1 with e1
        injection e1 with e1
        subst e1
        subst e3
        exact ⟨cur, q1, q2, by unfold maxLen at q3; exact q3, by simp [q4], by rwa [Nat.mul_one] at q5⟩
    have kb : w5.heap[b]? = some (.cells (cur.setIfInBounds i (.slice A4 l'.length c4)) 53 (0, 0)) := by rw [← hw5]; exact blk_set (blk_below k1 HW4.out) i _
    have keep : ∀ (k : Nat) (c' : Array Value), w4.heap[k]? = some (.cells c' 5 (0, 0)) → (w5.setCell ⟨g, 1, none⟩ (.int .i64 (((fl ps).length : Int) + 1))).heap[k]? = w4.heap[k]? := fun k c' hk => by
      have n1 : k ≠ g := fun e => by subst e; rw [HG4.out] at hk; injection hk with hk; injection hk with _ hk; cases hk
      have n2 : k ≠ b := fun e => by subst e; rw [blk_below k1 HW4.out] at hk; injection hk with hk; injection hk with _ hk; cases hk
      rw [Below.heap_setCell _ _ _ _ n1, ← hw5, Below.heap_setCell _ _ _ _ n2]
    refine Idx_of (n := ps.length) (cap := 1) (D := cur.toList.set i (.slice A4 l'.length c4)) ?_ ?_ (by rw [List.length_set]; exact k4) k2 k3 (by rw [List.length_set]) ?_
    · rw [HFn.out]
      exact (blk_set HG5.out 1 _).trans rfl
    · rw [Below.heap_setCell _ _ _ _ hgb, kb]
      congr 2
      apply Array.ext'
      simp
    · intro j m hm
      rw [List.getElem?_set] at hm ⊢
      by_cases hij : i = j
      · rw [if_pos hij] at hm ⊢
        have hi' : i < ps.length := by omega
        rw [if_pos (by omega)] at hm
        rw [if_pos (by omega)]
        obtain rfl := Option.some.inj hm
        exact ⟨_, rfl, (Pc_of_R HO4.out).keep keep⟩
      · rw [if_neg hij] at hm ⊢
        obtain ⟨u, hu, hp⟩ := H4.out j m hm
        have hjl := (List.getElem?_eq_some_iff.1 hm).1
        refine ⟨u, ?_, (hp.below HW4.out).keep keep⟩
        rw [← k5, List.getElem?_take, if_pos hjl] at hu
        exact hu⟩
  have HCh : Aside0 (∀ u, Chg w2 (w5.setCell ⟨g, 1, none⟩ u) g (some b) (some b)) := ⟨fun u => by rw [← hw5]; exact ((Chg.of_below HW4.out g (some b)).set _ _ (.inr rfl)).set _ _ (.inl rfl)⟩
  clear hw5 hci4 hfi4 g04 x24 kc3 kc4
  have hci6 := hci5
  have HIs : Aside0 ((ps.set i l')[i]? = some l') := ⟨by rw [List.getElem?_set, if_pos rfl, if_pos (by omega)]⟩
  have h64 : ¬ (64 : Int) < (l'.length : Int) := by
    have := HLl.out
    have := fl_step HIL.out
    have := congrArg List.length HZ.out.emp
    rw [List.length_nil] at this
    omega
  have c64 := decide_eq_false h64
  clear h64
  go_wp2
  go_ret
  exact ⟨some b, _, rfl, HI6.out, by rw [HFl.out, HZ.out.emp]; rfl, by rw [List.length_set, HZ.out.len]; simp, HZ.out.chg.trans (HCh.out _)⟩
end Go.Proofs.Ytfngcabckfmhnaa.B
