/- The walk of search.New: the index of a text. -/
import Derived.Test.YtfngcabckfmhnaaB1
import Derived.Deep.RegionLaw
namespace Go.Proofs.Ytfngcabckfmhnaa.B
open Go.RowKit Go.Proofs.YtfngcabckfmhnaaW.PrintWords Go.Proofs.YtfngcabckfmhnaaW.PrintLast Go.Proofs.YtfngcabckfmhnaaW.PrintMore Go.Proofs.Ytfngcabckfmhnaa.PA
attribute [local go_sem] min2_int min_two
set_option linter.unusedVariables false
set_option linter.unusedSimpArgs false

/-- Element i of a text, cell by cell, as the walk spells it. -/
theorem atE {w : World} {A : Option Addr} {xs : List S76} {n : Nat} (h : Kd.C k76 w A n xs) {i : Nat} {x : S76} (hi : xs[i]? = some x) : ∃ ad, A = some ad ∧ w.cell? (ad.add (i * 3)) = some (.int .u8 x.f0) ∧
    w.cell? ⟨(ad.add (i * 3)).block, (ad.add (i * 3)).off + 1, none⟩ = some (.int .i64 x.f1) ∧ w.cell? ⟨(ad.add (i * 3)).block, (ad.add (i * 3)).off + 2, none⟩ = some (.int .i64 x.f2) := by
  have hl := (List.getElem?_eq_some_iff.1 hi).1
  have hn := Kd.C_len h
  obtain ⟨ad, e, h0, h1, h2⟩ := at_T76 h (i : Int) (by omega) (by omega)
  have hx : rd_T76 xs (i : Int) = x := by unfold rd_T76; rw [List.getD_eq_getElem?_getD, Int.toNat_natCast, hi]; rfl
  rw [hx, Int.toNat_natCast] at h0 h1 h2
  exact ⟨ad, e, h0, h1, h2⟩

/-- Block b is a whole row of these bytes. -/
def BB (w : World) (b : Nat) (ys : List Int) : Prop := w.heap[b]? = some (.cells (nums .u8 ys).toArray 5 (0, 0))
theorem BB.set {w : World} {b : Nat} {ys : List Int} (h : BB w b ys) (i : Nat) (y : Int) : BB (w.setCell ⟨b, i, none⟩ (.int .u8 y)) b (ys.set i y) := by
  unfold BB at *
  rw [blk_set h]
  congr 2
  apply Array.ext'
  simp [nums, List.map_set]
theorem BB.cell {w : World} {b : Nat} {ys : List Int} (h : BB w b ys) {i : Nat} {y : Int} (hi : ys[i]? = some y) : w.cell? ⟨b, i, none⟩ = some (.int .u8 y) := by
  rw [blk_cell h]
  simp [nums, hi]
theorem BB.frozen {w : World} {b : Nat} {ys : List Int} (h : BB w b ys) (i : Nat) : w.frozen? ⟨b, i, none⟩ = false := blk_frozen h i
theorem BB.keep {w w' : World} {b : Nat} {ys : List Int} (h : BB w b ys) (hk : w'.heap[b]? = w.heap[b]?) : BB w' b ys := hk.trans h
theorem BB.lt {w : World} {b : Nat} {ys : List Int} (h : BB w b ys) : b < w.heap.size := blk_lt h
theorem add_off (b f j : Nat) : (⟨b, f, none⟩ : Addr).add j = ⟨b, f + j, none⟩ := by
  unfold Addr.add; split <;> simp_all
/-- A piece of a whole row. -/
theorem BB.piece {w : World} {b : Nat} {ys : List Int} (h : BB w b ys) (f n c : Nat) (l : List Int) (hl : l = (ys.drop f).take n) (hn : l.length = n) (hc : n ≤ c) (hm : ys.length ≤ 9223372036854775807) : Pc w (.slice (some ⟨b, f, none⟩) n c) l := by
  subst hn
  refine ⟨_, c, rfl, hc, Kd.C_of_reads (enc := Value.int .u8) (d := 0) (h1 := fun _ => rfl) ⟨rfl, ?_, fun hp => ⟨_, rfl, fun j hj => ?_⟩⟩, fun a ha => by cases ha; exact ⟨_, h⟩⟩
  · rw [hl, List.length_take, List.length_drop]; omega
  · have he : l[j]? = ys[f + j]? := by
      have hj' : j < l.length := hj
      conv => lhs; rw [hl]
      rw [List.getElem?_take, if_pos hj', List.getElem?_drop]
    rw [add_off]
    refine h.cell ?_
    rw [← he, List.getD_eq_getElem?_getD, List.getElem?_eq_getElem hj]
    rfl
theorem madeBB {w w' : World} {n : Nat} (h : w'.ownsRow w.heap.size 5 1 (.slice (some ⟨w.heap.size, 0, none⟩) n n) n (madeCells (Value.int .u8 0).cells (n * 1)).toList) : BB w' w.heap.size (List.replicate n 0) := by
  obtain ⟨h1, h2⟩ := h
  rcases h2 with ⟨h2, _⟩ | ⟨g, cap, cur, e, hb, hh, hc, hm, hs, ht⟩
  · cases h2
  · injection e with e1 e2 e3
    injection e1 with e1
    injection e1 with e1
    subst e1
    subst e3
    unfold BB
    rw [hh]
    congr 2
    apply Array.ext'
    rw [← List.take_of_length_le (l := cur.toList) (i := n * 1) (by simp; omega), ht]
    apply List.ext_getElem
    · simp [size_madeCells, nums]
    · intro j h1 h2
      simp [madeCells, nums, Value.cells, Nat.mod_one]

/-- New's second loop, in its m-th round: the index at block g, its pieces so far, the bytes at block b. -/
def L2 (w wr : World) (g b : Nat) (ys : List Int) (m : Nat) (v : Value) (cs : List Value) (ps : List (List Int)) : Prop :=
  wr.heap[g]? = some (.cells #[v, .int .i64 (ys.length : Int)] 82 (0, 0)) ∧ wr.ownsRow w.heap.size 53 1 v m cs ∧ ps.length = m ∧ (∀ (i : Nat) (l : List Int), ps[i]? = some l → ∃ u, cs[i]? = some u ∧ Pc wr u l) ∧ BB wr b ys ∧ fl ps = ys.take (64 * m) ∧ Below w.heap.size w wr

theorem L2.step {w wr w2 : World} {g b f n m gg cap : Nat} {ys : List Int} {v : Value} {cs : List Value} {ps : List (List Int)} (h : L2 w wr g b ys m v cs ps) (hf : f = 64 * m) (hn : n = min 64 (ys.length - f)) (hy : ys.length ≤ 9223372036854775807) (hfy : f < ys.length) (hwg : w.heap.size ≤ g)
    (o : Obj) (hown : w2.ownsRow w.heap.size 53 1 (.slice (some ⟨gg, 0, none⟩) (m + 1) cap) (m + 1) (cs ++ [.slice (some ⟨b, f, none⟩) n n])) (hgrow : (wr.alloc o).drew.grownBy w2 v.ownBlock) :
    L2 w (w2.setCell ⟨g, 0, none⟩ (.slice (some ⟨gg, 0, none⟩) (m + 1) cap)) g b ys (m + 1) (.slice (some ⟨gg, 0, none⟩) (m + 1) cap) (cs ++ [.slice (some ⟨b, f, none⟩) n n]) (ps ++ [(ys.drop f).take n]) := by
  obtain ⟨l1, l2, l3, l4, l5, l6, l7⟩ := h
  have hb0 : Below wr.heap.size wr (wr.alloc o).drew := ((Below.refl _ _).alloc (Nat.le_refl _) o).drew
  have hne : some g ≠ v.ownBlock := own_ne l2 l1 (by decide)
  have g1 : w2.heap[g]? = some (.cells #[v, .int .i64 (ys.length : Int)] 82 (0, 0)) := blk_grown (blk_below l1 hb0) hgrow hne
  have hne2 : some g ≠ (Value.slice (some ⟨gg, 0, none⟩) (m + 1) cap).ownBlock := own_ne hown g1 (by decide)
  -- what is a row of bytes stays
  have keep : ∀ (k : Nat) (c : Array Value), wr.heap[k]? = some (.cells c 5 (0, 0)) → (w2.setCell ⟨g, 0, none⟩ (.slice (some ⟨gg, 0, none⟩) (m + 1) cap)).heap[k]? = wr.heap[k]? := by
    intro k c hk
    have hkg : k ≠ g := fun e => by subst e; rw [l1] at hk; injection hk with hk; injection hk with _ hk; cases hk
    have hkv : some k ≠ v.ownBlock := own_ne l2 hk (by decide)
    rw [Below.heap_setCell _ _ _ _ hkg, blk_grown (blk_below hk hb0) hgrow hkv, hk]
  have hbb : BB (w2.setCell ⟨g, 0, none⟩ (.slice (some ⟨gg, 0, none⟩) (m + 1) cap)) b ys := l5.keep (keep b _ l5)
  refine ⟨?_, ?_, by simp [l3], ?_, hbb, ?_, ?_⟩
  · rw [blk_set g1]; rfl
  · exact own_setCell hown hne2 _
  · intro i l hi
    have hlc : cs.length = m := by have := l2.1; omega
    rw [List.getElem?_append] at hi ⊢
    by_cases him : i < m
    · rw [if_pos (by omega)] at hi
      rw [if_pos (by omega)]
      obtain ⟨u, hu, hp⟩ := l4 i l hi
      exact ⟨u, hu, hp.keep keep⟩
    · rw [if_neg (by omega)] at hi
      rw [if_neg (by omega)]
      rw [l3] at hi
      rw [hlc]
      obtain ⟨e, rfl⟩ : i - m = 0 ∧ l = (ys.drop f).take n := by
        rcases Nat.eq_zero_or_pos (i - m) with e | e
        · rw [e] at hi
          exact ⟨e, (Option.some.inj hi).symm⟩
        · rw [List.getElem?_eq_none (by simp; omega)] at hi; cases hi
      rw [e]
      exact ⟨_, rfl, hbb.piece f n n _ rfl (by rw [List.length_take, List.length_drop]; omega) (Nat.le_refl _) hy⟩
  · unfold fl at l6 ⊢
    rw [List.flatten_append, l6]
    simp only [List.flatten_cons, List.flatten_nil, List.append_nil]
    rw [← hf, show 64 * (m + 1) = f + 64 by omega, List.take_add, hn]
    congr 1
    by_cases h64 : 64 ≤ ys.length - f
    · rw [Nat.min_eq_left h64]
    · rw [Nat.min_eq_right (by omega), List.take_of_length_le (by rw [List.length_drop]; omega), List.take_of_length_le (by rw [List.length_drop]; omega)]
  · have hws := l7.size
    exact (pw_below_grown (below_then l7 hws hb0) v.ownBlock (by simp [World.drew]; omega) hgrow (fun k e => (l2.lt k e).1)).setCell hwg _

theorem set_take {ys : List Int} {xs : List S76} {i : Nat} {x : S76} {y : Int} (hy : ys[i]? = some y) (hx : xs[i]? = some x) (h : ys.take i = (xs.take i).map (·.f0)) : (ys.set i x.f0).take (i + 1) = (xs.take (i + 1)).map (·.f0) := by
  have hl := (List.getElem?_eq_some_iff.1 hy).1
  rw [List.take_add_one, List.take_add_one, hx, List.take_set_of_le (Nat.le_refl _), h, List.getElem?_set_self hl]
  simp

theorem info53 : (Try.prog.info? 53).map (fun i => (i.zero, i.size, i.bytes)) = some (some (.slice none 0 0), 1, 24) := by kernel_rfl

def NewAns (w : World) (xs : List S76) (e : Ending) (w' : World) : Prop :=
  ∃ g r ps, e = .returned (.pointer (some ⟨g, 0, none⟩)) ∧ Idx w' g r ps ∧ fl ps = xs.map (·.f0) ∧ w.heap.size ≤ g ∧ (∀ k, r = some k → w.heap.size ≤ k) ∧ ps.length ≤ xs.length + 1 ∧ Below w.heap.size w w'

set_option maxHeartbeats 8000000 in
set_option maxRecDepth 100000 in
theorem new_any (A : Option Addr) (c : Nat) (xs : List S76) (w : World) (hr : Kd.C k76 w A xs.length xs) (hc : xs.length ≤ c) (hb : xs.length ≤ 140737488351232) :
    Calls Try.prog 12 #[.slice A xs.length c] w (NewAns w xs) := by
  have HR := Aside0.mk hr
  clear hr
  obtain ⟨i5, hi5, hz5, hz1, hz2⟩ := info_parts info5
  have HI := Aside0.mk (And.intro hz5 (And.intro hz1 hz2))
  clear hz5 hz1 hz2
  go_enter Try.func12, Try.ntmps12
  go_wp2_with (at_make; go_loud (refine wpList_make_full _ rfl _ _ 53 rfl w.heap.size 5 i5 (.int .u8 0) 1 Try.underlying53 hi5 HI.out.1 HI.out.2.1 .i64 .i64 _ _ xs.length rfl rfl rfl rfl (by rw [HI.out.2.2]; omega) (by unfold maxLen; omega) (Nat.le_refl _) ?_; intro w1 hown hgrow; have hb := (Below.refl w.heap.size w).grown hgrow (Nat.le_refl _) (fun k e => by cases e); have HB := Aside0.mk hb; have HO := Aside0.mk (madeBB hown); clear hb hown hgrow))
  go_loopw [14] (fun v14 wr => ∃ (i : Nat) (ys : List Int), v14 = .int .i64 i ∧ i ≤ xs.length ∧ Aside0 (BB wr w.heap.size ys) ∧ Aside0 (ys.length = xs.length) ∧ Aside0 (ys.take i = (xs.take i).map (·.f0)) ∧ Aside0 (Below w.heap.size w wr)) (fun v14 _ => xs.length - (intOf v14).toNat)
  case atStart => exact ⟨0, _, rfl, Nat.zero_le _, HO, ⟨by simp⟩, ⟨by simp⟩, HB⟩
  case round =>
    obtain ⟨i, ys, rfl, hi, HY, HN, HT, HW⟩ := hrel
    by_cases hlt : (i : Int) < (xs.length : Int)
    · have c1 := decide_eq_true hlt
      obtain ⟨x, hx⟩ : ∃ x, xs[i]? = some x := ⟨_, List.getElem?_eq_getElem (by omega)⟩
      obtain ⟨ad, rfl, hx0, hx1, hx2⟩ := atE HR.out hx
      have HX := Aside0.mk hx
      clear hx
      replace hx0 := (HW.out.cell (World.block_lt_of_cell? w _ hx0)).trans hx0
      replace hx1 := (HW.out.cell (World.block_lt_of_cell? w _ hx1)).trans hx1
      replace hx2 := (HW.out.cell (World.block_lt_of_cell? w _ hx2)).trans hx2
      have hBs : w.heap.size < wr.heap.size := HY.out.lt
      obtain ⟨y, hy⟩ : ∃ y, ys[i]? = some y := ⟨_, List.getElem?_eq_getElem (by rw [HN.out]; omega)⟩
      have hcy := HY.out.cell hy
      have hfy := HY.out.frozen i
      have HYY := Aside0.mk hy
      clear hy
      go_wp2
      go_roundw
      case rel => exact ⟨i + 1, ys.set i x.f0, by go_num, by omega, ⟨(HY.out.set i _).keep (Below.heap_alloc _ _ _ (HY.out.set i _).lt)⟩, ⟨by rw [List.length_set]; exact HN.out⟩, ⟨set_take HYY.out HX.out HT.out⟩, ⟨below_alloc (HW.out.setCell (p := ⟨w.heap.size, i, none⟩) (Nat.le_refl _) _) _⟩⟩
      case measure => simp [intOf]; omega
    · have c1 := decide_eq_false hlt
      obtain rfl : i = xs.length := by omega
      have hys : ys = xs.map (·.f0) := by have := HT.out; rwa [List.take_of_length_le (by rw [HN.out]; omega), List.take_of_length_le (by omega)] at this
      go_wp2
      obtain ⟨W1, rfl⟩ : ∃ W1 : World, W1 = wr := ⟨_, rfl⟩
      obtain ⟨i53, hi53, hz53, hz531, hz532⟩ := info_parts info53
      have HI53 := Aside0.mk (And.intro hi53 (And.intro hz53 (And.intro hz531 hz532)))
      clear hi53 hz53 hz531 hz532
      have HYL : Aside0 (ys.length = xs.length) := HN
      have HYX := Aside0.mk hys
      have HWG := Aside0.mk HW.out.size
      have hB1 := HY.out.lt
      have HS : Aside0 (L2 w (W1.alloc (.cells #[.slice none 0 0, .int .i64 (xs.length : Int)] 82)) W1.heap.size w.heap.size ys 0 (.slice none 0 0) [] []) := ⟨⟨by rw [HYL.out]; exact heap_alloc_new _ _, World.ownsRow_nil _ _ _ _, rfl, by simp, HY.out.keep (Below.heap_alloc _ _ _ hB1), by simp [fl], below_alloc HW.out _⟩⟩
      clear hB1 hys
      go_loopw [7] (fun v7 wr => ∃ (f m : Nat) (v : Value) (cs : List Value) (ps : List (List Int)), v7 = .int .i64 (f : Int) ∧ Aside0 (f = 64 * m) ∧ Aside0 (64 * m ≤ xs.length + 63) ∧ Aside0 (L2 w wr W1.heap.size w.heap.size ys m v cs ps)) (fun v7 _ => xs.length + 64 - (intOf v7).toNat)
      case atStart => exact ⟨0, 0, .slice none 0 0, [], [], rfl, ⟨rfl⟩, ⟨by omega⟩, HS⟩
      case round =>
        clear c1
        obtain ⟨f, m, v, cs, ps, rfl, HF, HM, HL⟩ := hrel
        obtain ⟨l1, l2, l3, l4, l5, l6, l7⟩ := HL.out
        have hf : (f : Int) ≤ (xs.length : Int) + 63 := by have := HM.out; have := HF.out; omega
        have hcv : wr.cell? ⟨W1.heap.size, 0, none⟩ = some v := (blk_cell l1 0).trans rfl
        have hfv : wr.frozen? ⟨W1.heap.size, 0, none⟩ = false := blk_frozen l1 0
        have hlt1 : W1.heap.size < wr.heap.size := blk_lt l1
        have hnb : some W1.heap.size ≠ v.ownBlock := own_ne l2 l1 (by decide)
        have hws : w.heap.size ≤ wr.heap.size := l7.size
        have b0 : (0 : Int) ≤ (f : Int) := by omega
        clear l1 l2 l3 l4 l5 l6 l7
        by_cases hlt : (f : Int) < (xs.length : Int)
        · have c1 := decide_eq_true hlt
          have b1 : (f : Int) ≤ (xs.length : Int) := by omega
          have b2 : ¬ xs.length = f := by omega
          have b3 : f ≤ xs.length := by omega
          have hm : 64 * m ≤ f := by have := HF.out; omega
          by_cases hle : (xs.length : Int) < (f : Int) + 64
          · go_wp2
            go_region_law ((go_loud (refine step_append_lies _ (by rfl) _ _ _ (by rfl) w.heap.size 53 i53 _ 1 24 Try.underlying80 HI53.out.1 HI53.out.2.1 HI53.out.2.2.1 HI53.out.2.2.2 rfl (by omega) v m cs (by rfl) ((HL.out.2.1.alloc _).drew) ⟨wr.heap.size, 0, none⟩ 1 1 [.slice (some ⟨w.heap.size, f, none⟩) (xs.length - f) (xs.length - f)] (by rfl) (by rfl) (World.news_of_block (cs := #[.slice (some ⟨w.heap.size, f, none⟩) (xs.length - f) (xs.length - f)]) (t := 53) (fr := (0, 0)) (heap_alloc_new wr _)) (by simp [Value.oneCell']) (by omega) (by unfold maxLen; omega) (by omega) (by simp; omega) (wr.heap.size + 1) (by simp) ?_; intro gg cap w2 hown2 hgrow hat hlt2; have hcv2 := (hgrow.cell_far ⟨W1.heap.size, 0, none⟩ (by simp; omega) hnb); have hfv2 := (hgrow.frozen_far ⟨W1.heap.size, 0, none⟩ (by simp; omega) hnb))))
            all_goals
              go_wp2
              go_roundw
              case rel => exact ⟨f + 64, m + 1, _, _, _, by go_num, ⟨by have := HF.out; omega⟩, ⟨by have := HF.out; omega⟩, ⟨HL.out.step HF.out (by have := HYL.out; omega) (by have := HYL.out; omega) (by have := HYL.out; omega) HWG.out _ hown2 hgrow⟩⟩
              case measure => simp [intOf]; omega
          · have b4 : ¬ (xs.length : Int) < (f : Int) + 64 := hle
            have b5 : (0 : Int) ≤ (f : Int) + 64 := by omega
            have b8 : ¬ f + 64 = f := by omega
            have b6 : max ((f : Int) + 64) 0 = (f : Int) + 64 := by omega
            have b7 : ((f : Int) + 64).toNat = f + 64 := by omega
            go_wp2
            go_region_law ((go_loud (refine step_append_lies _ (by rfl) _ _ _ (by rfl) w.heap.size 53 i53 _ 1 24 Try.underlying80 HI53.out.1 HI53.out.2.1 HI53.out.2.2.1 HI53.out.2.2.2 rfl (by omega) v m cs (by rfl) ((HL.out.2.1.alloc _).drew) ⟨wr.heap.size, 0, none⟩ 1 1 [.slice (some ⟨w.heap.size, f, none⟩) 64 64] (by rfl) (by rfl) (World.news_of_block (cs := #[.slice (some ⟨w.heap.size, f, none⟩) 64 64]) (t := 53) (fr := (0, 0)) (heap_alloc_new wr _)) (by simp [Value.oneCell']) (by omega) (by unfold maxLen; omega) (by omega) (by simp; omega) (wr.heap.size + 1) (by simp) ?_; intro gg cap w2 hown2 hgrow hat hlt2; have hcv2 := (hgrow.cell_far ⟨W1.heap.size, 0, none⟩ (by simp; omega) hnb); have hfv2 := (hgrow.frozen_far ⟨W1.heap.size, 0, none⟩ (by simp; omega) hnb))))
            all_goals
              go_wp2
              go_roundw
              case rel => exact ⟨f + 64, m + 1, _, _, _, by go_num, ⟨by have := HF.out; omega⟩, ⟨by have := HF.out; omega⟩, ⟨HL.out.step HF.out (by have := HYL.out; omega) (by have := HYL.out; omega) (by have := HYL.out; omega) HWG.out _ hown2 hgrow⟩⟩
              case measure => simp [intOf]; omega
        · have c1 := decide_eq_false hlt
          go_wp2
          go_ret
          obtain ⟨l1, l2, l3, l4, l5, l6, l7⟩ := HL.out
          have hfl : fl ps = ys := by rw [l6, List.take_of_length_le (by have := HF.out; have := HYL.out; omega)]
          refine ⟨_, v.ownBlock, ps, rfl, ⟨v, cs, ?_, ?_, rfl, l4⟩, ?_, HWG.out, fun k hk => (l2.lt k hk).1, by rw [l3]; have := HM.out; omega, l7⟩
          · rw [hfl]; exact l1
          · rw [l3]; exact own_weaken l2 (Nat.zero_le _)
          · rw [hfl]; exact HYX.out
end Go.Proofs.Ytfngcabckfmhnaa.B
