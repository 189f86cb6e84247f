/- Printed functions and their walks: doc_within, doc_Valid, doc_Fits, doc_Equal, jotterlaw24_words.
   (Cut by this session's own program out of what the kit's print wrote for this claim.) -/
import Derived.Test.YtfngcabckfmhnaaH2
namespace Go.Proofs.Ytfngcabckfmhnaa.PA
open Go.RowKit Go.Proofs.YtfngcabckfmhnaaW.PrintWords Go.Proofs.YtfngcabckfmhnaaW.PrintLast Go.Proofs.YtfngcabckfmhnaaW.PrintMore
attribute [local go_sem] max2_int min2_int max_two min_two max_three min_three max_four min_four   -- for this text's walks alone
set_option linter.unusedVariables false
set_option linter.unusedSimpArgs false
attribute [local go_sem high] eqA76
/-! ### doc_within: function 57 -/
def doc_within.f (a0 : Int) (a1 : Int) (a2 : Int) : Option (Bool) := if a1 ≤ a0 then (some (decide (a0 ≤ a2))) else (some false)
set_option maxHeartbeats 8000000 in
set_option maxRecDepth 100000 in
theorem doc_within.calls (a0 : Int) (a1 : Int) (a2 : Int) (r : Bool) (w : World) (h : doc_within.f a0 a1 a2 = some r) :
    Calls Try.prog 57 #[.int .i64 a0, .int .i64 a1, .int .i64 a2] w fun e w' => e = .returned (.bool r) ∧ Drawn0 w w' := by
  have H : (if a1 ≤ a0 then (some (decide (a0 ≤ a2))) else (some false)) = some r := h
  clear h
  by_cases c4 : a1 ≤ a0
  · rw [if_pos c4] at H
    have c4b0 : decide (a1 ≤ a0) = true := decide_eq_true c4
    clear c4
    obtain rfl := Option.some.inj H
    go_enter Try.func57, Try.ntmps57
    go_wp2
    go_ret
    exact ⟨by first | rfl | (simp; done) | (simp [*]; done), by repeat (first | exact Drawn0.refl _ | apply Drawn0.step)⟩
  · rw [if_neg c4] at H
    have c4b0 : decide (a1 ≤ a0) = false := decide_eq_false c4
    clear c4
    obtain rfl := Option.some.inj H
    go_enter Try.func57, Try.ntmps57
    go_wp2
    go_ret
    exact ⟨by first | rfl | (simp; done) | (simp [*]; done), by repeat (first | exact Drawn0.refl _ | apply Drawn0.step)⟩


/-! ### doc_Valid: function 56 -/
mutual
def doc_Valid.j0 : Nat → Bool → Int → Int → Int → Int → Int → Option (Int)
  | 0, _, _, _, _, _, _ => none
  | k + 1, x17, x133000, x133001, x133002, x133003, x133004 => if x17 = true then (some 41) else (if x133000 = 1 then ((doc_within.f (wrap64 (x133002)) 32 126).bind fun t136 => (if t136 = true then (doc_Valid.j1 k x133000 x133001 x133002 x133003 x133004) else (some 42))) else (if x133002 = 0 then (doc_Valid.j1 k x133000 x133001 x133002 x133003 x133004) else (some 42)))
def doc_Valid.j1 : Nat → Int → Int → Int → Int → Int → Option (Int)
  | 0, _, _, _, _, _ => none
  | k + 1, x133000, x133001, x133002, x133003, x133004 => if x133000 = 0 then ((doc_within.f x133001 0 0).bind fun t137 => (if t137 = true then (some 0) else (some 43))) else ((doc_within.f x133001 0 4095).bind fun t138 => (if t138 = true then (some 0) else (some 43)))
end
def doc_Valid.f (k : Nat) (a0_0 : Int) (a0_1 : Int) (a0_2 : Int) (a0_3 : Int) (a0_4 : Int) : Option (Int) := (doc_within.f a0_0 0 2).bind fun t133 => (if t133 = true then ((doc_within.f a0_3 1 64).bind fun t134 => (if t134 = true then ((doc_within.f a0_4 1 64).bind fun t135 => (doc_Valid.j0 k (!t135) a0_0 a0_1 a0_2 a0_3 a0_4)) else (doc_Valid.j0 k true a0_0 a0_1 a0_2 a0_3 a0_4))) else (some 40))
theorem doc_Valid.mono_l : ∀ k, (∀ y0 y1 y2 y3 y4 y5, LeO (doc_Valid.j0 k y0 y1 y2 y3 y4 y5) (doc_Valid.j0 (k + 1) y0 y1 y2 y3 y4 y5)) ∧ (∀ y0 y1 y2 y3 y4, LeO (doc_Valid.j1 k y0 y1 y2 y3 y4) (doc_Valid.j1 (k + 1) y0 y1 y2 y3 y4))
  | 0 => ⟨fun _ _ _ _ _ _ r h => by simp [doc_Valid.j0] at h, fun _ _ _ _ _ r h => by simp [doc_Valid.j1] at h⟩
  | k + 1 => by
    obtain ⟨ih0, ih1⟩ := doc_Valid.mono_l k
    refine ⟨?_, ?_⟩
    · intro y0 y1 y2 y3 y4 y5
      unfold doc_Valid.j0
      repeat' first
      | (with_reducible exact ih0 _ _ _ _ _ _)
      | (with_reducible exact ih1 _ _ _ _ _)
      | (with_reducible exact LeO.refl _)
      | (with_reducible exact LeO.none _)
      | (with_reducible refine LeO.ite ?_ ?_)
      | (with_reducible refine LeO.bind ?_ (fun _ => ?_))
      | exact ih0 _ _ _ _ _ _
      | exact ih1 _ _ _ _ _
      | exact LeO.none _
      | refine LeO.ite ?_ ?_
      | refine LeO.bind ?_ (fun _ => ?_)
    · intro y0 y1 y2 y3 y4
      unfold doc_Valid.j1
      repeat' first
      | (with_reducible exact ih0 _ _ _ _ _ _)
      | (with_reducible exact ih1 _ _ _ _ _)
      | (with_reducible exact LeO.refl _)
      | (with_reducible exact LeO.none _)
      | (with_reducible refine LeO.ite ?_ ?_)
      | (with_reducible refine LeO.bind ?_ (fun _ => ?_))
      | exact ih0 _ _ _ _ _ _
      | exact ih1 _ _ _ _ _
      | exact LeO.none _
      | refine LeO.ite ?_ ?_
      | refine LeO.bind ?_ (fun _ => ?_)
theorem doc_Valid.mono : ∀ a0 a1 a2 a3 a4 k, LeO (doc_Valid.f k a0 a1 a2 a3 a4) (doc_Valid.f (k + 1) a0 a1 a2 a3 a4) := by
  intro a0 a1 a2 a3 a4 k
  obtain ⟨ih0, ih1⟩ := doc_Valid.mono_l k
  unfold doc_Valid.f
  repeat' first
      | (with_reducible exact ih0 _ _ _ _ _ _)
      | (with_reducible exact ih1 _ _ _ _ _)
      | (with_reducible exact LeO.refl _)
      | (with_reducible exact LeO.none _)
      | (with_reducible refine LeO.ite ?_ ?_)
      | (with_reducible refine LeO.bind ?_ (fun _ => ?_))
      | exact ih0 _ _ _ _ _ _
      | exact ih1 _ _ _ _ _
      | exact LeO.none _
      | refine LeO.ite ?_ ?_
      | refine LeO.bind ?_ (fun _ => ?_)
set_option maxHeartbeats 8000000 in
set_option maxRecDepth 100000 in
theorem doc_Valid.calls (k : Nat) (a0_0 : Int) (a0_1 : Int) (a0_2 : Int) (a0_3 : Int) (a0_4 : Int) (r : Int) (w : World) (h : doc_Valid.f k a0_0 a0_1 a0_2 a0_3 a0_4 = some r) :
    Calls Try.prog 56 #[.agg #[.int .i64 a0_0, .int .i64 a0_1, .int .u8 a0_2, .int .i64 a0_3, .int .i64 a0_4]] w fun e w' => e = .returned (.int .i64 r) ∧ Below w.heap.size w w' := by
  have hu46 := Try.underlying46
  have HB := Aside0.mk (Below.refl w.heap.size w)
  have H : ((doc_within.f a0_0 0 2).bind fun t133 => (if t133 = true then ((doc_within.f a0_3 1 64).bind fun t134 => (if t134 = true then ((doc_within.f a0_4 1 64).bind fun t135 => (doc_Valid.j0 k (!t135) a0_0 a0_1 a0_2 a0_3 a0_4)) else (doc_Valid.j0 k true a0_0 a0_1 a0_2 a0_3 a0_4))) else (some 40))) = some r := h
  clear h
  replace H := Option.bind_eq_some_iff.mp H
  obtain ⟨t133, A20, H⟩ := H
  replace H : (if t133 = true then ((doc_within.f a0_3 1 64).bind fun t134 => (if t134 = true then ((doc_within.f a0_4 1 64).bind fun t135 => (doc_Valid.j0 k (!t135) a0_0 a0_1 a0_2 a0_3 a0_4)) else (doc_Valid.j0 k true a0_0 a0_1 a0_2 a0_3 a0_4))) else (some 40)) = some r := H
  have A2 := Aside0.mk A20
  clear A20
  by_cases c3 : t133 = true
  · subst c3
    have H1 : ((doc_within.f a0_3 1 64).bind fun t134 => (if t134 = true then ((doc_within.f a0_4 1 64).bind fun t135 => (doc_Valid.j0 k (!t135) a0_0 a0_1 a0_2 a0_3 a0_4)) else (doc_Valid.j0 k true a0_0 a0_1 a0_2 a0_3 a0_4))) = some r := by rw [if_pos rfl] at H; exact H
    clear H
    have H := H1
    clear H1
    have HC4 := Aside0.mk H
    clear H
    go_enter Try.func56, Try.ntmps56
    go_upto_region 3 with (first | ((with_reducible refine gate_dst (N := 1) rfl ?_); refine box_event ?hg (N := 1) ?hd (cs := #[.int .i64 a0_0, .int .i64 a0_1, .int .u8 a0_2, .int .i64 a0_3, .int .i64 a0_4]) (t := 46) ?hr ?_; (case hd => rfl); (case hg => rfl); (case hr => first | (go_simp; done) | (go_simp; rfl)); intro gb132 hg w5 hbox hb; have n0_ := Aside0.mk (below_step (by repeat (first | (with_reducible first | exact HB.out | apply below_alloc | apply pw_below_drewN | apply below_drew1) | exact HB.out)) hb); have n1_ := Aside0.mk (hbox); have n2_ := Aside0.mk ((by rw [hg]; exact (below_size (by repeat (first | (with_reducible first | exact HB.out | apply below_alloc | apply pw_below_drewN | apply below_drew1) | exact HB.out))) : w.heap.size ≤ gb132)); have n3_ := Aside0.mk ((by rw [hg]; exact (below_size (by repeat (first | (with_reducible first | exact HB.out | apply below_alloc | apply pw_below_drewN | apply below_drew1) | exact HB.out))) : w.heap.size ≤ gb132)); clear HB; have HB := n0_; have BK132 := n1_; have GW132 := n2_; have GE132 := n3_; clear n0_ n1_ n2_ n3_; clear hb hbox hg; have hcz6_0 : w5.cell? ⟨gb132, 0, none⟩ = some (.int .i64 a0_0) := (blk_cell BK132.out 0).trans rfl; have hcz6_1 : w5.cell? ⟨gb132, 1, none⟩ = some (.int .i64 a0_1) := (blk_cell BK132.out 1).trans rfl; have hcz6_2 : w5.cell? ⟨gb132, 2, none⟩ = some (.int .u8 a0_2) := (blk_cell BK132.out 2).trans rfl; have hcz6_3 : w5.cell? ⟨gb132, 3, none⟩ = some (.int .i64 a0_3) := (blk_cell BK132.out 3).trans rfl; have hcz6_4 : w5.cell? ⟨gb132, 4, none⟩ = some (.int .i64 a0_4) := (blk_cell BK132.out 4).trans rfl; have hfz6_0 := blk_frozen BK132.out 0; have hfz6_1 := blk_frozen BK132.out 1; have hfz6_2 := blk_frozen BK132.out 2; have hfz6_3 := blk_frozen BK132.out 3; have hfz6_4 := blk_frozen BK132.out 4) | ((with_reducible refine gate_callee (f := 57) rfl ?_); refine goesL_ (some 6) rfl rfl Try.func57 (by kernel_rfl) rfl #[.int .i64 a0_0, .int .i64 0, .int .i64 2] rfl (by (try simp only [List.map_toArray, List.map_cons, List.map_nil]); first | done | rfl | (simp only [List.length_drop, List.length_take]; rfl)) ?_; (with_reducible refine (doc_within.calls a0_0 0 2 true _ A2.out).mono ?_); rintro e w' ⟨rfl, ⟨nd, rfl⟩⟩; refine ⟨_, rfl, ?_⟩))
    (try simp only [Act.put, List.setIfInBounds_toArray, List.set_cons_zero, List.set_cons_succ])
    go_cut [17] (fun v17 wc => ∃ (kq : Nat) (x17_3 : Bool), v17 = .bool x17_3 ∧ Aside0 (doc_Valid.j0 kq x17_3 a0_0 a0_1 a0_2 a0_3 a0_4 = some r) ∧ Aside0 (kq ≤ k) ∧ Aside0 (wc.heap[gb132]? = some (.cells #[.int .i64 a0_0, .int .i64 a0_1, .int .u8 a0_2, .int .i64 a0_3, .int .i64 a0_4] 46 (0, 0))) ∧ Aside0 (Below w.heap.size w wc))
    case first =>
      have H := HC4.out
      clear HC4
      replace H := Option.bind_eq_some_iff.mp H
      obtain ⟨t134, A70, H⟩ := H
      replace H : (if t134 = true then ((doc_within.f a0_4 1 64).bind fun t135 => (doc_Valid.j0 k (!t135) a0_0 a0_1 a0_2 a0_3 a0_4)) else (doc_Valid.j0 k true a0_0 a0_1 a0_2 a0_3 a0_4)) = some r := H
      have A7 := Aside0.mk A70
      clear A70
      by_cases c8 : t134 = true
      · subst c8
        have H1 : ((doc_within.f a0_4 1 64).bind fun t135 => (doc_Valid.j0 k (!t135) a0_0 a0_1 a0_2 a0_3 a0_4)) = some r := by rw [if_pos rfl] at H; exact H
        clear H
        have H := H1
        clear H1
        replace H := Option.bind_eq_some_iff.mp H
        obtain ⟨t135, A90, H⟩ := H
        replace H : (doc_Valid.j0 k (!t135) a0_0 a0_1 a0_2 a0_3 a0_4) = some r := H
        have A9 := Aside0.mk A90
        clear A90
        have H' := Aside0.mk H
        clear H
        have hcz10_0 : w5.cell? ⟨gb132, 0, none⟩ = some (.int .i64 a0_0) := (blk_cell BK132.out 0).trans rfl
        have hcz10_1 : w5.cell? ⟨gb132, 1, none⟩ = some (.int .i64 a0_1) := (blk_cell BK132.out 1).trans rfl
        have hcz10_2 : w5.cell? ⟨gb132, 2, none⟩ = some (.int .u8 a0_2) := (blk_cell BK132.out 2).trans rfl
        have hcz10_3 : w5.cell? ⟨gb132, 3, none⟩ = some (.int .i64 a0_3) := (blk_cell BK132.out 3).trans rfl
        have hcz10_4 : w5.cell? ⟨gb132, 4, none⟩ = some (.int .i64 a0_4) := (blk_cell BK132.out 4).trans rfl
        have hfz10_0 := blk_frozen BK132.out 0
        have hfz10_1 := blk_frozen BK132.out 1
        have hfz10_2 := blk_frozen BK132.out 2
        have hfz10_3 := blk_frozen BK132.out 3
        have hfz10_4 := blk_frozen BK132.out 4
        go_wp2_with (first | ((with_reducible refine gate_callee (f := 57) rfl ?_); refine goesL_ (some 10) rfl rfl Try.func57 (by kernel_rfl) rfl #[.int .i64 a0_3, .int .i64 1, .int .i64 64] rfl (by (try simp only [List.map_toArray, List.map_cons, List.map_nil]); first | done | rfl | (simp only [List.length_drop, List.length_take]; rfl)) ?_; (with_reducible refine (doc_within.calls a0_3 1 64 true _ A7.out).mono ?_); rintro e w' ⟨rfl, ⟨nd, rfl⟩⟩; refine ⟨_, rfl, ?_⟩) | (go_at_call 57; (with_reducible refine (doc_within.calls a0_4 1 64 t135 _ A9.out).mono ?_); rintro e w' ⟨rfl, ⟨nd, rfl⟩⟩))
        go_meet
        case rel => exact ⟨_, (!t135), (by first | rfl | (simp; done) | (simp [*]; done)), H', ⟨by first | omega | exact Nat.le_refl _⟩, ⟨by (with_reducible repeat (first | refine blk_drewN ?_ _ | refine blk_drew ?_ | refine blk_alloc ?_ _)); exact BK132.out⟩, ⟨by repeat (first | (with_reducible first | exact HB.out | apply below_alloc | apply pw_below_drewN | apply below_drew1 | refine below_set ?_ GE132.out) | exact HB.out)⟩⟩
      · replace c8 := Bool.eq_false_iff.mpr c8
        subst c8
        have H1 : (doc_Valid.j0 k true a0_0 a0_1 a0_2 a0_3 a0_4) = some r := by rw [if_neg (show ¬ (false = true) by decide)] at H; exact H
        clear H
        have H := H1
        clear H1
        have H' := Aside0.mk H
        clear H
        have hcz11_0 : w5.cell? ⟨gb132, 0, none⟩ = some (.int .i64 a0_0) := (blk_cell BK132.out 0).trans rfl
        have hcz11_1 : w5.cell? ⟨gb132, 1, none⟩ = some (.int .i64 a0_1) := (blk_cell BK132.out 1).trans rfl
        have hcz11_2 : w5.cell? ⟨gb132, 2, none⟩ = some (.int .u8 a0_2) := (blk_cell BK132.out 2).trans rfl
        have hcz11_3 : w5.cell? ⟨gb132, 3, none⟩ = some (.int .i64 a0_3) := (blk_cell BK132.out 3).trans rfl
        have hcz11_4 : w5.cell? ⟨gb132, 4, none⟩ = some (.int .i64 a0_4) := (blk_cell BK132.out 4).trans rfl
        have hfz11_0 := blk_frozen BK132.out 0
        have hfz11_1 := blk_frozen BK132.out 1
        have hfz11_2 := blk_frozen BK132.out 2
        have hfz11_3 := blk_frozen BK132.out 3
        have hfz11_4 := blk_frozen BK132.out 4
        go_wp2_with (first | ((with_reducible refine gate_callee (f := 57) rfl ?_); refine goesL_ (some 10) rfl rfl Try.func57 (by kernel_rfl) rfl #[.int .i64 a0_3, .int .i64 1, .int .i64 64] rfl (by (try simp only [List.map_toArray, List.map_cons, List.map_nil]); first | done | rfl | (simp only [List.length_drop, List.length_take]; rfl)) ?_; (with_reducible refine (doc_within.calls a0_3 1 64 false _ A7.out).mono ?_); rintro e w' ⟨rfl, ⟨nd, rfl⟩⟩; refine ⟨_, rfl, ?_⟩))
        go_meet
        case rel => exact ⟨_, (true), (by first | rfl | (simp; done) | (simp [*]; done)), H', ⟨by first | omega | exact Nat.le_refl _⟩, ⟨by (with_reducible repeat (first | refine blk_drewN ?_ _ | refine blk_drew ?_ | refine blk_alloc ?_ _)); exact BK132.out⟩, ⟨by repeat (first | (with_reducible first | exact HB.out | apply below_alloc | apply pw_below_drewN | apply below_drew1 | refine below_set ?_ GE132.out) | exact HB.out)⟩⟩
    case rest =>
      clear HC4
      try clear p2
      try clear c3
      try clear c5
      try clear c8
      try clear hcz10_0
      try clear hcz10_1
      try clear hcz10_2
      try clear hcz10_3
      try clear hcz10_4
      try clear hcz11_0
      try clear hcz11_1
      try clear hcz11_2
      try clear hcz11_3
      try clear hcz11_4
      try clear hcz6_0
      try clear hcz6_1
      try clear hcz6_2
      try clear hcz6_3
      try clear hcz6_4
      try clear hfz10_0
      try clear hfz10_1
      try clear hfz10_2
      try clear hfz10_3
      try clear hfz10_4
      try clear hfz11_0
      try clear hfz11_1
      try clear hfz11_2
      try clear hfz11_3
      try clear hfz11_4
      try clear hfz6_0
      try clear hfz6_1
      try clear hfz6_2
      try clear hfz6_3
      try clear hfz6_4
      obtain ⟨kq, x17_3, rfl, HA, HJ3, BK132, HB⟩ := hcut
      cases kq with
      | zero => exact absurd HA.out (by simp [doc_Valid.j0])
      | succ kj3 =>
        have H := HA.out
        clear HA
        simp only [doc_Valid.j0] at H
        by_cases c12 : x17_3 = true
        · subst c12
          have H1 : (some 41) = some r := by rw [if_pos rfl] at H; exact H
          clear H
          have H := H1
          clear H1
          obtain rfl := Option.some.inj H
          go_wp2
          go_ret
          exact ⟨by first | rfl | (simp [errW_none, errW_some] <;> rfl) | (simp [*, errW_none, errW_some] <;> rfl), by repeat (first | (with_reducible first | exact HB.out | apply below_alloc | apply pw_below_drewN | apply below_drew1 | refine below_set ?_ GE132.out) | exact HB.out)⟩
        · replace c12 := Bool.eq_false_iff.mpr c12
          subst c12
          have H1 : (if a0_0 = 1 then ((doc_within.f (wrap64 (a0_2)) 32 126).bind fun t136 => (if t136 = true then (doc_Valid.j1 kj3 a0_0 a0_1 a0_2 a0_3 a0_4) else (some 42))) else (if a0_2 = 0 then (doc_Valid.j1 kj3 a0_0 a0_1 a0_2 a0_3 a0_4) else (some 42))) = some r := by rw [if_neg (show ¬ (false = true) by decide)] at H; exact H
          clear H
          have H := H1
          clear H1
          have HC13 := Aside0.mk H
          clear H
          have hcz14_0 : wc.cell? ⟨gb132, 0, none⟩ = some (.int .i64 a0_0) := (blk_cell BK132.out 0).trans rfl
          have hcz14_1 : wc.cell? ⟨gb132, 1, none⟩ = some (.int .i64 a0_1) := (blk_cell BK132.out 1).trans rfl
          have hcz14_2 : wc.cell? ⟨gb132, 2, none⟩ = some (.int .u8 a0_2) := (blk_cell BK132.out 2).trans rfl
          have hcz14_3 : wc.cell? ⟨gb132, 3, none⟩ = some (.int .i64 a0_3) := (blk_cell BK132.out 3).trans rfl
          have hcz14_4 : wc.cell? ⟨gb132, 4, none⟩ = some (.int .i64 a0_4) := (blk_cell BK132.out 4).trans rfl
          have hfz14_0 := blk_frozen BK132.out 0
          have hfz14_1 := blk_frozen BK132.out 1
          have hfz14_2 := blk_frozen BK132.out 2
          have hfz14_3 := blk_frozen BK132.out 3
          have hfz14_4 := blk_frozen BK132.out 4
          go_upto_if 20 with (fail)
          go_cut [] (fun wc => ∃ (kq : Nat), Aside0 (doc_Valid.j1 kq a0_0 a0_1 a0_2 a0_3 a0_4 = some r) ∧ Aside0 (kq ≤ kj3) ∧ Aside0 (wc.heap[gb132]? = some (.cells #[.int .i64 a0_0, .int .i64 a0_1, .int .u8 a0_2, .int .i64 a0_3, .int .i64 a0_4] 46 (0, 0))) ∧ Aside0 (Below w.heap.size w wc))
          case first =>
            have H := HC13.out
            clear HC13
            by_cases c15 : a0_0 = 1
            · rw [if_pos c15] at H
              have c15b0 : (a0_0 == 1) = true := beq_iff_eq.mpr c15
              have c15b1 : (a0_0 != 1) = false := bne_eq_false_iff_eq.mpr c15
              clear c15
              (first | rw [c15b0] | (simp only [i64_w, i32_w]; rw [c15b0]) | skip)
              replace H := Option.bind_eq_some_iff.mp H
              obtain ⟨t136, A160, H⟩ := H
              replace H : (if t136 = true then (doc_Valid.j1 kj3 a0_0 a0_1 a0_2 a0_3 a0_4) else (some 42)) = some r := H
              have A16 := Aside0.mk A160
              clear A160
              by_cases c17 : t136 = true
              · subst c17
                have H1 : (doc_Valid.j1 kj3 a0_0 a0_1 a0_2 a0_3 a0_4) = some r := by rw [if_pos rfl] at H; exact H
                clear H
                have H := H1
                clear H1
                have H' := Aside0.mk H
                clear H
                have hcz18_0 : wc.cell? ⟨gb132, 0, none⟩ = some (.int .i64 a0_0) := (blk_cell BK132.out 0).trans rfl
                have hcz18_1 : wc.cell? ⟨gb132, 1, none⟩ = some (.int .i64 a0_1) := (blk_cell BK132.out 1).trans rfl
                have hcz18_2 : wc.cell? ⟨gb132, 2, none⟩ = some (.int .u8 a0_2) := (blk_cell BK132.out 2).trans rfl
                have hcz18_3 : wc.cell? ⟨gb132, 3, none⟩ = some (.int .i64 a0_3) := (blk_cell BK132.out 3).trans rfl
                have hcz18_4 : wc.cell? ⟨gb132, 4, none⟩ = some (.int .i64 a0_4) := (blk_cell BK132.out 4).trans rfl
                have hfz18_0 := blk_frozen BK132.out 0
                have hfz18_1 := blk_frozen BK132.out 1
                have hfz18_2 := blk_frozen BK132.out 2
                have hfz18_3 := blk_frozen BK132.out 3
                have hfz18_4 := blk_frozen BK132.out 4
                go_wp2_with (first | ((with_reducible refine gate_callee (f := 57) rfl ?_); refine goesL_ (some 24) rfl rfl Try.func57 (by kernel_rfl) rfl #[.int .i64 (wrap64 (a0_2)), .int .i64 32, .int .i64 126] rfl (by (try simp only [List.map_toArray, List.map_cons, List.map_nil]); first | done | rfl | (simp only [List.length_drop, List.length_take]; rfl)) ?_; (with_reducible refine (doc_within.calls (wrap64 (a0_2)) 32 126 true _ A16.out).mono ?_); rintro e w' ⟨rfl, ⟨nd, rfl⟩⟩; refine ⟨_, rfl, ?_⟩))
                go_meet
                case rel => exact ⟨_, H', ⟨by have := HJ3.out; first | omega | exact Nat.le_refl _⟩, ⟨by (with_reducible repeat (first | refine blk_drewN ?_ _ | refine blk_drew ?_ | refine blk_alloc ?_ _)); exact BK132.out⟩, ⟨by repeat (first | (with_reducible first | exact HB.out | apply below_alloc | apply pw_below_drewN | apply below_drew1 | refine below_set ?_ GE132.out) | exact HB.out)⟩⟩
              · replace c17 := Bool.eq_false_iff.mpr c17
                subst c17
                have H1 : (some 42) = some r := by rw [if_neg (show ¬ (false = true) by decide)] at H; exact H
                clear H
                have H := H1
                clear H1
                obtain rfl := Option.some.inj H
                have hcz19_0 : wc.cell? ⟨gb132, 0, none⟩ = some (.int .i64 a0_0) := (blk_cell BK132.out 0).trans rfl
                have hcz19_1 : wc.cell? ⟨gb132, 1, none⟩ = some (.int .i64 a0_1) := (blk_cell BK132.out 1).trans rfl
                have hcz19_2 : wc.cell? ⟨gb132, 2, none⟩ = some (.int .u8 a0_2) := (blk_cell BK132.out 2).trans rfl
                have hcz19_3 : wc.cell? ⟨gb132, 3, none⟩ = some (.int .i64 a0_3) := (blk_cell BK132.out 3).trans rfl
                have hcz19_4 : wc.cell? ⟨gb132, 4, none⟩ = some (.int .i64 a0_4) := (blk_cell BK132.out 4).trans rfl
                have hfz19_0 := blk_frozen BK132.out 0
                have hfz19_1 := blk_frozen BK132.out 1
                have hfz19_2 := blk_frozen BK132.out 2
                have hfz19_3 := blk_frozen BK132.out 3
                have hfz19_4 := blk_frozen BK132.out 4
                go_wp2_with (first | ((with_reducible refine gate_callee (f := 57) rfl ?_); refine goesL_ (some 24) rfl rfl Try.func57 (by kernel_rfl) rfl #[.int .i64 (wrap64 (a0_2)), .int .i64 32, .int .i64 126] rfl (by (try simp only [List.map_toArray, List.map_cons, List.map_nil]); first | done | rfl | (simp only [List.length_drop, List.length_take]; rfl)) ?_; (with_reducible refine (doc_within.calls (wrap64 (a0_2)) 32 126 false _ A16.out).mono ?_); rintro e w' ⟨rfl, ⟨nd, rfl⟩⟩; refine ⟨_, rfl, ?_⟩))
                go_ret
                exact ⟨by first | rfl | (simp [errW_none, errW_some] <;> rfl) | (simp [*, errW_none, errW_some] <;> rfl), by repeat (first | (with_reducible first | exact HB.out | apply below_alloc | apply pw_below_drewN | apply below_drew1 | refine below_set ?_ GE132.out) | exact HB.out)⟩
            · rw [if_neg c15] at H
              have c15b0 : (a0_0 == 1) = false := beq_eq_false_iff_ne.mpr c15
              have c15b1 : (a0_0 != 1) = true := bne_iff_ne.mpr c15
              (first | rw [c15b0] | (simp only [i64_w, i32_w]; rw [c15b0]) | skip)
              by_cases c20 : a0_2 = 0
              · rw [if_pos c20] at H
                have c20b0 : (a0_2 == 0) = true := beq_iff_eq.mpr c20
                have c20b1 : (a0_2 != 0) = false := bne_eq_false_iff_eq.mpr c20
                clear c20
                have H' := Aside0.mk H
                clear H
                have hcz21_0 : wc.cell? ⟨gb132, 0, none⟩ = some (.int .i64 a0_0) := (blk_cell BK132.out 0).trans rfl
                have hcz21_1 : wc.cell? ⟨gb132, 1, none⟩ = some (.int .i64 a0_1) := (blk_cell BK132.out 1).trans rfl
                have hcz21_2 : wc.cell? ⟨gb132, 2, none⟩ = some (.int .u8 a0_2) := (blk_cell BK132.out 2).trans rfl
                have hcz21_3 : wc.cell? ⟨gb132, 3, none⟩ = some (.int .i64 a0_3) := (blk_cell BK132.out 3).trans rfl
                have hcz21_4 : wc.cell? ⟨gb132, 4, none⟩ = some (.int .i64 a0_4) := (blk_cell BK132.out 4).trans rfl
                have hfz21_0 := blk_frozen BK132.out 0
                have hfz21_1 := blk_frozen BK132.out 1
                have hfz21_2 := blk_frozen BK132.out 2
                have hfz21_3 := blk_frozen BK132.out 3
                have hfz21_4 := blk_frozen BK132.out 4
                go_wp2
                go_meet
                case rel => exact ⟨_, H', ⟨by have := HJ3.out; first | omega | exact Nat.le_refl _⟩, ⟨by (with_reducible repeat (first | refine blk_drewN ?_ _ | refine blk_drew ?_ | refine blk_alloc ?_ _)); exact BK132.out⟩, ⟨by repeat (first | (with_reducible first | exact HB.out | apply below_alloc | apply pw_below_drewN | apply below_drew1 | refine below_set ?_ GE132.out) | exact HB.out)⟩⟩
              · rw [if_neg c20] at H
                have c20b0 : (a0_2 == 0) = false := beq_eq_false_iff_ne.mpr c20
                have c20b1 : (a0_2 != 0) = true := bne_iff_ne.mpr c20
                obtain rfl := Option.some.inj H
                have hcz22_0 : wc.cell? ⟨gb132, 0, none⟩ = some (.int .i64 a0_0) := (blk_cell BK132.out 0).trans rfl
                have hcz22_1 : wc.cell? ⟨gb132, 1, none⟩ = some (.int .i64 a0_1) := (blk_cell BK132.out 1).trans rfl
                have hcz22_2 : wc.cell? ⟨gb132, 2, none⟩ = some (.int .u8 a0_2) := (blk_cell BK132.out 2).trans rfl
                have hcz22_3 : wc.cell? ⟨gb132, 3, none⟩ = some (.int .i64 a0_3) := (blk_cell BK132.out 3).trans rfl
                have hcz22_4 : wc.cell? ⟨gb132, 4, none⟩ = some (.int .i64 a0_4) := (blk_cell BK132.out 4).trans rfl
                have hfz22_0 := blk_frozen BK132.out 0
                have hfz22_1 := blk_frozen BK132.out 1
                have hfz22_2 := blk_frozen BK132.out 2
                have hfz22_3 := blk_frozen BK132.out 3
                have hfz22_4 := blk_frozen BK132.out 4
                go_wp2
                go_ret
                exact ⟨by first | rfl | (simp [errW_none, errW_some] <;> rfl) | (simp [*, errW_none, errW_some] <;> rfl), by repeat (first | (with_reducible first | exact HB.out | apply below_alloc | apply pw_below_drewN | apply below_drew1 | refine below_set ?_ GE132.out) | exact HB.out)⟩
          case rest =>
            clear HC13
            try clear c1
            try clear c2
            try clear p2
            try clear c3
            try clear c5
            try clear p6
            try clear c8
            try clear c12
            try clear c15
            try clear c15b0
            try clear c15b1
            try clear c17
            try clear c20
            try clear c20b0
            try clear c20b1
            try clear hcz10_0
            try clear hcz10_1
            try clear hcz10_2
            try clear hcz10_3
            try clear hcz10_4
            try clear hcz11_0
            try clear hcz11_1
            try clear hcz11_2
            try clear hcz11_3
            try clear hcz11_4
            try clear hcz14_0
            try clear hcz14_1
            try clear hcz14_2
            try clear hcz14_3
            try clear hcz14_4
            try clear hcz18_0
            try clear hcz18_1
            try clear hcz18_2
            try clear hcz18_3
            try clear hcz18_4
            try clear hcz19_0
            try clear hcz19_1
            try clear hcz19_2
            try clear hcz19_3
            try clear hcz19_4
            try clear hcz21_0
            try clear hcz21_1
            try clear hcz21_2
            try clear hcz21_3
            try clear hcz21_4
            try clear hcz22_0
            try clear hcz22_1
            try clear hcz22_2
            try clear hcz22_3
            try clear hcz22_4
            try clear hcz6_0
            try clear hcz6_1
            try clear hcz6_2
            try clear hcz6_3
            try clear hcz6_4
            try clear hfz10_0
            try clear hfz10_1
            try clear hfz10_2
            try clear hfz10_3
            try clear hfz10_4
            try clear hfz11_0
            try clear hfz11_1
            try clear hfz11_2
            try clear hfz11_3
            try clear hfz11_4
            try clear hfz14_0
            try clear hfz14_1
            try clear hfz14_2
            try clear hfz14_3
            try clear hfz14_4
            try clear hfz18_0
            try clear hfz18_1
            try clear hfz18_2
            try clear hfz18_3
            try clear hfz18_4
            try clear hfz19_0
            try clear hfz19_1
            try clear hfz19_2
            try clear hfz19_3
            try clear hfz19_4
            try clear hfz21_0
            try clear hfz21_1
            try clear hfz21_2
            try clear hfz21_3
            try clear hfz21_4
            try clear hfz22_0
            try clear hfz22_1
            try clear hfz22_2
            try clear hfz22_3
            try clear hfz22_4
            try clear hfz6_0
            try clear hfz6_1
            try clear hfz6_2
            try clear hfz6_3
            try clear hfz6_4
            try clear p2
            obtain ⟨kq, HA, HJ12, BK132, HB⟩ := hcut
            cases kq with
            | zero => exact absurd HA.out (by simp [doc_Valid.j1])
            | succ kj12 =>
              have H := HA.out
              clear HA
              simp only [doc_Valid.j1] at H
              by_cases c23 : a0_0 = 0
              · rw [if_pos c23] at H
                have c23b0 : (a0_0 == 0) = true := beq_iff_eq.mpr c23
                have c23b1 : (a0_0 != 0) = false := bne_eq_false_iff_eq.mpr c23
                clear c23
                replace H := Option.bind_eq_some_iff.mp H
                obtain ⟨t137, A240, H⟩ := H
                replace H : (if t137 = true then (some 0) else (some 43)) = some r := H
                have A24 := Aside0.mk A240
                clear A240
                by_cases c25 : t137 = true
                · subst c25
                  have H1 : (some 0) = some r := by rw [if_pos rfl] at H; exact H
                  clear H
                  have H := H1
                  clear H1
                  obtain rfl := Option.some.inj H
                  have hcz26_0 : wc.cell? ⟨gb132, 0, none⟩ = some (.int .i64 a0_0) := (blk_cell BK132.out 0).trans rfl
                  have hcz26_1 : wc.cell? ⟨gb132, 1, none⟩ = some (.int .i64 a0_1) := (blk_cell BK132.out 1).trans rfl
                  have hcz26_2 : wc.cell? ⟨gb132, 2, none⟩ = some (.int .u8 a0_2) := (blk_cell BK132.out 2).trans rfl
                  have hcz26_3 : wc.cell? ⟨gb132, 3, none⟩ = some (.int .i64 a0_3) := (blk_cell BK132.out 3).trans rfl
                  have hcz26_4 : wc.cell? ⟨gb132, 4, none⟩ = some (.int .i64 a0_4) := (blk_cell BK132.out 4).trans rfl
                  have hfz26_0 := blk_frozen BK132.out 0
                  have hfz26_1 := blk_frozen BK132.out 1
                  have hfz26_2 := blk_frozen BK132.out 2
                  have hfz26_3 := blk_frozen BK132.out 3
                  have hfz26_4 := blk_frozen BK132.out 4
                  go_wp2_with (first | ((with_reducible refine gate_callee (f := 57) rfl ?_); refine goesL_ (some 35) rfl rfl Try.func57 (by kernel_rfl) rfl #[.int .i64 a0_1, .int .i64 0, .int .i64 0] rfl (by (try simp only [List.map_toArray, List.map_cons, List.map_nil]); first | done | rfl | (simp only [List.length_drop, List.length_take]; rfl)) ?_; (with_reducible refine (doc_within.calls a0_1 0 0 true _ A24.out).mono ?_); rintro e w' ⟨rfl, ⟨nd, rfl⟩⟩; refine ⟨_, rfl, ?_⟩))
                  go_ret
                  exact ⟨by first | rfl | (simp [errW_none, errW_some] <;> rfl) | (simp [*, errW_none, errW_some] <;> rfl), by repeat (first | (with_reducible first | exact HB.out | apply below_alloc | apply pw_below_drewN | apply below_drew1 | refine below_set ?_ GE132.out) | exact HB.out)⟩
                · replace c25 := Bool.eq_false_iff.mpr c25
                  subst c25
                  have H1 : (some 43) = some r := by rw [if_neg (show ¬ (false = true) by decide)] at H; exact H
                  clear H
                  have H := H1
                  clear H1
                  obtain rfl := Option.some.inj H
                  have hcz27_0 : wc.cell? ⟨gb132, 0, none⟩ = some (.int .i64 a0_0) := (blk_cell BK132.out 0).trans rfl
                  have hcz27_1 : wc.cell? ⟨gb132, 1, none⟩ = some (.int .i64 a0_1) := (blk_cell BK132.out 1).trans rfl
                  have hcz27_2 : wc.cell? ⟨gb132, 2, none⟩ = some (.int .u8 a0_2) := (blk_cell BK132.out 2).trans rfl
                  have hcz27_3 : wc.cell? ⟨gb132, 3, none⟩ = some (.int .i64 a0_3) := (blk_cell BK132.out 3).trans rfl
                  have hcz27_4 : wc.cell? ⟨gb132, 4, none⟩ = some (.int .i64 a0_4) := (blk_cell BK132.out 4).trans rfl
                  have hfz27_0 := blk_frozen BK132.out 0
                  have hfz27_1 := blk_frozen BK132.out 1
                  have hfz27_2 := blk_frozen BK132.out 2
                  have hfz27_3 := blk_frozen BK132.out 3
                  have hfz27_4 := blk_frozen BK132.out 4
                  go_wp2_with (first | ((with_reducible refine gate_callee (f := 57) rfl ?_); refine goesL_ (some 35) rfl rfl Try.func57 (by kernel_rfl) rfl #[.int .i64 a0_1, .int .i64 0, .int .i64 0] rfl (by (try simp only [List.map_toArray, List.map_cons, List.map_nil]); first | done | rfl | (simp only [List.length_drop, List.length_take]; rfl)) ?_; (with_reducible refine (doc_within.calls a0_1 0 0 false _ A24.out).mono ?_); rintro e w' ⟨rfl, ⟨nd, rfl⟩⟩; refine ⟨_, rfl, ?_⟩))
                  go_ret
                  exact ⟨by first | rfl | (simp [errW_none, errW_some] <;> rfl) | (simp [*, errW_none, errW_some] <;> rfl), by repeat (first | (with_reducible first | exact HB.out | apply below_alloc | apply pw_below_drewN | apply below_drew1 | refine below_set ?_ GE132.out) | exact HB.out)⟩
              · rw [if_neg c23] at H
                have c23b0 : (a0_0 == 0) = false := beq_eq_false_iff_ne.mpr c23
                have c23b1 : (a0_0 != 0) = true := bne_iff_ne.mpr c23
                replace H := Option.bind_eq_some_iff.mp H
                obtain ⟨t138, A280, H⟩ := H
                replace H : (if t138 = true then (some 0) else (some 43)) = some r := H
                have A28 := Aside0.mk A280
                clear A280
                by_cases c29 : t138 = true
                · subst c29
                  have H1 : (some 0) = some r := by rw [if_pos rfl] at H; exact H
                  clear H
                  have H := H1
                  clear H1
                  obtain rfl := Option.some.inj H
                  have hcz30_0 : wc.cell? ⟨gb132, 0, none⟩ = some (.int .i64 a0_0) := (blk_cell BK132.out 0).trans rfl
                  have hcz30_1 : wc.cell? ⟨gb132, 1, none⟩ = some (.int .i64 a0_1) := (blk_cell BK132.out 1).trans rfl
                  have hcz30_2 : wc.cell? ⟨gb132, 2, none⟩ = some (.int .u8 a0_2) := (blk_cell BK132.out 2).trans rfl
                  have hcz30_3 : wc.cell? ⟨gb132, 3, none⟩ = some (.int .i64 a0_3) := (blk_cell BK132.out 3).trans rfl
                  have hcz30_4 : wc.cell? ⟨gb132, 4, none⟩ = some (.int .i64 a0_4) := (blk_cell BK132.out 4).trans rfl
                  have hfz30_0 := blk_frozen BK132.out 0
                  have hfz30_1 := blk_frozen BK132.out 1
                  have hfz30_2 := blk_frozen BK132.out 2
                  have hfz30_3 := blk_frozen BK132.out 3
                  have hfz30_4 := blk_frozen BK132.out 4
                  go_wp2_with (first | ((with_reducible refine gate_callee (f := 57) rfl ?_); refine goesL_ (some 35) rfl rfl Try.func57 (by kernel_rfl) rfl #[.int .i64 a0_1, .int .i64 0, .int .i64 4095] rfl (by (try simp only [List.map_toArray, List.map_cons, List.map_nil]); first | done | rfl | (simp only [List.length_drop, List.length_take]; rfl)) ?_; (with_reducible refine (doc_within.calls a0_1 0 4095 true _ A28.out).mono ?_); rintro e w' ⟨rfl, ⟨nd, rfl⟩⟩; refine ⟨_, rfl, ?_⟩))
                  go_ret
                  exact ⟨by first | rfl | (simp [errW_none, errW_some] <;> rfl) | (simp [*, errW_none, errW_some] <;> rfl), by repeat (first | (with_reducible first | exact HB.out | apply below_alloc | apply pw_below_drewN | apply below_drew1 | refine below_set ?_ GE132.out) | exact HB.out)⟩
                · replace c29 := Bool.eq_false_iff.mpr c29
                  subst c29
                  have H1 : (some 43) = some r := by rw [if_neg (show ¬ (false = true) by decide)] at H; exact H
                  clear H
                  have H := H1
                  clear H1
                  obtain rfl := Option.some.inj H
                  have hcz31_0 : wc.cell? ⟨gb132, 0, none⟩ = some (.int .i64 a0_0) := (blk_cell BK132.out 0).trans rfl
                  have hcz31_1 : wc.cell? ⟨gb132, 1, none⟩ = some (.int .i64 a0_1) := (blk_cell BK132.out 1).trans rfl
                  have hcz31_2 : wc.cell? ⟨gb132, 2, none⟩ = some (.int .u8 a0_2) := (blk_cell BK132.out 2).trans rfl
                  have hcz31_3 : wc.cell? ⟨gb132, 3, none⟩ = some (.int .i64 a0_3) := (blk_cell BK132.out 3).trans rfl
                  have hcz31_4 : wc.cell? ⟨gb132, 4, none⟩ = some (.int .i64 a0_4) := (blk_cell BK132.out 4).trans rfl
                  have hfz31_0 := blk_frozen BK132.out 0
                  have hfz31_1 := blk_frozen BK132.out 1
                  have hfz31_2 := blk_frozen BK132.out 2
                  have hfz31_3 := blk_frozen BK132.out 3
                  have hfz31_4 := blk_frozen BK132.out 4
                  go_wp2_with (first | ((with_reducible refine gate_callee (f := 57) rfl ?_); refine goesL_ (some 35) rfl rfl Try.func57 (by kernel_rfl) rfl #[.int .i64 a0_1, .int .i64 0, .int .i64 4095] rfl (by (try simp only [List.map_toArray, List.map_cons, List.map_nil]); first | done | rfl | (simp only [List.length_drop, List.length_take]; rfl)) ?_; (with_reducible refine (doc_within.calls a0_1 0 4095 false _ A28.out).mono ?_); rintro e w' ⟨rfl, ⟨nd, rfl⟩⟩; refine ⟨_, rfl, ?_⟩))
                  go_ret
                  exact ⟨by first | rfl | (simp [errW_none, errW_some] <;> rfl) | (simp [*, errW_none, errW_some] <;> rfl), by repeat (first | (with_reducible first | exact HB.out | apply below_alloc | apply pw_below_drewN | apply below_drew1 | refine below_set ?_ GE132.out) | exact HB.out)⟩
  · replace c3 := Bool.eq_false_iff.mpr c3
    subst c3
    have H1 : (some 40) = some r := by rw [if_neg (show ¬ (false = true) by decide)] at H; exact H
    clear H
    have H := H1
    clear H1
    obtain rfl := Option.some.inj H
    go_enter Try.func56, Try.ntmps56
    go_wp2_with (first | ((with_reducible refine gate_dst (N := 1) rfl ?_); refine box_event ?hg (N := 1) ?hd (cs := #[.int .i64 a0_0, .int .i64 a0_1, .int .u8 a0_2, .int .i64 a0_3, .int .i64 a0_4]) (t := 46) ?hr ?_; (case hd => rfl); (case hg => rfl); (case hr => first | (go_simp; done) | (go_simp; rfl)); intro gb132 hg w32 hbox hb; have n0_ := Aside0.mk (below_step (by repeat (first | (with_reducible first | exact HB.out | apply below_alloc | apply pw_below_drewN | apply below_drew1) | exact HB.out)) hb); have n1_ := Aside0.mk (hbox); have n2_ := Aside0.mk ((by rw [hg]; exact (below_size (by repeat (first | (with_reducible first | exact HB.out | apply below_alloc | apply pw_below_drewN | apply below_drew1) | exact HB.out))) : w.heap.size ≤ gb132)); have n3_ := Aside0.mk ((by rw [hg]; exact (below_size (by repeat (first | (with_reducible first | exact HB.out | apply below_alloc | apply pw_below_drewN | apply below_drew1) | exact HB.out))) : w.heap.size ≤ gb132)); clear HB; have HB := n0_; have BK132 := n1_; have GW132 := n2_; have GE132 := n3_; clear n0_ n1_ n2_ n3_; clear hb hbox hg; have hcz33_0 : w32.cell? ⟨gb132, 0, none⟩ = some (.int .i64 a0_0) := (blk_cell BK132.out 0).trans rfl; have hcz33_1 : w32.cell? ⟨gb132, 1, none⟩ = some (.int .i64 a0_1) := (blk_cell BK132.out 1).trans rfl; have hcz33_2 : w32.cell? ⟨gb132, 2, none⟩ = some (.int .u8 a0_2) := (blk_cell BK132.out 2).trans rfl; have hcz33_3 : w32.cell? ⟨gb132, 3, none⟩ = some (.int .i64 a0_3) := (blk_cell BK132.out 3).trans rfl; have hcz33_4 : w32.cell? ⟨gb132, 4, none⟩ = some (.int .i64 a0_4) := (blk_cell BK132.out 4).trans rfl; have hfz33_0 := blk_frozen BK132.out 0; have hfz33_1 := blk_frozen BK132.out 1; have hfz33_2 := blk_frozen BK132.out 2; have hfz33_3 := blk_frozen BK132.out 3; have hfz33_4 := blk_frozen BK132.out 4) | ((with_reducible refine gate_callee (f := 57) rfl ?_); refine goesL_ (some 6) rfl rfl Try.func57 (by kernel_rfl) rfl #[.int .i64 a0_0, .int .i64 0, .int .i64 2] rfl (by (try simp only [List.map_toArray, List.map_cons, List.map_nil]); first | done | rfl | (simp only [List.length_drop, List.length_take]; rfl)) ?_; (with_reducible refine (doc_within.calls a0_0 0 2 false _ A2.out).mono ?_); rintro e w' ⟨rfl, ⟨nd, rfl⟩⟩; refine ⟨_, rfl, ?_⟩))
    go_ret
    exact ⟨by first | rfl | (simp [errW_none, errW_some] <;> rfl) | (simp [*, errW_none, errW_some] <;> rfl), by repeat (first | (with_reducible first | exact HB.out | apply below_alloc | apply pw_below_drewN | apply below_drew1 | refine below_set ?_ GE132.out) | exact HB.out)⟩


/-! ### doc_Fits: function 41 -/
def doc_Fits.j0 : Nat → Int → Bool → Int → Int → Int → Int → Int → Option (Int)
  | 0, _, _, _, _, _, _, _ => none
  | k + 1, x0, x22, x140000, x140001, x140002, x140003, x140004 => if x22 = true then (some 44) else (if x140000 = 1 then (if x140001 > x0 then (some 43) else (if x140000 = 2 then (if x140001 ≥ x0 then (some 43) else (some 0)) else (some 0))) else (if x140000 = 2 then (if x140001 ≥ x0 then (some 43) else (some 0)) else (some 0)))
def doc_Fits.f (k : Nat) (a0 : Int) (a1_0 : Int) (a1_1 : Int) (a1_2 : Int) (a1_3 : Int) (a1_4 : Int) : Option (Int) := (doc_Valid.f k a1_0 a1_1 a1_2 a1_3 a1_4).bind fun t140 => (if t140 = 0 then ((doc_within.f a0 0 4096).bind fun t141 => (if t141 = true then (if a1_0 = 1 then (doc_Fits.j0 k a0 (a0 == 4096) a1_0 a1_1 a1_2 a1_3 a1_4) else (doc_Fits.j0 k a0 false a1_0 a1_1 a1_2 a1_3 a1_4)) else (doc_Fits.j0 k a0 true a1_0 a1_1 a1_2 a1_3 a1_4))) else (some t140))
theorem doc_Fits.mono_l : ∀ k, (∀ y0 y1 y2 y3 y4 y5 y6, LeO (doc_Fits.j0 k y0 y1 y2 y3 y4 y5 y6) (doc_Fits.j0 (k + 1) y0 y1 y2 y3 y4 y5 y6))
  | 0 => fun _ _ _ _ _ _ _ r h => by simp [doc_Fits.j0] at h
  | k + 1 => by
    have ih0 := doc_Fits.mono_l k
    · intro y0 y1 y2 y3 y4 y5 y6
      unfold doc_Fits.j0
      repeat' first
      | (with_reducible exact ih0 _ _ _ _ _ _ _)
      | (with_reducible exact doc_Valid.mono _ _ _ _ _ _)
      | (with_reducible exact LeO.refl _)
      | (with_reducible exact LeO.none _)
      | (with_reducible refine LeO.ite ?_ ?_)
      | (with_reducible refine LeO.bind ?_ (fun _ => ?_))
      | exact ih0 _ _ _ _ _ _ _
      | exact doc_Valid.mono _ _ _ _ _ _
      | exact LeO.none _
      | refine LeO.ite ?_ ?_
      | refine LeO.bind ?_ (fun _ => ?_)
theorem doc_Fits.mono : ∀ a0 a1 a2 a3 a4 a5 k, LeO (doc_Fits.f k a0 a1 a2 a3 a4 a5) (doc_Fits.f (k + 1) a0 a1 a2 a3 a4 a5) := by
  intro a0 a1 a2 a3 a4 a5 k
  have ih0 := doc_Fits.mono_l k
  unfold doc_Fits.f
  repeat' first
      | (with_reducible exact ih0 _ _ _ _ _ _ _)
      | (with_reducible exact doc_Valid.mono _ _ _ _ _ _)
      | (with_reducible exact LeO.refl _)
      | (with_reducible exact LeO.none _)
      | (with_reducible refine LeO.ite ?_ ?_)
      | (with_reducible refine LeO.bind ?_ (fun _ => ?_))
      | exact ih0 _ _ _ _ _ _ _
      | exact doc_Valid.mono _ _ _ _ _ _
      | exact LeO.none _
      | refine LeO.ite ?_ ?_
      | refine LeO.bind ?_ (fun _ => ?_)
set_option maxHeartbeats 8000000 in
set_option maxRecDepth 100000 in
theorem doc_Fits.calls (k : Nat) (a0 : Int) (a1_0 : Int) (a1_1 : Int) (a1_2 : Int) (a1_3 : Int) (a1_4 : Int) (r : Int) (w : World) (h : doc_Fits.f k a0 a1_0 a1_1 a1_2 a1_3 a1_4 = some r) :
    Calls Try.prog 41 #[.int .i64 a0, .agg #[.int .i64 a1_0, .int .i64 a1_1, .int .u8 a1_2, .int .i64 a1_3, .int .i64 a1_4]] w fun e w' => e = .returned (.int .i64 r) ∧ Below w.heap.size w w' := by
  have hu46 := Try.underlying46
  have HB := Aside0.mk (Below.refl w.heap.size w)
  have H : ((doc_Valid.f k a1_0 a1_1 a1_2 a1_3 a1_4).bind fun t140 => (if t140 = 0 then ((doc_within.f a0 0 4096).bind fun t141 => (if t141 = true then (if a1_0 = 1 then (doc_Fits.j0 k a0 (a0 == 4096) a1_0 a1_1 a1_2 a1_3 a1_4) else (doc_Fits.j0 k a0 false a1_0 a1_1 a1_2 a1_3 a1_4)) else (doc_Fits.j0 k a0 true a1_0 a1_1 a1_2 a1_3 a1_4))) else (some t140))) = some r := h
  clear h
  replace H := Option.bind_eq_some_iff.mp H
  obtain ⟨t140, A30, H⟩ := H
  replace H : (if t140 = 0 then ((doc_within.f a0 0 4096).bind fun t141 => (if t141 = true then (if a1_0 = 1 then (doc_Fits.j0 k a0 (a0 == 4096) a1_0 a1_1 a1_2 a1_3 a1_4) else (doc_Fits.j0 k a0 false a1_0 a1_1 a1_2 a1_3 a1_4)) else (doc_Fits.j0 k a0 true a1_0 a1_1 a1_2 a1_3 a1_4))) else (some t140)) = some r := H
  have A3 := Aside0.mk A30
  clear A30
  by_cases c4 : t140 = 0
  · rw [if_pos c4] at H
    have c4b0 : (t140 == 0) = true := beq_iff_eq.mpr c4
    have c4b1 : (t140 != 0) = false := bne_eq_false_iff_eq.mpr c4
    clear c4
    have HC5 := Aside0.mk H
    clear H
    go_enter Try.func41, Try.ntmps41
    go_upto_region 4 with (first | ((with_reducible refine gate_dst (N := 3) rfl ?_); refine box_event ?hg (N := 3) ?hd (cs := #[.int .i64 a1_0, .int .i64 a1_1, .int .u8 a1_2, .int .i64 a1_3, .int .i64 a1_4]) (t := 46) ?hr ?_; (case hd => rfl); (case hg => rfl); (case hr => first | (go_simp; done) | (go_simp; rfl)); intro gb139 hg w6 hbox hb; have n0_ := Aside0.mk (below_step (by repeat (first | (with_reducible first | exact HB.out | apply below_alloc | apply pw_below_drewN | apply below_drew1) | exact HB.out)) hb); have n1_ := Aside0.mk (hbox); have n2_ := Aside0.mk ((by rw [hg]; exact (below_size (by repeat (first | (with_reducible first | exact HB.out | apply below_alloc | apply pw_below_drewN | apply below_drew1) | exact HB.out))) : w.heap.size ≤ gb139)); have n3_ := Aside0.mk ((by rw [hg]; exact (below_size (by repeat (first | (with_reducible first | exact HB.out | apply below_alloc | apply pw_below_drewN | apply below_drew1) | exact HB.out))) : w.heap.size ≤ gb139)); clear HB; have HB := n0_; have BK139 := n1_; have GW139 := n2_; have GE139 := n3_; clear n0_ n1_ n2_ n3_; clear hb hbox hg; have hcz7_0 : w6.cell? ⟨gb139, 0, none⟩ = some (.int .i64 a1_0) := (blk_cell BK139.out 0).trans rfl; have hcz7_1 : w6.cell? ⟨gb139, 1, none⟩ = some (.int .i64 a1_1) := (blk_cell BK139.out 1).trans rfl; have hcz7_2 : w6.cell? ⟨gb139, 2, none⟩ = some (.int .u8 a1_2) := (blk_cell BK139.out 2).trans rfl; have hcz7_3 : w6.cell? ⟨gb139, 3, none⟩ = some (.int .i64 a1_3) := (blk_cell BK139.out 3).trans rfl; have hcz7_4 : w6.cell? ⟨gb139, 4, none⟩ = some (.int .i64 a1_4) := (blk_cell BK139.out 4).trans rfl; have hfz7_0 := blk_frozen BK139.out 0; have hfz7_1 := blk_frozen BK139.out 1; have hfz7_2 := blk_frozen BK139.out 2; have hfz7_3 := blk_frozen BK139.out 3; have hfz7_4 := blk_frozen BK139.out 4) | ((with_reducible refine gate_callee (f := 56) rfl ?_); refine goesL_ (some 7) rfl rfl Try.func56 (by kernel_rfl) rfl #[.agg #[.int .i64 a1_0, .int .i64 a1_1, .int .u8 a1_2, .int .i64 a1_3, .int .i64 a1_4]] rfl (by (try simp only [List.map_toArray, List.map_cons, List.map_nil]); first | done | rfl | (simp only [List.length_drop, List.length_take]; rfl)) ?_; (with_reducible refine (doc_Valid.calls k a1_0 a1_1 a1_2 a1_3 a1_4 t140 _ A3.out).mono ?_); rintro e w8 ⟨rfl, hb⟩; refine ⟨_, rfl, ?_⟩; have n0_ := Aside0.mk (blk_below (g := gb139) (o := .cells #[.int .i64 a1_0, .int .i64 a1_1, .int .u8 a1_2, .int .i64 a1_3, .int .i64 a1_4] 46 (0, 0)) (by (with_reducible repeat (first | refine blk_drewN ?_ _ | refine blk_drew ?_ | refine blk_alloc ?_ _)); exact BK139.out) hb); have n1_ := Aside0.mk (below_step (by repeat (first | (with_reducible first | exact HB.out | apply below_alloc | apply pw_below_drewN | apply below_drew1 | refine below_set ?_ GE139.out) | exact HB.out)) hb); clear BK139; clear HB; have BK139 := n0_; have HB := n1_; clear n0_ n1_; (try clear hb); (try clear hb2); (try clear hk); (try clear hi)))
    (try simp only [Act.put, List.setIfInBounds_toArray, List.set_cons_zero, List.set_cons_succ])
    go_cut [22] (fun v22 wc => ∃ (kq : Nat) (x22_4 : Bool), v22 = .bool x22_4 ∧ Aside0 (doc_Fits.j0 kq a0 x22_4 a1_0 a1_1 a1_2 a1_3 a1_4 = some r) ∧ Aside0 (kq ≤ k) ∧ Aside0 (wc.heap[gb139]? = some (.cells #[.int .i64 a1_0, .int .i64 a1_1, .int .u8 a1_2, .int .i64 a1_3, .int .i64 a1_4] 46 (0, 0))) ∧ Aside0 (Below w.heap.size w wc))
    case first =>
      have H := HC5.out
      clear HC5
      replace H := Option.bind_eq_some_iff.mp H
      obtain ⟨t141, A90, H⟩ := H
      replace H : (if t141 = true then (if a1_0 = 1 then (doc_Fits.j0 k a0 (a0 == 4096) a1_0 a1_1 a1_2 a1_3 a1_4) else (doc_Fits.j0 k a0 false a1_0 a1_1 a1_2 a1_3 a1_4)) else (doc_Fits.j0 k a0 true a1_0 a1_1 a1_2 a1_3 a1_4)) = some r := H
      have A9 := Aside0.mk A90
      clear A90
      by_cases c10 : t141 = true
      · subst c10
        have H1 : (if a1_0 = 1 then (doc_Fits.j0 k a0 (a0 == 4096) a1_0 a1_1 a1_2 a1_3 a1_4) else (doc_Fits.j0 k a0 false a1_0 a1_1 a1_2 a1_3 a1_4)) = some r := by rw [if_pos rfl] at H; exact H
        clear H
        have H := H1
        clear H1
        by_cases c11 : a1_0 = 1
        · rw [if_pos c11] at H
          have c11b0 : (a1_0 == 1) = true := beq_iff_eq.mpr c11
          have c11b1 : (a1_0 != 1) = false := bne_eq_false_iff_eq.mpr c11
          clear c11
          (first | rw [c11b0] | (simp only [i64_w, i32_w]; rw [c11b0]) | skip)
          have H' := Aside0.mk H
          clear H
          go_wp2_with (first | ((with_reducible refine gate_callee (f := 57) rfl ?_); refine goesL_ (some 12) rfl rfl Try.func57 (by kernel_rfl) rfl #[.int .i64 a0, .int .i64 0, .int .i64 4096] rfl (by (try simp only [List.map_toArray, List.map_cons, List.map_nil]); first | done | rfl | (simp only [List.length_drop, List.length_take]; rfl)) ?_; (with_reducible refine (doc_within.calls a0 0 4096 true _ A9.out).mono ?_); rintro e w' ⟨rfl, ⟨nd, rfl⟩⟩; refine ⟨_, rfl, ?_⟩; have hcz12_0 : w8.cell? ⟨gb139, 0, none⟩ = some (.int .i64 a1_0) := (blk_cell BK139.out 0).trans rfl; have hcz12_1 : w8.cell? ⟨gb139, 1, none⟩ = some (.int .i64 a1_1) := (blk_cell BK139.out 1).trans rfl; have hcz12_2 : w8.cell? ⟨gb139, 2, none⟩ = some (.int .u8 a1_2) := (blk_cell BK139.out 2).trans rfl; have hcz12_3 : w8.cell? ⟨gb139, 3, none⟩ = some (.int .i64 a1_3) := (blk_cell BK139.out 3).trans rfl; have hcz12_4 : w8.cell? ⟨gb139, 4, none⟩ = some (.int .i64 a1_4) := (blk_cell BK139.out 4).trans rfl; have hfz12_0 := blk_frozen BK139.out 0; have hfz12_1 := blk_frozen BK139.out 1; have hfz12_2 := blk_frozen BK139.out 2; have hfz12_3 := blk_frozen BK139.out 3; have hfz12_4 := blk_frozen BK139.out 4))
          go_meet
          case rel => exact ⟨_, ((a0 == 4096)), (by first | rfl | (simp; done) | (simp [*]; done)), H', ⟨by first | omega | exact Nat.le_refl _⟩, ⟨by (with_reducible repeat (first | refine blk_drewN ?_ _ | refine blk_drew ?_ | refine blk_alloc ?_ _)); exact BK139.out⟩, ⟨by repeat (first | (with_reducible first | exact HB.out | apply below_alloc | apply pw_below_drewN | apply below_drew1 | refine below_set ?_ GE139.out) | exact HB.out)⟩⟩
        · rw [if_neg c11] at H
          have c11b0 : (a1_0 == 1) = false := beq_eq_false_iff_ne.mpr c11
          have c11b1 : (a1_0 != 1) = true := bne_iff_ne.mpr c11
          (first | rw [c11b0] | (simp only [i64_w, i32_w]; rw [c11b0]) | skip)
          have H' := Aside0.mk H
          clear H
          go_wp2_with (first | ((with_reducible refine gate_callee (f := 57) rfl ?_); refine goesL_ (some 12) rfl rfl Try.func57 (by kernel_rfl) rfl #[.int .i64 a0, .int .i64 0, .int .i64 4096] rfl (by (try simp only [List.map_toArray, List.map_cons, List.map_nil]); first | done | rfl | (simp only [List.length_drop, List.length_take]; rfl)) ?_; (with_reducible refine (doc_within.calls a0 0 4096 true _ A9.out).mono ?_); rintro e w' ⟨rfl, ⟨nd, rfl⟩⟩; refine ⟨_, rfl, ?_⟩; have hcz13_0 : w8.cell? ⟨gb139, 0, none⟩ = some (.int .i64 a1_0) := (blk_cell BK139.out 0).trans rfl; have hcz13_1 : w8.cell? ⟨gb139, 1, none⟩ = some (.int .i64 a1_1) := (blk_cell BK139.out 1).trans rfl; have hcz13_2 : w8.cell? ⟨gb139, 2, none⟩ = some (.int .u8 a1_2) := (blk_cell BK139.out 2).trans rfl; have hcz13_3 : w8.cell? ⟨gb139, 3, none⟩ = some (.int .i64 a1_3) := (blk_cell BK139.out 3).trans rfl; have hcz13_4 : w8.cell? ⟨gb139, 4, none⟩ = some (.int .i64 a1_4) := (blk_cell BK139.out 4).trans rfl; have hfz13_0 := blk_frozen BK139.out 0; have hfz13_1 := blk_frozen BK139.out 1; have hfz13_2 := blk_frozen BK139.out 2; have hfz13_3 := blk_frozen BK139.out 3; have hfz13_4 := blk_frozen BK139.out 4))
          go_meet
          case rel => exact ⟨_, (false), (by first | rfl | (simp; done) | (simp [*]; done)), H', ⟨by first | omega | exact Nat.le_refl _⟩, ⟨by (with_reducible repeat (first | refine blk_drewN ?_ _ | refine blk_drew ?_ | refine blk_alloc ?_ _)); exact BK139.out⟩, ⟨by repeat (first | (with_reducible first | exact HB.out | apply below_alloc | apply pw_below_drewN | apply below_drew1 | refine below_set ?_ GE139.out) | exact HB.out)⟩⟩
      · replace c10 := Bool.eq_false_iff.mpr c10
        subst c10
        have H1 : (doc_Fits.j0 k a0 true a1_0 a1_1 a1_2 a1_3 a1_4) = some r := by rw [if_neg (show ¬ (false = true) by decide)] at H; exact H
        clear H
        have H := H1
        clear H1
        have H' := Aside0.mk H
        clear H
        go_wp2_with (first | ((with_reducible refine gate_callee (f := 57) rfl ?_); refine goesL_ (some 12) rfl rfl Try.func57 (by kernel_rfl) rfl #[.int .i64 a0, .int .i64 0, .int .i64 4096] rfl (by (try simp only [List.map_toArray, List.map_cons, List.map_nil]); first | done | rfl | (simp only [List.length_drop, List.length_take]; rfl)) ?_; (with_reducible refine (doc_within.calls a0 0 4096 false _ A9.out).mono ?_); rintro e w' ⟨rfl, ⟨nd, rfl⟩⟩; refine ⟨_, rfl, ?_⟩))
        go_meet
        case rel => exact ⟨_, (true), (by first | rfl | (simp; done) | (simp [*]; done)), H', ⟨by first | omega | exact Nat.le_refl _⟩, ⟨by (with_reducible repeat (first | refine blk_drewN ?_ _ | refine blk_drew ?_ | refine blk_alloc ?_ _)); exact BK139.out⟩, ⟨by repeat (first | (with_reducible first | exact HB.out | apply below_alloc | apply pw_below_drewN | apply below_drew1 | refine below_set ?_ GE139.out) | exact HB.out)⟩⟩
    case rest =>
      clear HC5
      try clear c1
      try clear p2
      try clear c4
      try clear c4b0
      try clear c4b1
      try clear c5
      try clear c10
      try clear c11
      try clear c11b0
      try clear c11b1
      try clear hcz12_0
      try clear hcz12_1
      try clear hcz12_2
      try clear hcz12_3
      try clear hcz12_4
      try clear hcz13_0
      try clear hcz13_1
      try clear hcz13_2
      try clear hcz13_3
      try clear hcz13_4
      try clear hcz7_0
      try clear hcz7_1
      try clear hcz7_2
      try clear hcz7_3
      try clear hcz7_4
      try clear hfz12_0
      try clear hfz12_1
      try clear hfz12_2
      try clear hfz12_3
      try clear hfz12_4
      try clear hfz13_0
      try clear hfz13_1
      try clear hfz13_2
      try clear hfz13_3
      try clear hfz13_4
      try clear hfz7_0
      try clear hfz7_1
      try clear hfz7_2
      try clear hfz7_3
      try clear hfz7_4
      obtain ⟨kq, x22_4, rfl, HA, HJ4, BK139, HB⟩ := hcut
      cases kq with
      | zero => exact absurd HA.out (by simp [doc_Fits.j0])
      | succ kj4 =>
        have H := HA.out
        clear HA
        simp only [doc_Fits.j0] at H
        by_cases c14 : x22_4 = true
        · subst c14
          have H1 : (some 44) = some r := by rw [if_pos rfl] at H; exact H
          clear H
          have H := H1
          clear H1
          obtain rfl := Option.some.inj H
          go_wp2
          go_ret
          exact ⟨by first | rfl | (simp [errW_none, errW_some] <;> rfl) | (simp [*, errW_none, errW_some] <;> rfl), by repeat (first | (with_reducible first | exact HB.out | apply below_alloc | apply pw_below_drewN | apply below_drew1 | refine below_set ?_ GE139.out) | exact HB.out)⟩
        · replace c14 := Bool.eq_false_iff.mpr c14
          subst c14
          have H1 : (if a1_0 = 1 then (if a1_1 > a0 then (some 43) else (if a1_0 = 2 then (if a1_1 ≥ a0 then (some 43) else (some 0)) else (some 0))) else (if a1_0 = 2 then (if a1_1 ≥ a0 then (some 43) else (some 0)) else (some 0))) = some r := by rw [if_neg (show ¬ (false = true) by decide)] at H; exact H
          clear H
          have H := H1
          clear H1
          by_cases c15 : a1_0 = 1
          · rw [if_pos c15] at H
            have c15b0 : (a1_0 == 1) = true := beq_iff_eq.mpr c15
            have c15b1 : (a1_0 != 1) = false := bne_eq_false_iff_eq.mpr c15
            clear c15
            by_cases c16 : a1_1 > a0
            · rw [if_pos c16] at H
              have c16b0 : decide (a0 < a1_1) = true := decide_eq_true c16
              clear c16
              obtain rfl := Option.some.inj H
              have hcz17_0 : wc.cell? ⟨gb139, 0, none⟩ = some (.int .i64 a1_0) := (blk_cell BK139.out 0).trans rfl
              have hcz17_1 : wc.cell? ⟨gb139, 1, none⟩ = some (.int .i64 a1_1) := (blk_cell BK139.out 1).trans rfl
              have hcz17_2 : wc.cell? ⟨gb139, 2, none⟩ = some (.int .u8 a1_2) := (blk_cell BK139.out 2).trans rfl
              have hcz17_3 : wc.cell? ⟨gb139, 3, none⟩ = some (.int .i64 a1_3) := (blk_cell BK139.out 3).trans rfl
              have hcz17_4 : wc.cell? ⟨gb139, 4, none⟩ = some (.int .i64 a1_4) := (blk_cell BK139.out 4).trans rfl
              have hfz17_0 := blk_frozen BK139.out 0
              have hfz17_1 := blk_frozen BK139.out 1
              have hfz17_2 := blk_frozen BK139.out 2
              have hfz17_3 := blk_frozen BK139.out 3
              have hfz17_4 := blk_frozen BK139.out 4
              go_wp2
              go_ret
              exact ⟨by first | rfl | (simp [errW_none, errW_some] <;> rfl) | (simp [*, errW_none, errW_some] <;> rfl), by repeat (first | (with_reducible first | exact HB.out | apply below_alloc | apply pw_below_drewN | apply below_drew1 | refine below_set ?_ GE139.out) | exact HB.out)⟩
            · rw [if_neg c16] at H
              have c16b0 : decide (a0 < a1_1) = false := decide_eq_false c16
              clear c16
              by_cases c18 : a1_0 = 2
              · rw [if_pos c18] at H
                have c18b0 : (a1_0 == 2) = true := beq_iff_eq.mpr c18
                have c18b1 : (a1_0 != 2) = false := bne_eq_false_iff_eq.mpr c18
                clear c18
                by_cases c19 : a1_1 ≥ a0
                · rw [if_pos c19] at H
                  have c19b0 : decide (a0 ≤ a1_1) = true := decide_eq_true c19
                  clear c19
                  obtain rfl := Option.some.inj H
                  have hcz20_0 : wc.cell? ⟨gb139, 0, none⟩ = some (.int .i64 a1_0) := (blk_cell BK139.out 0).trans rfl
                  have hcz20_1 : wc.cell? ⟨gb139, 1, none⟩ = some (.int .i64 a1_1) := (blk_cell BK139.out 1).trans rfl
                  have hcz20_2 : wc.cell? ⟨gb139, 2, none⟩ = some (.int .u8 a1_2) := (blk_cell BK139.out 2).trans rfl
                  have hcz20_3 : wc.cell? ⟨gb139, 3, none⟩ = some (.int .i64 a1_3) := (blk_cell BK139.out 3).trans rfl
                  have hcz20_4 : wc.cell? ⟨gb139, 4, none⟩ = some (.int .i64 a1_4) := (blk_cell BK139.out 4).trans rfl
                  have hfz20_0 := blk_frozen BK139.out 0
                  have hfz20_1 := blk_frozen BK139.out 1
                  have hfz20_2 := blk_frozen BK139.out 2
                  have hfz20_3 := blk_frozen BK139.out 3
                  have hfz20_4 := blk_frozen BK139.out 4
                  go_wp2
                  go_ret
                  exact ⟨by first | rfl | (simp [errW_none, errW_some] <;> rfl) | (simp [*, errW_none, errW_some] <;> rfl), by repeat (first | (with_reducible first | exact HB.out | apply below_alloc | apply pw_below_drewN | apply below_drew1 | refine below_set ?_ GE139.out) | exact HB.out)⟩
                · rw [if_neg c19] at H
                  have c19b0 : decide (a0 ≤ a1_1) = false := decide_eq_false c19
                  clear c19
                  obtain rfl := Option.some.inj H
                  have hcz21_0 : wc.cell? ⟨gb139, 0, none⟩ = some (.int .i64 a1_0) := (blk_cell BK139.out 0).trans rfl
                  have hcz21_1 : wc.cell? ⟨gb139, 1, none⟩ = some (.int .i64 a1_1) := (blk_cell BK139.out 1).trans rfl
                  have hcz21_2 : wc.cell? ⟨gb139, 2, none⟩ = some (.int .u8 a1_2) := (blk_cell BK139.out 2).trans rfl
                  have hcz21_3 : wc.cell? ⟨gb139, 3, none⟩ = some (.int .i64 a1_3) := (blk_cell BK139.out 3).trans rfl
                  have hcz21_4 : wc.cell? ⟨gb139, 4, none⟩ = some (.int .i64 a1_4) := (blk_cell BK139.out 4).trans rfl
                  have hfz21_0 := blk_frozen BK139.out 0
                  have hfz21_1 := blk_frozen BK139.out 1
                  have hfz21_2 := blk_frozen BK139.out 2
                  have hfz21_3 := blk_frozen BK139.out 3
                  have hfz21_4 := blk_frozen BK139.out 4
                  go_wp2
                  go_ret
                  exact ⟨by first | rfl | (simp [errW_none, errW_some] <;> rfl) | (simp [*, errW_none, errW_some] <;> rfl), by repeat (first | (with_reducible first | exact HB.out | apply below_alloc | apply pw_below_drewN | apply below_drew1 | refine below_set ?_ GE139.out) | exact HB.out)⟩
              · rw [if_neg c18] at H
                have c18b0 : (a1_0 == 2) = false := beq_eq_false_iff_ne.mpr c18
                have c18b1 : (a1_0 != 2) = true := bne_iff_ne.mpr c18
                obtain rfl := Option.some.inj H
                have hcz22_0 : wc.cell? ⟨gb139, 0, none⟩ = some (.int .i64 a1_0) := (blk_cell BK139.out 0).trans rfl
                have hcz22_1 : wc.cell? ⟨gb139, 1, none⟩ = some (.int .i64 a1_1) := (blk_cell BK139.out 1).trans rfl
                have hcz22_2 : wc.cell? ⟨gb139, 2, none⟩ = some (.int .u8 a1_2) := (blk_cell BK139.out 2).trans rfl
                have hcz22_3 : wc.cell? ⟨gb139, 3, none⟩ = some (.int .i64 a1_3) := (blk_cell BK139.out 3).trans rfl
                have hcz22_4 : wc.cell? ⟨gb139, 4, none⟩ = some (.int .i64 a1_4) := (blk_cell BK139.out 4).trans rfl
                have hfz22_0 := blk_frozen BK139.out 0
                have hfz22_1 := blk_frozen BK139.out 1
                have hfz22_2 := blk_frozen BK139.out 2
                have hfz22_3 := blk_frozen BK139.out 3
                have hfz22_4 := blk_frozen BK139.out 4
                go_wp2
                go_ret
                exact ⟨by first | rfl | (simp [errW_none, errW_some] <;> rfl) | (simp [*, errW_none, errW_some] <;> rfl), by repeat (first | (with_reducible first | exact HB.out | apply below_alloc | apply pw_below_drewN | apply below_drew1 | refine below_set ?_ GE139.out) | exact HB.out)⟩
          · rw [if_neg c15] at H
            have c15b0 : (a1_0 == 1) = false := beq_eq_false_iff_ne.mpr c15
            have c15b1 : (a1_0 != 1) = true := bne_iff_ne.mpr c15
            by_cases c23 : a1_0 = 2
            · rw [if_pos c23] at H
              have c23b0 : (a1_0 == 2) = true := beq_iff_eq.mpr c23
              have c23b1 : (a1_0 != 2) = false := bne_eq_false_iff_eq.mpr c23
              clear c23
              by_cases c24 : a1_1 ≥ a0
              · rw [if_pos c24] at H
                have c24b0 : decide (a0 ≤ a1_1) = true := decide_eq_true c24
                clear c24
                obtain rfl := Option.some.inj H
                have hcz25_0 : wc.cell? ⟨gb139, 0, none⟩ = some (.int .i64 a1_0) := (blk_cell BK139.out 0).trans rfl
                have hcz25_1 : wc.cell? ⟨gb139, 1, none⟩ = some (.int .i64 a1_1) := (blk_cell BK139.out 1).trans rfl
                have hcz25_2 : wc.cell? ⟨gb139, 2, none⟩ = some (.int .u8 a1_2) := (blk_cell BK139.out 2).trans rfl
                have hcz25_3 : wc.cell? ⟨gb139, 3, none⟩ = some (.int .i64 a1_3) := (blk_cell BK139.out 3).trans rfl
                have hcz25_4 : wc.cell? ⟨gb139, 4, none⟩ = some (.int .i64 a1_4) := (blk_cell BK139.out 4).trans rfl
                have hfz25_0 := blk_frozen BK139.out 0
                have hfz25_1 := blk_frozen BK139.out 1
                have hfz25_2 := blk_frozen BK139.out 2
                have hfz25_3 := blk_frozen BK139.out 3
                have hfz25_4 := blk_frozen BK139.out 4
                go_wp2
                go_ret
                exact ⟨by first | rfl | (simp [errW_none, errW_some] <;> rfl) | (simp [*, errW_none, errW_some] <;> rfl), by repeat (first | (with_reducible first | exact HB.out | apply below_alloc | apply pw_below_drewN | apply below_drew1 | refine below_set ?_ GE139.out) | exact HB.out)⟩
              · rw [if_neg c24] at H
                have c24b0 : decide (a0 ≤ a1_1) = false := decide_eq_false c24
                clear c24
                obtain rfl := Option.some.inj H
                have hcz26_0 : wc.cell? ⟨gb139, 0, none⟩ = some (.int .i64 a1_0) := (blk_cell BK139.out 0).trans rfl
                have hcz26_1 : wc.cell? ⟨gb139, 1, none⟩ = some (.int .i64 a1_1) := (blk_cell BK139.out 1).trans rfl
                have hcz26_2 : wc.cell? ⟨gb139, 2, none⟩ = some (.int .u8 a1_2) := (blk_cell BK139.out 2).trans rfl
                have hcz26_3 : wc.cell? ⟨gb139, 3, none⟩ = some (.int .i64 a1_3) := (blk_cell BK139.out 3).trans rfl
                have hcz26_4 : wc.cell? ⟨gb139, 4, none⟩ = some (.int .i64 a1_4) := (blk_cell BK139.out 4).trans rfl
                have hfz26_0 := blk_frozen BK139.out 0
                have hfz26_1 := blk_frozen BK139.out 1
                have hfz26_2 := blk_frozen BK139.out 2
                have hfz26_3 := blk_frozen BK139.out 3
                have hfz26_4 := blk_frozen BK139.out 4
                go_wp2
                go_ret
                exact ⟨by first | rfl | (simp [errW_none, errW_some] <;> rfl) | (simp [*, errW_none, errW_some] <;> rfl), by repeat (first | (with_reducible first | exact HB.out | apply below_alloc | apply pw_below_drewN | apply below_drew1 | refine below_set ?_ GE139.out) | exact HB.out)⟩
            · rw [if_neg c23] at H
              have c23b0 : (a1_0 == 2) = false := beq_eq_false_iff_ne.mpr c23
              have c23b1 : (a1_0 != 2) = true := bne_iff_ne.mpr c23
              obtain rfl := Option.some.inj H
              have hcz27_0 : wc.cell? ⟨gb139, 0, none⟩ = some (.int .i64 a1_0) := (blk_cell BK139.out 0).trans rfl
              have hcz27_1 : wc.cell? ⟨gb139, 1, none⟩ = some (.int .i64 a1_1) := (blk_cell BK139.out 1).trans rfl
              have hcz27_2 : wc.cell? ⟨gb139, 2, none⟩ = some (.int .u8 a1_2) := (blk_cell BK139.out 2).trans rfl
              have hcz27_3 : wc.cell? ⟨gb139, 3, none⟩ = some (.int .i64 a1_3) := (blk_cell BK139.out 3).trans rfl
              have hcz27_4 : wc.cell? ⟨gb139, 4, none⟩ = some (.int .i64 a1_4) := (blk_cell BK139.out 4).trans rfl
              have hfz27_0 := blk_frozen BK139.out 0
              have hfz27_1 := blk_frozen BK139.out 1
              have hfz27_2 := blk_frozen BK139.out 2
              have hfz27_3 := blk_frozen BK139.out 3
              have hfz27_4 := blk_frozen BK139.out 4
              go_wp2
              go_ret
              exact ⟨by first | rfl | (simp [errW_none, errW_some] <;> rfl) | (simp [*, errW_none, errW_some] <;> rfl), by repeat (first | (with_reducible first | exact HB.out | apply below_alloc | apply pw_below_drewN | apply below_drew1 | refine below_set ?_ GE139.out) | exact HB.out)⟩
  · rw [if_neg c4] at H
    have c4b0 : (t140 == 0) = false := beq_eq_false_iff_ne.mpr c4
    have c4b1 : (t140 != 0) = true := bne_iff_ne.mpr c4
    obtain rfl := Option.some.inj H
    go_enter Try.func41, Try.ntmps41
    go_wp2_with (first | ((with_reducible refine gate_dst (N := 3) rfl ?_); refine box_event ?hg (N := 3) ?hd (cs := #[.int .i64 a1_0, .int .i64 a1_1, .int .u8 a1_2, .int .i64 a1_3, .int .i64 a1_4]) (t := 46) ?hr ?_; (case hd => rfl); (case hg => rfl); (case hr => first | (go_simp; done) | (go_simp; rfl)); intro gb139 hg w28 hbox hb; have n0_ := Aside0.mk (below_step (by repeat (first | (with_reducible first | exact HB.out | apply below_alloc | apply pw_below_drewN | apply below_drew1) | exact HB.out)) hb); have n1_ := Aside0.mk (hbox); have n2_ := Aside0.mk ((by rw [hg]; exact (below_size (by repeat (first | (with_reducible first | exact HB.out | apply below_alloc | apply pw_below_drewN | apply below_drew1) | exact HB.out))) : w.heap.size ≤ gb139)); have n3_ := Aside0.mk ((by rw [hg]; exact (below_size (by repeat (first | (with_reducible first | exact HB.out | apply below_alloc | apply pw_below_drewN | apply below_drew1) | exact HB.out))) : w.heap.size ≤ gb139)); clear HB; have HB := n0_; have BK139 := n1_; have GW139 := n2_; have GE139 := n3_; clear n0_ n1_ n2_ n3_; clear hb hbox hg; have hcz29_0 : w28.cell? ⟨gb139, 0, none⟩ = some (.int .i64 a1_0) := (blk_cell BK139.out 0).trans rfl; have hcz29_1 : w28.cell? ⟨gb139, 1, none⟩ = some (.int .i64 a1_1) := (blk_cell BK139.out 1).trans rfl; have hcz29_2 : w28.cell? ⟨gb139, 2, none⟩ = some (.int .u8 a1_2) := (blk_cell BK139.out 2).trans rfl; have hcz29_3 : w28.cell? ⟨gb139, 3, none⟩ = some (.int .i64 a1_3) := (blk_cell BK139.out 3).trans rfl; have hcz29_4 : w28.cell? ⟨gb139, 4, none⟩ = some (.int .i64 a1_4) := (blk_cell BK139.out 4).trans rfl; have hfz29_0 := blk_frozen BK139.out 0; have hfz29_1 := blk_frozen BK139.out 1; have hfz29_2 := blk_frozen BK139.out 2; have hfz29_3 := blk_frozen BK139.out 3; have hfz29_4 := blk_frozen BK139.out 4) | ((with_reducible refine gate_callee (f := 56) rfl ?_); refine goesL_ (some 7) rfl rfl Try.func56 (by kernel_rfl) rfl #[.agg #[.int .i64 a1_0, .int .i64 a1_1, .int .u8 a1_2, .int .i64 a1_3, .int .i64 a1_4]] rfl (by (try simp only [List.map_toArray, List.map_cons, List.map_nil]); first | done | rfl | (simp only [List.length_drop, List.length_take]; rfl)) ?_; (with_reducible refine (doc_Valid.calls k a1_0 a1_1 a1_2 a1_3 a1_4 t140 _ A3.out).mono ?_); rintro e w30 ⟨rfl, hb⟩; refine ⟨_, rfl, ?_⟩; have n0_ := Aside0.mk (blk_below (g := gb139) (o := .cells #[.int .i64 a1_0, .int .i64 a1_1, .int .u8 a1_2, .int .i64 a1_3, .int .i64 a1_4] 46 (0, 0)) (by (with_reducible repeat (first | refine blk_drewN ?_ _ | refine blk_drew ?_ | refine blk_alloc ?_ _)); exact BK139.out) hb); have n1_ := Aside0.mk (below_step (by repeat (first | (with_reducible first | exact HB.out | apply below_alloc | apply pw_below_drewN | apply below_drew1 | refine below_set ?_ GE139.out) | exact HB.out)) hb); clear BK139; clear HB; have BK139 := n0_; have HB := n1_; clear n0_ n1_; (try clear hb); (try clear hb2); (try clear hk); (try clear hi)))
    go_ret
    exact ⟨by first | rfl | (simp [errW_none, errW_some] <;> rfl) | (simp [*, errW_none, errW_some] <;> rfl), by repeat (first | (with_reducible first | exact HB.out | apply below_alloc | apply pw_below_drewN | apply below_drew1 | refine below_set ?_ GE139.out) | exact HB.out)⟩


/-! ### doc_Equal: function 35 -/
def doc_Equal.l0 : Nat → List (S76) → List (S76) → Int → Int → Option (Bool)
  | 0, _, _, _, _ => none
  | k + 1, x0, x1, x12, x13 => if x13 < x12 then (if 0 ≤ x13 then (if x13 < (x0.length : Int) then (if x13 < (x1.length : Int) then (if (!(((rd_T76 x0 x13).f0) == ((rd_T76 x1 x13).f0)) || (!(((rd_T76 x0 x13).f1) == ((rd_T76 x1 x13).f1)) || (!(((rd_T76 x0 x13).f2) == ((rd_T76 x1 x13).f2))))) = true then (some false) else (doc_Equal.l0 k x0 x1 x12 (wrap64 (x13 + 1)))) else (none)) else (none)) else (none)) else (some true)
def doc_Equal.f (k : Nat) (l0 : List (S76)) (l1 : List (S76)) : Option (Bool) := if (l0.length : Int) = (l1.length : Int) then (doc_Equal.l0 k l0 l1 (l0.length : Int) 0) else (some false)
theorem doc_Equal.mono_l : ∀ k, (∀ y0 y1 y2 y3, LeO (doc_Equal.l0 k y0 y1 y2 y3) (doc_Equal.l0 (k + 1) y0 y1 y2 y3))
  | 0 => fun _ _ _ _ r h => by simp [doc_Equal.l0] at h
  | k + 1 => by
    have ih0 := doc_Equal.mono_l k
    · intro y0 y1 y2 y3
      unfold doc_Equal.l0
      repeat' first
      | (with_reducible exact ih0 _ _ _ _)
      | (with_reducible exact LeO.refl _)
      | (with_reducible exact LeO.none _)
      | (with_reducible refine LeO.ite ?_ ?_)
      | (with_reducible refine LeO.bind ?_ (fun _ => ?_))
      | exact ih0 _ _ _ _
      | exact LeO.none _
      | refine LeO.ite ?_ ?_
      | refine LeO.bind ?_ (fun _ => ?_)
theorem doc_Equal.mono : ∀ a0 a1 k, LeO (doc_Equal.f k a0 a1) (doc_Equal.f (k + 1) a0 a1) := by
  intro a0 a1 k
  have ih0 := doc_Equal.mono_l k
  unfold doc_Equal.f
  repeat' first
      | (with_reducible exact ih0 _ _ _ _)
      | (with_reducible exact LeO.refl _)
      | (with_reducible exact LeO.none _)
      | (with_reducible refine LeO.ite ?_ ?_)
      | (with_reducible refine LeO.bind ?_ (fun _ => ?_))
      | exact ih0 _ _ _ _
      | exact LeO.none _
      | refine LeO.ite ?_ ?_
      | refine LeO.bind ?_ (fun _ => ?_)
set_option maxHeartbeats 8000000 in
set_option maxRecDepth 100000 in
theorem doc_Equal.calls (k : Nat) (A0 : Option Addr) (c0 : Nat) (l0 : List (S76)) (A1 : Option Addr) (c1 : Nat) (l1 : List (S76)) (r : Bool) (w : World) (hr0 : Kd.C k76 w A0 l0.length l0) (hc0 : l0.length ≤ c0) (hr1 : Kd.C k76 w A1 l1.length l1) (hc1 : l1.length ≤ c1) (h : doc_Equal.f k l0 l1 = some r) :
    Calls Try.prog 35 #[.slice A0 l0.length c0, .slice A1 l1.length c1] w fun e w' => e = .returned (.bool r) ∧ Drawn0 w w' := by
  have hu76 := Try.underlying76
  have HR0 := Aside0.mk hr0
  have HC0 := Aside0.mk hc0
  clear hr0 hc0
  have HR1 := Aside0.mk hr1
  have HC1 := Aside0.mk hc1
  clear hr1 hc1
  have H : (if (l0.length : Int) = (l1.length : Int) then (doc_Equal.l0 k l0 l1 (l0.length : Int) 0) else (some false)) = some r := h
  clear h
  by_cases c3 : (l0.length : Int) = (l1.length : Int)
  · rw [if_pos c3] at H
    have c3b0 : ((l0.length : Int) == (l1.length : Int)) = true := beq_iff_eq.mpr c3
    have c3b1 : ((l0.length : Int) != (l1.length : Int)) = false := bne_eq_false_iff_eq.mpr c3
    have c3b2 : (l0.length == l1.length) = true := by first | simpa using c3 | (simp at c3 ⊢; omega)
    clear c3
    have H' := Aside0.mk H
    clear H
    go_enter Try.func35, Try.ntmps35
    go_wp2
    repeat (go_quiet (fail); try go_wp2)
    go_loopg [13] k (fun kq v13 w' => ∃ (x13_1 : Int), v13 = .int .i64 x13_1 ∧ Aside0 (doc_Equal.l0 kq l0 l1 (l0.length : Int) x13_1 = some r) ∧ Aside0 (kq ≤ k) ∧ Drawn0 w w')
    case atStart => exact ⟨(0), (by first | rfl | (simp; done) | (simp [*]; done)), H', ⟨Nat.le_refl _⟩, by repeat (first | exact Drawn0.refl _ | apply Drawn0.step)⟩
    case round =>
      clear H'
      try clear c1
      try clear p2
      try clear c3
      try clear c3b0
      try clear c3b1
      try clear c3b2
      obtain ⟨x13_1, rfl, HA, HK1, ⟨m1, rfl⟩⟩ := hrel
      cases gk with
      | zero => exact absurd HA.out (by simp [doc_Equal.l0])
      | succ k1 =>
        have H := HA.out
        clear HA
        simp only [doc_Equal.l0] at H
        by_cases c4 : x13_1 < (l0.length : Int)
        · rw [if_pos c4] at H
          have c4b0 : decide (x13_1 < (l0.length : Int)) = true := decide_eq_true c4
          clear c4
          by_cases c5 : 0 ≤ x13_1
          · rw [if_pos c5] at H
            have c5b0 : decide (0 ≤ x13_1) = true := decide_eq_true c5
            clear c5
            by_cases c6 : x13_1 < (l0.length : Int)
            · rw [if_pos c6] at H
              have c6b0 : decide (x13_1 < (l0.length : Int)) = true := decide_eq_true c6
              clear c6
              by_cases c7 : x13_1 < (l1.length : Int)
              · rw [if_pos c7] at H
                have c7b0 : decide (x13_1 < (l1.length : Int)) = true := decide_eq_true c7
                clear c7
                by_cases c8 : (!(((rd_T76 l0 x13_1).f0) == ((rd_T76 l1 x13_1).f0)) || (!(((rd_T76 l0 x13_1).f1) == ((rd_T76 l1 x13_1).f1)) || (!(((rd_T76 l0 x13_1).f2) == ((rd_T76 l1 x13_1).f2))))) = true
                · rw [if_pos c8] at H
                  have c8b0 : (!(((rd_T76 l0 x13_1).f0) == ((rd_T76 l1 x13_1).f0)) || (!(((rd_T76 l0 x13_1).f1) == ((rd_T76 l1 x13_1).f1)) || (!(((rd_T76 l0 x13_1).f2) == ((rd_T76 l1 x13_1).f2))))) = true := c8
                  clear c8
                  obtain rfl := Option.some.inj H
                  have p398 : 0 ≤ (x13_1 : Int) := of_decide_eq_true (by first | (with_reducible assumption) | assumption)
                  have q398 : x13_1 < (l0.length : Int) := of_decide_eq_true (by first | (with_reducible assumption) | assumption)
                  obtain ⟨ad398, e398, hx398_0, hx398_1, hx398_2⟩ := at_T76 HR0.out x13_1 p398 q398
                  cases e398
                  replace p398 := eq_true p398
                  replace q398 := eq_true q398
                  have p399 : 0 ≤ (x13_1 : Int) := of_decide_eq_true (by first | (with_reducible assumption) | assumption)
                  have q399 : x13_1 < (l1.length : Int) := of_decide_eq_true (by first | (with_reducible assumption) | assumption)
                  obtain ⟨ad399, e399, hx399_0, hx399_1, hx399_2⟩ := at_T76 HR1.out x13_1 p399 q399
                  cases e399
                  replace p399 := eq_true p399
                  replace q399 := eq_true q399
                  go_wp2
                  repeat (go_quiet (fail); try go_wp2)
                  go_ret
                  exact ⟨by first | rfl | (simp; done) | (simp [*]; done), by repeat (first | exact Drawn0.refl _ | apply Drawn0.step)⟩
                · rw [if_neg c8] at H
                  have c8b0 : (!(((rd_T76 l0 x13_1).f0) == ((rd_T76 l1 x13_1).f0)) || (!(((rd_T76 l0 x13_1).f1) == ((rd_T76 l1 x13_1).f1)) || (!(((rd_T76 l0 x13_1).f2) == ((rd_T76 l1 x13_1).f2))))) = false := by simpa using c8
                  clear c8
                  have H' := Aside0.mk H
                  clear H
                  have p398 : 0 ≤ (x13_1 : Int) := of_decide_eq_true (by first | (with_reducible assumption) | assumption)
                  have q398 : x13_1 < (l0.length : Int) := of_decide_eq_true (by first | (with_reducible assumption) | assumption)
                  obtain ⟨ad398, e398, hx398_0, hx398_1, hx398_2⟩ := at_T76 HR0.out x13_1 p398 q398
                  cases e398
                  replace p398 := eq_true p398
                  replace q398 := eq_true q398
                  have p399 : 0 ≤ (x13_1 : Int) := of_decide_eq_true (by first | (with_reducible assumption) | assumption)
                  have q399 : x13_1 < (l1.length : Int) := of_decide_eq_true (by first | (with_reducible assumption) | assumption)
                  obtain ⟨ad399, e399, hx399_0, hx399_1, hx399_2⟩ := at_T76 HR1.out x13_1 p399 q399
                  cases e399
                  replace p399 := eq_true p399
                  replace q399 := eq_true q399
                  go_wp2
                  repeat (go_quiet (fail); try go_wp2)
                  go_roundg k1
                  case measure => have := HK1.out; omega
                  case rel => exact ⟨(wrap64 (x13_1 + 1)), (by first | rfl | (simp; done) | (simp [*]; done)), H', ⟨by have := HK1.out; omega⟩, by repeat (first | exact Drawn0.refl _ | apply Drawn0.step)⟩
              · rw [if_neg c7] at H
                exact absurd H (by simp)
            · rw [if_neg c6] at H
              exact absurd H (by simp)
          · rw [if_neg c5] at H
            exact absurd H (by simp)
        · rw [if_neg c4] at H
          have c4b0 : decide (x13_1 < (l0.length : Int)) = false := decide_eq_false c4
          clear c4
          obtain rfl := Option.some.inj H
          go_wp2
          repeat (go_quiet (fail); try go_wp2)
          go_ret
          exact ⟨by first | rfl | (simp; done) | (simp [*]; done), by repeat (first | exact Drawn0.refl _ | apply Drawn0.step)⟩
  · rw [if_neg c3] at H
    have c3b0 : ((l0.length : Int) == (l1.length : Int)) = false := beq_eq_false_iff_ne.mpr c3
    have c3b1 : ((l0.length : Int) != (l1.length : Int)) = true := bne_iff_ne.mpr c3
    have c3b2 : (l0.length == l1.length) = false := by first | simpa using c3 | (simp at c3 ⊢; omega)
    obtain rfl := Option.some.inj H
    go_enter Try.func35, Try.ntmps35
    go_wp2
    repeat (go_quiet (fail); try go_wp2)
    go_ret
    exact ⟨by first | rfl | (simp; done) | (simp [*]; done), by repeat (first | exact Drawn0.refl _ | apply Drawn0.step)⟩


/-! ### jotterlaw24_words: function 31 -/
def jotterlaw24_words.l0 : Nat → List ByteArray → List ByteArray → Int → Option (Bool)
  | 0, _, _, _ => none
  | k + 1, x0, x1, x5 => if x5 < (x0.length : Int) then (if 0 ≤ x5 then (if x5 < (x1.length : Int) then (if (rdOf ByteArray.empty x0 x5).toList = (rdOf ByteArray.empty x1 x5).toList then (jotterlaw24_words.l0 k x0 x1 (wrap64 (x5 + 1))) else (some false)) else (none)) else (none)) else (some true)
def jotterlaw24_words.f (k : Nat) (l0 : List ByteArray) (l1 : List ByteArray) : Option (Bool) := if (l0.length : Int) = (l1.length : Int) then (jotterlaw24_words.l0 k l0 l1 0) else (some false)
theorem jotterlaw24_words.mono_l : ∀ k, (∀ y0 y1 y2, LeO (jotterlaw24_words.l0 k y0 y1 y2) (jotterlaw24_words.l0 (k + 1) y0 y1 y2))
  | 0 => fun _ _ _ r h => by simp [jotterlaw24_words.l0] at h
  | k + 1 => by
    have ih0 := jotterlaw24_words.mono_l k
    · intro y0 y1 y2
      unfold jotterlaw24_words.l0
      repeat' first
      | (with_reducible exact ih0 _ _ _)
      | (with_reducible exact LeO.refl _)
      | (with_reducible exact LeO.none _)
      | (with_reducible refine LeO.ite ?_ ?_)
      | (with_reducible refine LeO.bind ?_ (fun _ => ?_))
      | exact ih0 _ _ _
      | exact LeO.none _
      | refine LeO.ite ?_ ?_
      | refine LeO.bind ?_ (fun _ => ?_)
theorem jotterlaw24_words.mono : ∀ a0 a1 k, LeO (jotterlaw24_words.f k a0 a1) (jotterlaw24_words.f (k + 1) a0 a1) := by
  intro a0 a1 k
  have ih0 := jotterlaw24_words.mono_l k
  unfold jotterlaw24_words.f
  repeat' first
      | (with_reducible exact ih0 _ _ _)
      | (with_reducible exact LeO.refl _)
      | (with_reducible exact LeO.none _)
      | (with_reducible refine LeO.ite ?_ ?_)
      | (with_reducible refine LeO.bind ?_ (fun _ => ?_))
      | exact ih0 _ _ _
      | exact LeO.none _
      | refine LeO.ite ?_ ?_
      | refine LeO.bind ?_ (fun _ => ?_)
set_option maxHeartbeats 8000000 in
set_option maxRecDepth 100000 in
theorem jotterlaw24_words.calls (k : Nat) (A0 : Option Addr) (c0 : Nat) (l0 : List ByteArray) (A1 : Option Addr) (c1 : Nat) (l1 : List ByteArray) (r : Bool) (w : World) (hr0 : Kd.C Kd.string w A0 l0.length l0) (hc0 : l0.length ≤ c0) (hr1 : Kd.C Kd.string w A1 l1.length l1) (hc1 : l1.length ≤ c1) (h : jotterlaw24_words.f k l0 l1 = some r) :
    Calls Try.prog 31 #[.slice A0 l0.length c0, .slice A1 l1.length c1] w fun e w' => e = .returned (.bool r) ∧ Drawn0 w w' := by
  have HR0 := Aside0.mk hr0
  have HC0 := Aside0.mk hc0
  clear hr0 hc0
  have HR1 := Aside0.mk hr1
  have HC1 := Aside0.mk hc1
  clear hr1 hc1
  have H : (if (l0.length : Int) = (l1.length : Int) then (jotterlaw24_words.l0 k l0 l1 0) else (some false)) = some r := h
  clear h
  by_cases c3 : (l0.length : Int) = (l1.length : Int)
  · rw [if_pos c3] at H
    have c3b0 : ((l0.length : Int) == (l1.length : Int)) = true := beq_iff_eq.mpr c3
    have c3b1 : ((l0.length : Int) != (l1.length : Int)) = false := bne_eq_false_iff_eq.mpr c3
    have c3b2 : (l0.length == l1.length) = true := by first | simpa using c3 | (simp at c3 ⊢; omega)
    clear c3
    have H' := Aside0.mk H
    clear H
    go_enter Try.func31, Try.ntmps31
    go_wp2
    repeat (go_quiet (fail); try go_wp2)
    go_loopg [5] k (fun kq v5 w' => ∃ (x5_1 : Int), v5 = .int .i64 x5_1 ∧ Aside0 (jotterlaw24_words.l0 kq l0 l1 x5_1 = some r) ∧ Aside0 (kq ≤ k) ∧ Drawn0 w w')
    case atStart => exact ⟨(0), (by first | rfl | (simp; done) | (simp [*]; done)), H', ⟨Nat.le_refl _⟩, by repeat (first | exact Drawn0.refl _ | apply Drawn0.step)⟩
    case round =>
      clear H'
      try clear c1
      try clear p2
      try clear c3
      try clear c3b0
      try clear c3b1
      try clear c3b2
      obtain ⟨x5_1, rfl, HA, HK1, ⟨m1, rfl⟩⟩ := hrel
      cases gk with
      | zero => exact absurd HA.out (by simp [jotterlaw24_words.l0])
      | succ k1 =>
        have H := HA.out
        clear HA
        simp only [jotterlaw24_words.l0] at H
        by_cases c4 : x5_1 < (l0.length : Int)
        · rw [if_pos c4] at H
          have c4b0 : decide (x5_1 < (l0.length : Int)) = true := decide_eq_true c4
          clear c4
          by_cases c5 : 0 ≤ x5_1
          · rw [if_pos c5] at H
            have c5b0 : decide (0 ≤ x5_1) = true := decide_eq_true c5
            clear c5
            by_cases c6 : x5_1 < (l1.length : Int)
            · rw [if_pos c6] at H
              have c6b0 : decide (x5_1 < (l1.length : Int)) = true := decide_eq_true c6
              clear c6
              by_cases c7 : (rdOf ByteArray.empty l0 x5_1).toList = (rdOf ByteArray.empty l1 x5_1).toList
              · rw [if_pos c7] at H
                have c7b0 : ((rdOf ByteArray.empty l0 x5_1).toList == (rdOf ByteArray.empty l1 x5_1).toList) = true := beq_iff_eq.mpr c7
                have c7b1 : ((rdOf ByteArray.empty l0 x5_1).toList != (rdOf ByteArray.empty l1 x5_1).toList) = false := bne_eq_false_iff_eq.mpr c7
                clear c7
                have H' := Aside0.mk H
                clear H
                have p303 : 0 ≤ (x5_1 : Int) := of_decide_eq_true (by first | (with_reducible assumption) | assumption)
                have q303 : x5_1 < (l0.length : Int) := of_decide_eq_true (by first | (with_reducible assumption) | assumption)
                obtain ⟨ad303, e303, hx303_0⟩ := Kd.at_string HR0.out x5_1 p303 q303
                cases e303
                replace p303 := eq_true p303
                replace q303 := eq_true q303
                have p304 : 0 ≤ (x5_1 : Int) := of_decide_eq_true (by first | (with_reducible assumption) | assumption)
                have q304 : x5_1 < (l1.length : Int) := of_decide_eq_true (by first | (with_reducible assumption) | assumption)
                obtain ⟨ad304, e304, hx304_0⟩ := Kd.at_string HR1.out x5_1 p304 q304
                cases e304
                replace p304 := eq_true p304
                replace q304 := eq_true q304
                go_wp2
                repeat (go_quiet (fail); try go_wp2)
                go_roundg k1
                case measure => have := HK1.out; omega
                case rel => exact ⟨(wrap64 (x5_1 + 1)), (by first | rfl | (simp; done) | (simp [*]; done)), H', ⟨by have := HK1.out; omega⟩, by repeat (first | exact Drawn0.refl _ | apply Drawn0.step)⟩
              · rw [if_neg c7] at H
                have c7b0 : ((rdOf ByteArray.empty l0 x5_1).toList == (rdOf ByteArray.empty l1 x5_1).toList) = false := beq_eq_false_iff_ne.mpr c7
                have c7b1 : ((rdOf ByteArray.empty l0 x5_1).toList != (rdOf ByteArray.empty l1 x5_1).toList) = true := bne_iff_ne.mpr c7
                obtain rfl := Option.some.inj H
                have p303 : 0 ≤ (x5_1 : Int) := of_decide_eq_true (by first | (with_reducible assumption) | assumption)
                have q303 : x5_1 < (l0.length : Int) := of_decide_eq_true (by first | (with_reducible assumption) | assumption)
                obtain ⟨ad303, e303, hx303_0⟩ := Kd.at_string HR0.out x5_1 p303 q303
                cases e303
                replace p303 := eq_true p303
                replace q303 := eq_true q303
                have p304 : 0 ≤ (x5_1 : Int) := of_decide_eq_true (by first | (with_reducible assumption) | assumption)
                have q304 : x5_1 < (l1.length : Int) := of_decide_eq_true (by first | (with_reducible assumption) | assumption)
                obtain ⟨ad304, e304, hx304_0⟩ := Kd.at_string HR1.out x5_1 p304 q304
                cases e304
                replace p304 := eq_true p304
                replace q304 := eq_true q304
                go_wp2
                repeat (go_quiet (fail); try go_wp2)
                go_ret
                exact ⟨by first | rfl | (simp; done) | (simp [*]; done), by repeat (first | exact Drawn0.refl _ | apply Drawn0.step)⟩
            · rw [if_neg c6] at H
              exact absurd H (by simp)
          · rw [if_neg c5] at H
            exact absurd H (by simp)
        · rw [if_neg c4] at H
          have c4b0 : decide (x5_1 < (l0.length : Int)) = false := decide_eq_false c4
          clear c4
          obtain rfl := Option.some.inj H
          go_wp2
          repeat (go_quiet (fail); try go_wp2)
          go_ret
          exact ⟨by first | rfl | (simp; done) | (simp [*]; done), by repeat (first | exact Drawn0.refl _ | apply Drawn0.step)⟩
  · rw [if_neg c3] at H
    have c3b0 : ((l0.length : Int) == (l1.length : Int)) = false := beq_eq_false_iff_ne.mpr c3
    have c3b1 : ((l0.length : Int) != (l1.length : Int)) = true := bne_iff_ne.mpr c3
    have c3b2 : (l0.length == l1.length) = false := by first | simpa using c3 | (simp at c3 ⊢; omega)
    obtain rfl := Option.some.inj H
    go_enter Try.func31, Try.ntmps31
    go_wp2
    repeat (go_quiet (fail); try go_wp2)
    go_ret
    exact ⟨by first | rfl | (simp; done) | (simp [*]; done), by repeat (first | exact Drawn0.refl _ | apply Drawn0.step)⟩

end Go.Proofs.Ytfngcabckfmhnaa.PA
