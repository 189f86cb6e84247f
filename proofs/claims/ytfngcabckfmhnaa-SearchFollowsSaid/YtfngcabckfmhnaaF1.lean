/- What doc.Fits computes (plain Lean). -/
import Derived.Test.YtfngcabckfmhnaaH3
import Derived.Test.YtfngcabckfmhnaaB6
namespace Go.Proofs.Ytfngcabckfmhnaa.B
open Go.RowKit Go.Proofs.YtfngcabckfmhnaaW.PrintWords Go.Proofs.YtfngcabckfmhnaaW.PrintLast Go.Proofs.YtfngcabckfmhnaaW.PrintMore Go.Proofs.Ytfngcabckfmhnaa.PA

/-- doc.Valid's answer. -/
def vld (k p c cl s : Int) : Int :=
  if ¬ (0 ≤ k ∧ k ≤ 2) then 40
  else if ¬ ((1 ≤ cl ∧ cl ≤ 64) ∧ (1 ≤ s ∧ s ≤ 64)) then 41
  else if k = 1 ∧ ¬ (32 ≤ c ∧ c ≤ 126) then 42
  else if ¬ k = 1 ∧ ¬ c = 0 then 42
  else if 0 ≤ p ∧ p ≤ (if k = 0 then 0 else 4095) then 0 else 43
/-- doc.Fits' answer. -/
def fit (n k p c cl s : Int) : Int :=
  if ¬ vld k p c cl s = 0 then vld k p c cl s
  else if ¬ (0 ≤ n ∧ n ≤ 4096) ∨ (k = 1 ∧ n = 4096) then 44
  else if (k = 1 ∧ p > n) ∨ (k = 2 ∧ p ≥ n) then 43 else 0

theorem within_pure (a l h : Int) : doc_within.f a l h = some (decide (l ≤ a ∧ a ≤ h)) := by
  unfold doc_within.f
  by_cases h1 : l ≤ a
  · rw [if_pos h1]; simp [h1]
  · rw [if_neg h1]; simp [h1]

theorem valid_j1 (k : Nat) (a p c cl s : Int) : doc_Valid.j1 (k + 1) a p c cl s = some (if 0 ≤ p ∧ p ≤ (if a = 0 then 0 else 4095) then 0 else 43) := by
  simp only [doc_Valid.j1]
  by_cases h : a = 0
  · rw [if_pos h, if_pos h, within_pure]
    by_cases h2 : 0 ≤ p ∧ p ≤ 0
    · simp [h2]
    · simp [h2]
  · rw [if_neg h, if_neg h, within_pure]
    by_cases h2 : 0 ≤ p ∧ p ≤ 4095
    · simp [h2]
    · simp [h2]
theorem valid_pure (k : Nat) (a p c cl s : Int) (hc : 0 ≤ c ∧ c ≤ 255) : doc_Valid.f (k + 2) a p c cl s = some (vld a p c cl s) := by
  unfold doc_Valid.f vld
  rw [within_pure]
  simp only [Option.bind_some]
  by_cases h1 : 0 ≤ a ∧ a ≤ 2
  · simp only [h1, decide_true, if_true, not_true, if_false, and_self, within_pure, Option.bind_some]
    by_cases h2 : 1 ≤ cl ∧ cl ≤ 64
    · simp only [h2, decide_true, if_true, and_self, true_and]
      simp only [doc_Valid.j0]
      by_cases h3 : 1 ≤ s ∧ s ≤ 64
      · simp only [h3, decide_true, Bool.not_true, Bool.false_eq_true, if_false, not_true, and_self]
        have hw : wrap64 c = c := by unfold wrap64; omega
        rw [hw]
        by_cases h4 : a = 1
        · simp only [h4, if_true, true_and, within_pure, Option.bind_some, not_true, false_and, if_false]
          by_cases h5 : 32 ≤ c ∧ c ≤ 126
          · simp only [h5, decide_true, if_true, not_true, if_false, and_self, valid_j1]
          · simp only [h5, decide_false, Bool.false_eq_true, if_false, not_false_eq_true, if_true]
        · simp only [h4, if_false, false_and, not_false_eq_true, true_and]
          by_cases h5 : c = 0
          · simp only [h5, if_true, not_true, if_false, valid_j1]
          · simp only [h5, if_false, not_false_eq_true, if_true]
      · simp only [h3, decide_false, Bool.not_false, if_true, not_false_eq_true]
    · simp only [h2, decide_false, Bool.false_eq_true, if_false, false_and, not_false_eq_true, if_true, doc_Valid.j0]
  · simp only [h1, decide_false, Bool.false_eq_true, if_false, not_false_eq_true, if_true]
theorem fits_pure (n a p c cl s : Int) (hc : 0 ≤ c ∧ c ≤ 255) : doc_Fits.f 2 n a p c cl s = some (fit n a p c cl s) := by
  unfold doc_Fits.f fit
  rw [valid_pure 0 a p c cl s hc]
  simp only [Option.bind_some, within_pure]
  by_cases h0 : vld a p c cl s = 0
  · simp only [h0, if_true, not_true, if_false, doc_Fits.j0]
    by_cases h1 : 0 ≤ n ∧ n ≤ 4096
    · simp only [h1, decide_true, if_true, not_true, false_or, and_self]
      by_cases h2 : a = 1
      · simp only [h2, if_true, true_and, beq_iff_eq]
        by_cases h3 : n = 4096
        · simp only [h3, if_true]
        · simp only [h3, if_false, Int.reduceEq, false_and, or_false]
          by_cases h4 : p > n
          · simp only [h4, if_true]
          · simp only [h4, if_false]
      · simp only [h2, if_false, false_and, Bool.false_eq_true, false_or]
        by_cases h3 : a = 2
        · simp only [h3, if_true, true_and]
          by_cases h4 : p ≥ n
          · simp only [h4, if_true]
          · simp only [h4, if_false]
        · simp only [h3, if_false, false_and]
    · simp only [h1, decide_false, Bool.false_eq_true, if_false, not_false_eq_true, true_or, if_true]
  · simp only [h0, if_false, not_false_eq_true, if_true]
/-- What an operation that fits is like. -/
theorem fit_zero {n k p c cl s : Int} (h : fit n k p c cl s = 0) : (0 ≤ k ∧ k ≤ 2) ∧ (1 ≤ cl ∧ cl ≤ 64) ∧ (1 ≤ s ∧ s ≤ 64) ∧ (0 ≤ n ∧ n ≤ 4096) ∧ 0 ≤ p ∧ (k = 1 → 32 ≤ c ∧ c ≤ 126 ∧ p ≤ n ∧ n < 4096) ∧ (k = 2 → c = 0 ∧ p < n) := by
  unfold fit at h
  by_cases h0 : vld k p c cl s = 0
  · rw [if_neg (by simpa using h0)] at h
    unfold vld at h0
    have h5 : 0 ≤ p ∧ p ≤ (if k = 0 then 0 else 4095) := by
      repeat' (split at h0 <;> try omega)
    repeat' (split at h <;> try omega)
    all_goals repeat' (split at h0 <;> try omega)
  · rw [if_pos h0] at h
    omega
theorem fit_ins {n p c cl s : Int} (hcl : 1 ≤ cl ∧ cl ≤ 64) (hs : 1 ≤ s ∧ s ≤ 64) (hc : 32 ≤ c ∧ c ≤ 126) (hp : 0 ≤ p ∧ p ≤ n) (hn : n < 4096) : fit n 1 p c cl s = 0 := by
  have h0 : vld 1 p c cl s = 0 := by unfold vld; rw [if_neg (by omega), if_neg (by omega), if_neg (by omega), if_neg (by omega), if_pos (by rw [if_neg (by omega)]; omega)]
  unfold fit
  rw [if_neg (by simpa using h0), if_neg (by omega), if_neg (by omega)]
theorem fit_del {n p cl s : Int} (hcl : 1 ≤ cl ∧ cl ≤ 64) (hs : 1 ≤ s ∧ s ≤ 64) (hp : 0 ≤ p ∧ p < n) (hn : n ≤ 4096) : fit n 2 p 0 cl s = 0 := by
  have h0 : vld 2 p 0 cl s = 0 := by unfold vld; rw [if_neg (by omega), if_neg (by omega), if_neg (by omega), if_neg (by omega), if_pos (by rw [if_neg (by omega)]; omega)]
  unfold fit
  rw [if_neg (by simpa using h0), if_neg (by omega), if_neg (by omega)]
end Go.Proofs.Ytfngcabckfmhnaa.B
/- The walk of doc.Apply: the text behind an operation, in new memory. -/
namespace Go.Proofs.Ytfngcabckfmhnaa.B
open Go.RowKit Go.Proofs.YtfngcabckfmhnaaW.PrintWords Go.Proofs.YtfngcabckfmhnaaW.PrintLast Go.Proofs.YtfngcabckfmhnaaW.PrintMore Go.Proofs.Ytfngcabckfmhnaa.PA
set_option linter.unusedVariables false
set_option linter.unusedSimpArgs false

/-- The text behind an operation that fits. -/
def app (xs : List S76) (k p c cl s : Int) : List S76 :=
  if k = 1 then xs.take p.toNat ++ [⟨c, cl, s⟩] ++ xs.drop p.toNat
  else if k = 2 then xs.take p.toNat ++ xs.drop (p.toNat + 1) else xs
def ApplyAns (w : World) (ys : List S76) (e : Ending) (w' : World) : Prop :=
  ∃ v, e = .returned (.tuple #[v, .int .i64 0]) ∧ Kd.R k76 76 w' w.heap.size (fun _ => True) v ys ∧ Below w.heap.size w w'
def ApplyBad (w : World) (n : Int) (e : Ending) (w' : World) : Prop := e = .returned (.tuple #[.slice none 0 0, .int .i64 n]) ∧ Below w.heap.size w w'

set_option maxHeartbeats 8000000 in
set_option maxRecDepth 100000 in
theorem apply_bad (A : Option Addr) (xs : List S76) (cap : Nat) (w : World) (k p c cl s : Int) (hc : 0 ≤ c ∧ c ≤ 255) (he : fit xs.length k p c cl s ≠ 0) :
    Calls Try.prog 24 #[.slice A xs.length cap, .agg #[.int .i64 k, .int .i64 p, .int .u8 c, .int .i64 cl, .int .i64 s]] w (ApplyBad w (fit xs.length k p c cl s)) := by
  obtain ⟨n, hn⟩ : ∃ n, n = fit xs.length k p c cl s := ⟨_, rfl⟩
  rw [← hn] at he ⊢
  have HF : Aside0 (doc_Fits.f 2 xs.length k p c cl s = some n) := ⟨by rw [hn]; exact fits_pure _ _ _ _ _ _ hc⟩
  have c1 : (n != 0) = true := bne_iff_ne.mpr he
  clear hn he
  go_enter Try.func24, Try.ntmps24
  go_wp2_with (go_at_call 41; go_loud (refine (doc_Fits.calls 2 xs.length k p c cl s n _ HF.out).mono ?_; rintro e w1 ⟨rfl, hb1⟩; have HB := Aside0.mk (below_then (below_alloc (Below.refl _ _) _ : Below w.heap.size w _) (by simp) hb1); clear hb1))
  go_ret2
  exact ⟨rfl, HB.out⟩

theorem info76' : (Try.prog.info? 76).map (fun i => (i.zero, i.size, i.bytes)) = some (some (.agg #[(.int .u8 0), (.int .i64 0), (.int .i64 0)]), 3, 24) := info76

set_option maxHeartbeats 8000000 in
set_option maxRecDepth 100000 in
theorem apply_ins (A : Option Addr) (xs : List S76) (cap : Nat) (w : World) (p : Nat) (c cl s : Int) (hr : Kd.C k76 w A xs.length xs) (hcap : xs.length ≤ cap) (hc : 0 ≤ c ∧ c ≤ 255) (he : fit xs.length 1 p c cl s = 0) :
    Calls Try.prog 24 #[.slice A xs.length cap, .agg #[.int .i64 1, .int .i64 p, .int .u8 c, .int .i64 cl, .int .i64 s]] w (ApplyAns w (xs.take p ++ [⟨c, cl, s⟩] ++ xs.drop p)) := by
  have HF : Aside0 (doc_Fits.f 2 xs.length 1 p c cl s = some 0) := ⟨by rw [fits_pure _ _ _ _ _ _ hc, he]⟩
  obtain ⟨_, _, _, hn, _, hp, _⟩ := fit_zero he
  obtain ⟨_, _, hpn, hn4⟩ := hp rfl
  have HR := Aside0.mk hr
  have HC := Aside0.mk hcap
  have HP : Aside0 (p ≤ xs.length) := ⟨by omega⟩
  have hn5 : (xs.length : Int) < 4096 := hn4
  obtain ⟨i76, hi76, hz76, hs76, hb76⟩ := info_parts info76
  have HI := Aside0.mk (And.intro hi76 (And.intro hz76 (And.intro hs76 hb76)))
  have kc1 := cut_to (P := Try.prog) 22 76 .i64 Try.underlying22 hi76 A xs.length cap (p : Int) (by omega) (by omega) hcap
  have kc2 := cut_from (P := Try.prog) 22 76 .i64 Try.underlying22 hi76 3 hs76 A xs.length cap (p : Int) (by omega) (by omega)
  obtain ⟨A2, hA2⟩ : ∃ A2, A2 = (if cap = p then A else A.map (·.add (p * 3))) := ⟨_, rfl⟩
  have HD : Aside0 (Kd.C k76 w A2 (xs.drop p).length (xs.drop p)) := ⟨by rw [hA2]; exact Kd.C_drop hr (by omega) hcap⟩
  rw [Int.toNat_natCast] at kc1 kc2
  rw [← hA2] at kc2
  have HT : Aside0 (Kd.C k76 w A p (xs.take p)) := ⟨by have := Kd.C_take hr (m := p) (by omega); rwa [List.length_take, Nat.min_eq_left (by omega)] at this⟩
  rw [List.length_drop] at HD
  clear hr hcap hc he hn hp hpn hn4 hi76 hz76 hs76 hb76 hA2
  go_enter Try.func24, Try.ntmps24
  go_wp2_with (first
    | (go_at_call 41; go_loud (refine (doc_Fits.calls 2 xs.length 1 p c cl s 0 _ HF.out).mono ?_; rintro e w1 ⟨rfl, hb1⟩; have HB0 := Aside0.mk (below_then (below_alloc (Below.refl _ _) _ : Below w.heap.size w _) (by simp) hb1); have BX : Aside0 (w1.heap[w.heap.size]? = some (.cells #[.int .i64 1, .int .i64 p, .int .u8 c, .int .i64 cl, .int .i64 s] 46 (0, 0))) := ⟨blk_below (heap_alloc_new w _) hb1⟩; have x0 : w1.cell? ⟨w.heap.size, 0, none⟩ = some (.int .i64 1) := (blk_cell BX.out 0).trans rfl; clear hb1))
    | (at_make; go_loud (refine wpList_make_own _ rfl _ _ 22 rfl w.heap.size 76 i76 (.agg #[(.int .u8 0), (.int .i64 0), (.int .i64 0)]) 3 Try.underlying22 HI.out.1 HI.out.2.1 HI.out.2.2.1 .i64 .i64 _ (xs.length + 1) rfl rfl (by simp) (by rw [HI.out.2.2.2]; omega) (by unfold maxLen; omega) HB0.out.size ?_; intro w2 hown hgrow; have hb := HB0.out.grown hgrow HB0.out.size (fun k e => by cases e); replace BX := Aside0.mk (blk_grown BX.out hgrow (by simp)); have x0_ : w2.cell? ⟨w.heap.size, 0, none⟩ = some (.int .i64 1) := (blk_cell BX.out 0).trans rfl; have x1_ : w2.cell? ⟨w.heap.size, 1, none⟩ = some (.int .i64 p) := (blk_cell BX.out 1).trans rfl; have x2_ : w2.cell? ⟨w.heap.size, 2, none⟩ = some (.int .u8 c) := (blk_cell BX.out 2).trans rfl; have x3_ : w2.cell? ⟨w.heap.size, 3, none⟩ = some (.int .i64 cl) := (blk_cell BX.out 3).trans rfl; have x4_ : w2.cell? ⟨w.heap.size, 4, none⟩ = some (.int .i64 s) := (blk_cell BX.out 4).trans rfl; have HB := Aside0.mk (hb); have HO : Aside0 (Kd.R k76 76 w2 w.heap.size (fun _ => True) _ []) := ⟨⟨fun _ _ => trivial, [], hown, Reps.none _ _⟩⟩; clear hown hgrow hb))
    | ((with_reducible refine gate_builtin (b := .append) (xs := #[.tmp 26, .tmp 30]) rfl ?_); at_builtin; go_loud (refine Kd.R_append_rows k76 (w0 := w) w.heap.size rfl (.tmp 26) (.tmp 30) 22 76 (.agg #[(.int .u8 0), (.int .i64 0), (.int .i64 0)]) 24 rfl Try.underlying22 info76 rfl (by decide) (by omega) _ ([]) (xs.take p) _ _ _ (fun _ => True) (fun _ => False) rfl rfl HO.out (Kd.C_below HT.out HB.out) (fun _ _ h => h) (fun _ h => h.elim) (fun _ _ => trivial) HB.out HB.out.size (by have := HP.out; simp; omega) ?_; intro v1 w3 ho hb hg hat; replace BX := Aside0.mk (blk_grown BX.out hg (Kd.R_ne HO.out BX.out (by decide))); have x0_ : w3.cell? ⟨w.heap.size, 0, none⟩ = some (.int .i64 1) := (blk_cell BX.out 0).trans rfl; have x1_ : w3.cell? ⟨w.heap.size, 1, none⟩ = some (.int .i64 p) := (blk_cell BX.out 1).trans rfl; have x2_ : w3.cell? ⟨w.heap.size, 2, none⟩ = some (.int .u8 c) := (blk_cell BX.out 2).trans rfl; have x3_ : w3.cell? ⟨w.heap.size, 3, none⟩ = some (.int .i64 cl) := (blk_cell BX.out 3).trans rfl; have x4_ : w3.cell? ⟨w.heap.size, 4, none⟩ = some (.int .i64 s) := (blk_cell BX.out 4).trans rfl; replace HO := Aside0.mk ho; replace HB := Aside0.mk hb; clear ho hb hg hat))
    | ((with_reducible refine gate_builtin (b := .append) (xs := #[.tmp 32, .tmp 40]) rfl ?_); at_builtin; go_loud (refine Kd.R_append k76 (w0 := w) w.heap.size rfl (.tmp 32) (.tmp 40) 22 76 (.agg #[(.int .u8 0), (.int .i64 0), (.int .i64 0)]) 24 rfl Try.underlying22 info76 rfl (by decide) (by omega) v1 ([] ++ xs.take p) (⟨c, cl, s⟩ : S76) [.int .u8 c, .int .i64 cl, .int .i64 s] (fun _ => True) (fun _ => False) rfl rfl (k76_mkM _ _ _ (⟨c, cl, s⟩ : S76)) (fun _ hk => hk.elim) (fun _ _ => trivial) HO.out HB.out HB.out.size (by have := HP.out; simp; omega) ?_; intro v2 w4 ho hb hg hat; replace BX := Aside0.mk (blk_grown BX.out hg (Kd.R_ne HO.out BX.out (by decide))); have x0_ : w4.cell? ⟨w.heap.size, 0, none⟩ = some (.int .i64 1) := (blk_cell BX.out 0).trans rfl; have x1_ : w4.cell? ⟨w.heap.size, 1, none⟩ = some (.int .i64 p) := (blk_cell BX.out 1).trans rfl; have x2_ : w4.cell? ⟨w.heap.size, 2, none⟩ = some (.int .u8 c) := (blk_cell BX.out 2).trans rfl; have x3_ : w4.cell? ⟨w.heap.size, 3, none⟩ = some (.int .i64 cl) := (blk_cell BX.out 3).trans rfl; have x4_ : w4.cell? ⟨w.heap.size, 4, none⟩ = some (.int .i64 s) := (blk_cell BX.out 4).trans rfl; replace HO := Aside0.mk ho; replace HB := Aside0.mk hb; clear ho hb hg hat))
    | ((with_reducible refine gate_builtin (b := .append) (xs := #[.tmp 42, .tmp 46]) rfl ?_); at_builtin; go_loud (refine Kd.R_append_rows k76 (w0 := w) w.heap.size rfl (.tmp 42) (.tmp 46) 22 76 (.agg #[(.int .u8 0), (.int .i64 0), (.int .i64 0)]) 24 rfl Try.underlying22 info76 rfl (by decide) (by omega) v2 ([] ++ xs.take p ++ [⟨c, cl, s⟩]) (xs.drop p) _ _ _ (fun _ => True) (fun _ => False) rfl rfl HO.out (Kd.C_below HD.out HB.out) (fun _ _ h => h) (fun _ h => h.elim) (fun _ _ => trivial) HB.out HB.out.size (by have := HP.out; simp; omega) ?_; intro v3 w5 ho hb hg hat; replace BX := Aside0.mk (blk_grown BX.out hg (Kd.R_ne HO.out BX.out (by decide))); have x0_ : w5.cell? ⟨w.heap.size, 0, none⟩ = some (.int .i64 1) := (blk_cell BX.out 0).trans rfl; have x1_ : w5.cell? ⟨w.heap.size, 1, none⟩ = some (.int .i64 p) := (blk_cell BX.out 1).trans rfl; have x2_ : w5.cell? ⟨w.heap.size, 2, none⟩ = some (.int .u8 c) := (blk_cell BX.out 2).trans rfl; have x3_ : w5.cell? ⟨w.heap.size, 3, none⟩ = some (.int .i64 cl) := (blk_cell BX.out 3).trans rfl; have x4_ : w5.cell? ⟨w.heap.size, 4, none⟩ = some (.int .i64 s) := (blk_cell BX.out 4).trans rfl; replace HO := Aside0.mk ho; replace HB := Aside0.mk hb; clear ho hb hg hat)))
  go_ret2
  exact ⟨_, rfl, by have := HO.out; rwa [List.nil_append] at this, HB.out⟩
set_option maxHeartbeats 8000000 in
set_option maxRecDepth 100000 in
theorem apply_del (A : Option Addr) (xs : List S76) (cap : Nat) (w : World) (p : Nat) (cl s : Int) (hr : Kd.C k76 w A xs.length xs) (hcap : xs.length ≤ cap) (he : fit xs.length 2 p 0 cl s = 0) :
    Calls Try.prog 24 #[.slice A xs.length cap, .agg #[.int .i64 2, .int .i64 p, .int .u8 0, .int .i64 cl, .int .i64 s]] w (ApplyAns w (xs.take p ++ xs.drop (p + 1))) := by
  have HF : Aside0 (doc_Fits.f 2 xs.length 2 p 0 cl s = some 0) := ⟨by rw [fits_pure _ _ _ _ _ _ (by omega), he]⟩
  obtain ⟨_, _, _, hn, _, _, hp⟩ := fit_zero he
  obtain ⟨_, hpn⟩ := hp rfl
  have hn4 := hn.2
  have HR := Aside0.mk hr
  have HC := Aside0.mk hcap
  have HP : Aside0 (p + 1 ≤ xs.length) := ⟨by omega⟩
  have hn5 : (xs.length : Int) ≤ 4096 := hn4
  have hp5 : (p : Int) < 4096 := by omega
  obtain ⟨i76, hi76, hz76, hs76, hb76⟩ := info_parts info76
  have HI := Aside0.mk (And.intro hi76 (And.intro hz76 (And.intro hs76 hb76)))
  have kc1 := cut_to (P := Try.prog) 22 76 .i64 Try.underlying22 hi76 A xs.length cap (p : Int) (by omega) (by omega) hcap
  have kc2 := cut_from (P := Try.prog) 22 76 .i64 Try.underlying22 hi76 3 hs76 A xs.length cap ((p : Int) + 1) (by omega) (by omega)
  obtain ⟨A2, hA2⟩ : ∃ A2, A2 = (if cap = p + 1 then A else A.map (·.add ((p + 1) * 3))) := ⟨_, rfl⟩
  have HD : Aside0 (Kd.C k76 w A2 (xs.drop (p + 1)).length (xs.drop (p + 1))) := ⟨by rw [hA2]; exact Kd.C_drop hr (by omega) hcap⟩
  rw [Int.toNat_natCast] at kc1
  rw [show ((p : Int) + 1).toNat = p + 1 by omega] at kc2
  rw [← hA2] at kc2
  have HT : Aside0 (Kd.C k76 w A p (xs.take p)) := ⟨by have := Kd.C_take hr (m := p) (by omega); rwa [List.length_take, Nat.min_eq_left (by omega)] at this⟩
  rw [List.length_drop] at HD
  clear hr hcap he hn hp hpn hn4 hi76 hz76 hs76 hb76 hA2
  go_enter Try.func24, Try.ntmps24
  go_wp2_with (first
    | (go_at_call 41; go_loud (refine (doc_Fits.calls 2 xs.length 2 p 0 cl s 0 _ HF.out).mono ?_; rintro e w1 ⟨rfl, hb1⟩; have HB0 := Aside0.mk (below_then (below_alloc (Below.refl _ _) _ : Below w.heap.size w _) (by simp) hb1); have BX : Aside0 (w1.heap[w.heap.size]? = some (.cells #[.int .i64 2, .int .i64 p, .int .u8 0, .int .i64 cl, .int .i64 s] 46 (0, 0))) := ⟨blk_below (heap_alloc_new w _) hb1⟩; have x0 : w1.cell? ⟨w.heap.size, 0, none⟩ = some (.int .i64 2) := (blk_cell BX.out 0).trans rfl; clear hb1))
    | (at_make; go_loud (refine wpList_make_own _ rfl _ _ 22 rfl w.heap.size 76 i76 (.agg #[(.int .u8 0), (.int .i64 0), (.int .i64 0)]) 3 Try.underlying22 HI.out.1 HI.out.2.1 HI.out.2.2.1 .i64 .i64 _ (xs.length + 1) rfl rfl (by simp) (by rw [HI.out.2.2.2]; omega) (by unfold maxLen; omega) HB0.out.size ?_; intro w2 hown hgrow; have hb := HB0.out.grown hgrow HB0.out.size (fun k e => by cases e); replace BX := Aside0.mk (blk_grown BX.out hgrow (by simp)); have x0_ : w2.cell? ⟨w.heap.size, 0, none⟩ = some (.int .i64 2) := (blk_cell BX.out 0).trans rfl; have x1_ : w2.cell? ⟨w.heap.size, 1, none⟩ = some (.int .i64 p) := (blk_cell BX.out 1).trans rfl; have x2_ : w2.cell? ⟨w.heap.size, 2, none⟩ = some (.int .u8 0) := (blk_cell BX.out 2).trans rfl; have x3_ : w2.cell? ⟨w.heap.size, 3, none⟩ = some (.int .i64 cl) := (blk_cell BX.out 3).trans rfl; have x4_ : w2.cell? ⟨w.heap.size, 4, none⟩ = some (.int .i64 s) := (blk_cell BX.out 4).trans rfl; have HB := Aside0.mk (hb); have HO : Aside0 (Kd.R k76 76 w2 w.heap.size (fun _ => True) _ []) := ⟨⟨fun _ _ => trivial, [], hown, Reps.none _ _⟩⟩; clear hown hgrow hb))
    | ((with_reducible refine gate_builtin (b := .append) (xs := #[.tmp 50, .tmp 54]) rfl ?_); at_builtin; go_loud (refine Kd.R_append_rows k76 (w0 := w) w.heap.size rfl (.tmp 50) (.tmp 54) 22 76 (.agg #[(.int .u8 0), (.int .i64 0), (.int .i64 0)]) 24 rfl Try.underlying22 info76 rfl (by decide) (by omega) _ ([]) (xs.take p) _ _ _ (fun _ => True) (fun _ => False) rfl rfl HO.out (Kd.C_below HT.out HB.out) (fun _ _ h => h) (fun _ h => h.elim) (fun _ _ => trivial) HB.out HB.out.size (by have := HP.out; simp; omega) ?_; intro v1 w3 ho hb hg hat; replace BX := Aside0.mk (blk_grown BX.out hg (Kd.R_ne HO.out BX.out (by decide))); have x0_ : w3.cell? ⟨w.heap.size, 0, none⟩ = some (.int .i64 2) := (blk_cell BX.out 0).trans rfl; have x1_ : w3.cell? ⟨w.heap.size, 1, none⟩ = some (.int .i64 p) := (blk_cell BX.out 1).trans rfl; have x2_ : w3.cell? ⟨w.heap.size, 2, none⟩ = some (.int .u8 0) := (blk_cell BX.out 2).trans rfl; have x3_ : w3.cell? ⟨w.heap.size, 3, none⟩ = some (.int .i64 cl) := (blk_cell BX.out 3).trans rfl; have x4_ : w3.cell? ⟨w.heap.size, 4, none⟩ = some (.int .i64 s) := (blk_cell BX.out 4).trans rfl; replace HO := Aside0.mk ho; replace HB := Aside0.mk hb; clear ho hb hg hat))
    | ((with_reducible refine gate_builtin (b := .append) (xs := #[.tmp 56, .tmp 61]) rfl ?_); at_builtin; go_loud (refine Kd.R_append_rows k76 (w0 := w) w.heap.size rfl (.tmp 56) (.tmp 61) 22 76 (.agg #[(.int .u8 0), (.int .i64 0), (.int .i64 0)]) 24 rfl Try.underlying22 info76 rfl (by decide) (by omega) v1 ([] ++ xs.take p) (xs.drop (p + 1)) _ _ _ (fun _ => True) (fun _ => False) rfl rfl HO.out (Kd.C_below HD.out HB.out) (fun _ _ h => h) (fun _ h => h.elim) (fun _ _ => trivial) HB.out HB.out.size (by have := HP.out; simp; omega) ?_; intro v3 w5 ho hb hg hat; replace BX := Aside0.mk (blk_grown BX.out hg (Kd.R_ne HO.out BX.out (by decide))); have x0_ : w5.cell? ⟨w.heap.size, 0, none⟩ = some (.int .i64 2) := (blk_cell BX.out 0).trans rfl; have x1_ : w5.cell? ⟨w.heap.size, 1, none⟩ = some (.int .i64 p) := (blk_cell BX.out 1).trans rfl; have x2_ : w5.cell? ⟨w.heap.size, 2, none⟩ = some (.int .u8 0) := (blk_cell BX.out 2).trans rfl; have x3_ : w5.cell? ⟨w.heap.size, 3, none⟩ = some (.int .i64 cl) := (blk_cell BX.out 3).trans rfl; have x4_ : w5.cell? ⟨w.heap.size, 4, none⟩ = some (.int .i64 s) := (blk_cell BX.out 4).trans rfl; replace HO := Aside0.mk ho; replace HB := Aside0.mk hb; clear ho hb hg hat)))
  go_ret2
  exact ⟨_, rfl, by have := HO.out; rwa [List.nil_append] at this, HB.out⟩
set_option maxHeartbeats 8000000 in
set_option maxRecDepth 100000 in
theorem apply_nop (A : Option Addr) (xs : List S76) (cap : Nat) (w : World) (p c cl s : Int) (hr : Kd.C k76 w A xs.length xs) (hcap : xs.length ≤ cap) (hc : 0 ≤ c ∧ c ≤ 255) (he : fit xs.length 0 p c cl s = 0) :
    Calls Try.prog 24 #[.slice A xs.length cap, .agg #[.int .i64 0, .int .i64 p, .int .u8 c, .int .i64 cl, .int .i64 s]] w (ApplyAns w xs) := by
  have HF : Aside0 (doc_Fits.f 2 xs.length 0 p c cl s = some 0) := ⟨by rw [fits_pure _ _ _ _ _ _ hc, he]⟩
  obtain ⟨_, _, _, hn, _, _, _⟩ := fit_zero he
  have hn5 : (xs.length : Int) ≤ 4096 := hn.2
  have HR := Aside0.mk hr
  have HC := Aside0.mk hcap
  obtain ⟨i76, hi76, hz76, hs76, hb76⟩ := info_parts info76
  have HI := Aside0.mk (And.intro hi76 (And.intro hz76 (And.intro hs76 hb76)))
  clear hr hcap hc he hn hi76 hz76 hs76 hb76
  go_enter Try.func24, Try.ntmps24
  go_wp2_with (first
    | (go_at_call 41; go_loud (refine (doc_Fits.calls 2 xs.length 0 p c cl s 0 _ HF.out).mono ?_; rintro e w1 ⟨rfl, hb1⟩; have HB0 := Aside0.mk (below_then (below_alloc (Below.refl _ _) _ : Below w.heap.size w _) (by simp) hb1); have BX : Aside0 (w1.heap[w.heap.size]? = some (.cells #[.int .i64 0, .int .i64 p, .int .u8 c, .int .i64 cl, .int .i64 s] 46 (0, 0))) := ⟨blk_below (heap_alloc_new w _) hb1⟩; have x0 : w1.cell? ⟨w.heap.size, 0, none⟩ = some (.int .i64 0) := (blk_cell BX.out 0).trans rfl; clear hb1))
    | (at_make; go_loud (refine wpList_make_own _ rfl _ _ 22 rfl w.heap.size 76 i76 (.agg #[(.int .u8 0), (.int .i64 0), (.int .i64 0)]) 3 Try.underlying22 HI.out.1 HI.out.2.1 HI.out.2.2.1 .i64 .i64 _ (xs.length + 1) rfl rfl (by simp) (by rw [HI.out.2.2.2]; omega) (by unfold maxLen; omega) HB0.out.size ?_; intro w2 hown hgrow; have hb := HB0.out.grown hgrow HB0.out.size (fun k e => by cases e); replace BX := Aside0.mk (blk_grown BX.out hgrow (by simp)); have x0_ : w2.cell? ⟨w.heap.size, 0, none⟩ = some (.int .i64 0) := (blk_cell BX.out 0).trans rfl; have x1_ : w2.cell? ⟨w.heap.size, 1, none⟩ = some (.int .i64 p) := (blk_cell BX.out 1).trans rfl; have x2_ : w2.cell? ⟨w.heap.size, 2, none⟩ = some (.int .u8 c) := (blk_cell BX.out 2).trans rfl; have x3_ : w2.cell? ⟨w.heap.size, 3, none⟩ = some (.int .i64 cl) := (blk_cell BX.out 3).trans rfl; have x4_ : w2.cell? ⟨w.heap.size, 4, none⟩ = some (.int .i64 s) := (blk_cell BX.out 4).trans rfl; have HB := Aside0.mk (hb); have HO : Aside0 (Kd.R k76 76 w2 w.heap.size (fun _ => True) _ []) := ⟨⟨fun _ _ => trivial, [], hown, Reps.none _ _⟩⟩; clear hown hgrow hb))
    | ((with_reducible refine gate_builtin (b := .append) (xs := #[.tmp 21, .tmp 22]) rfl ?_); at_builtin; go_loud (refine Kd.R_append_rows k76 (w0 := w) w.heap.size rfl (.tmp 21) (.tmp 22) 22 76 (.agg #[(.int .u8 0), (.int .i64 0), (.int .i64 0)]) 24 rfl Try.underlying22 info76 rfl (by decide) (by omega) _ ([]) xs _ _ _ (fun _ => True) (fun _ => False) rfl rfl HO.out (Kd.C_below HR.out HB.out) (fun _ _ h => h) (fun _ h => h.elim) (fun _ _ => trivial) HB.out HB.out.size (by simp; omega) ?_; intro v1 w3 ho hb hg hat; replace BX := Aside0.mk (blk_grown BX.out hg (Kd.R_ne HO.out BX.out (by decide))); have x0_ : w3.cell? ⟨w.heap.size, 0, none⟩ = some (.int .i64 0) := (blk_cell BX.out 0).trans rfl; have x1_ : w3.cell? ⟨w.heap.size, 1, none⟩ = some (.int .i64 p) := (blk_cell BX.out 1).trans rfl; have x2_ : w3.cell? ⟨w.heap.size, 2, none⟩ = some (.int .u8 c) := (blk_cell BX.out 2).trans rfl; have x3_ : w3.cell? ⟨w.heap.size, 3, none⟩ = some (.int .i64 cl) := (blk_cell BX.out 3).trans rfl; have x4_ : w3.cell? ⟨w.heap.size, 4, none⟩ = some (.int .i64 s) := (blk_cell BX.out 4).trans rfl; replace HO := Aside0.mk ho; replace HB := Aside0.mk hb; clear ho hb hg hat)))
  go_ret2
  exact ⟨_, rfl, by have := HO.out; rwa [List.nil_append] at this, HB.out⟩
end Go.Proofs.Ytfngcabckfmhnaa.B
