/- Plain Lean: what Swap's operations make of a row of elements. -/
import Derived.Test.YtfngcabckfmhnaaS3
import Derived.Test.YtfngcabckfmhnaaN1
import Derived.Test.YtfngcabckfmhnaaG6
namespace Go.Proofs.Ytfngcabckfmhnaa.B
open Go.RowKit Go.Proofs.YtfngcabckfmhnaaW.PrintWords Go.Proofs.YtfngcabckfmhnaaW.PrintLast Go.Proofs.YtfngcabckfmhnaaW.PrintMore Go.Proofs.Ytfngcabckfmhnaa.PA
set_option linter.unusedVariables false
set_option linter.unusedSimpArgs false

/-- Operations that fit one after the other. -/
inductive Run : List S76 → List S46 → List S76 → Prop
  | nil (d : List S76) : Run d [] d
  | cons {d : List S76} {o : S46} {os : List S46} {d' : List S76} : fit d.length o.f0 o.f1 o.f2 o.f3 o.f4 = 0 → Run (app d o.f0 o.f1 o.f2 o.f3 o.f4) os d' → Run d (o :: os) d'
theorem Run.append {d d1 d2 : List S76} {a b : List S46} (h1 : Run d a d1) (h2 : Run d1 b d2) : Run d (a ++ b) d2 := by
  induction h1 with
  | nil => exact h2
  | cons h _ ih => exact .cons h (ih h2)
theorem mkOps_cons (c f : Int) (x : Int × Int × Int) (l : List (Int × Int × Int)) : mkOps c f (x :: l) = ⟨x.1, x.2.1, x.2.2, c, f⟩ :: mkOps c (f + 1) l := by
  unfold mkOps
  rw [List.mapIdx_cons]
  simp only [Int.natCast_zero, Int.add_zero, List.cons.injEq, true_and]
  congr 1
  funext n x
  rw [show f + ((n + 1 : Nat) : Int) = f + 1 + (n : Int) by omega]
theorem mkOps_append (c : Int) (a b : List (Int × Int × Int)) : ∀ f : Int, mkOps c f (a ++ b) = mkOps c f a ++ mkOps c (f + (a.length : Int)) b := by
  induction a with
  | nil => intro f; simp [mkOps]
  | cons x a ih =>
    intro f
    rw [List.cons_append, mkOps_cons, mkOps_cons, ih, List.cons_append, List.length_cons]
    rw [show f + 1 + (a.length : Int) = f + ((a.length + 1 : Nat) : Int) by omega]

theorem run_del (A C : List S76) (c : Int) (hc : 1 ≤ c ∧ c ≤ 64) : ∀ (m : Nat) (B : List S76) (f : Int), B.length = m → 1 ≤ f → f + (m : Int) ≤ 65 → A.length + B.length + C.length ≤ 4096 →
    Run (A ++ (B ++ C)) (mkOps c f (List.replicate m ((2 : Int), (A.length : Int), (0 : Int)))) (A ++ C) := by
  intro m
  induction m with
  | zero => intro B f hB _ _ _; obtain rfl := List.length_eq_zero_iff.1 hB; exact Run.nil _
  | succ m ih =>
    intro B f hB hf hm hl
    cases B with
    | nil => simp at hB
    | cons b B' =>
      rw [List.length_cons] at hB hl
      rw [List.replicate_succ, mkOps_cons]
      refine .cons ?_ ?_
      · show fit _ 2 (A.length : Int) 0 c f = 0
        exact fit_del hc ⟨hf, by omega⟩ ⟨by omega, by simp only [List.length_append, List.length_cons]; omega⟩ (by simp only [List.length_append, List.length_cons]; omega)
      · have e : app (A ++ (b :: B' ++ C)) 2 (A.length : Int) 0 c f = A ++ (B' ++ C) := by
          unfold app
          rw [if_neg (by decide), if_pos rfl, Int.toNat_natCast, List.take_left' rfl, List.drop_append, List.drop_eq_nil_of_le (by omega), List.nil_append, show A.length + 1 - A.length = 1 by omega]
          rfl
        show Run (app (A ++ (b :: B' ++ C)) 2 (A.length : Int) 0 c f) _ _
        rw [e]
        exact ih B' (f + 1) (by omega) (by omega) (by omega) (by omega)
theorem plB_byte {q : ByteArray} (h : plB q = true) (j : Nat) (hj : j < q.size) : 32 ≤ bt q (j : Int) ∧ bt q (j : Int) ≤ 126 := by
  unfold plB at h
  rw [Bool.and_eq_true] at h
  have h2 := List.all_eq_true.1 h.2 (q[j]'hj) (by
    show q.data[j]'hj ∈ q.data.toList
    rw [Array.mem_toList_iff]
    exact Array.getElem_mem _)
  unfold okB at h2
  rw [Bool.and_eq_true, decide_eq_true_iff, decide_eq_true_iff] at h2
  rw [← bt_at q (j : Int) (by rw [Int.toNat_natCast]; exact hj)]
  simp only [Int.toNat_natCast]
  omega
theorem run_ins (A C : List S76) (q : ByteArray) (hq : plB q = true) (c f : Int) (hc : 1 ≤ c ∧ c ≤ 64) (hf : 1 ≤ f) (hm : f + (q.size : Int) ≤ 65) (hl : A.length + q.size + C.length ≤ 4096) : ∀ n, n ≤ q.size →
    Run (A ++ C) (mkOps c f ((List.range n).map fun (j : Nat) => ((1 : Int), (A.length : Int) + (j : Int), bt q (j : Int)))) (A ++ ((List.range n).map (fun (j : Nat) => (⟨bt q (j : Int), c, f + (j : Int)⟩ : S76)) ++ C)) := by
  intro n
  induction n with
  | zero => intro _; exact Run.nil _
  | succ n ih =>
    intro hn
    rw [List.range_succ, List.map_append, List.map_append, mkOps_append]
    refine (ih (by omega)).append ?_
    rw [List.length_map, List.length_range]
    obtain ⟨M, hM⟩ : ∃ M, M = (List.range n).map (fun (j : Nat) => (⟨bt q (j : Int), c, f + (j : Int)⟩ : S76)) := ⟨_, rfl⟩
    have hMl : M.length = n := by rw [hM]; simp
    rw [← hM]
    show Run _ (mkOps c (f + (n : Int)) (((1 : Int), (A.length : Int) + (n : Int), bt q (n : Int)) :: [])) _
    rw [mkOps_cons]
    have e : app (A ++ (M ++ C)) 1 ((A.length : Int) + (n : Int)) (bt q (n : Int)) c (f + (n : Int)) = A ++ ((M ++ [⟨bt q (n : Int), c, f + (n : Int)⟩]) ++ C) := by
      unfold app
      rw [if_pos rfl, show ((A.length : Int) + (n : Int)).toNat = (A ++ M).length by rw [List.length_append, hMl]; omega, ← List.append_assoc, List.take_left' rfl, List.drop_left' rfl]
      simp
    refine .cons (fit_ins hc ⟨by show 1 ≤ f + (n : Int); omega, by show f + (n : Int) ≤ 64; omega⟩ (plB_byte hq n (by omega)) ⟨by show 0 ≤ (A.length : Int) + (n : Int); omega, ?_⟩ ?_) ?_
    · show (A.length : Int) + (n : Int) ≤ _
      simp only [List.length_append, hMl]; omega
    · simp only [List.length_append, hMl]; omega
    · show Run (app (A ++ (M ++ C)) 1 ((A.length : Int) + (n : Int)) (bt q (n : Int)) c (f + (n : Int))) _ _
      rw [e]
      exact Run.nil _

/-- Where the source stands behind the k-th place, and what is made ahead of it. -/
def srcP (m : Nat) (L : List Nat) : Nat → Nat
  | 0 => 0
  | k + 1 => L.getD k 0 + m
theorem srcP_succ (m : Nat) (L : List Nat) (k : Nat) : srcP m L (k + 1) = L.getD k 0 + m := rfl
theorem srcP_zero (m : Nat) (L : List Nat) : srcP m L 0 = 0 := rfl
def outE (T : List S76) (m : Nat) (q : ByteArray) (L : List Nat) (c f : Int) : Nat → List S76
  | 0 => []
  | k + 1 => outE T m q L c f k ++ (T.drop (srcP m L k)).take (L.getD k 0 - srcP m L k) ++ (List.range q.size).map fun (j : Nat) => (⟨bt q (j : Int), c, f + ((k * (m + q.size) + m : Nat) : Int) + (j : Int)⟩ : S76)
def Gap (m n : Nat) (L : List Nat) : Prop := ∀ k, k < L.length → srcP m L k ≤ L.getD k 0 ∧ L.getD k 0 + m ≤ n
theorem outE_length (T : List S76) (m : Nat) (q : ByteArray) (L : List Nat) (c f : Int) (hg : Gap m T.length L) : ∀ k, k ≤ L.length → (outE T m q L c f k).length + k * m = srcP m L k + k * q.size ∧ srcP m L k ≤ T.length := by
  intro k
  induction k with
  | zero => intro _; simp [outE, srcP]
  | succ k ih =>
    intro hk
    obtain ⟨h1, h2⟩ := ih (by omega)
    obtain ⟨g1, g2⟩ := hg k (by omega)
    simp only [outE, srcP_succ, List.length_append, List.length_take, List.length_drop, List.length_map, List.length_range, Nat.succ_mul]
    refine ⟨?_, g2⟩
    rw [Nat.min_eq_left (by omega)]
    omega
theorem raws_run (T : List S76) (m : Nat) (q : ByteArray) (hq : plB q = true) (L : List Nat) (c f : Int) (hg : Gap m T.length L) (hc : 1 ≤ c ∧ c ≤ 64) (hf : 1 ≤ f) (hm : f + ((L.length * (m + q.size) : Nat) : Int) ≤ 65) (hT : T.length ≤ 4000) : ∀ k, k ≤ L.length →
    Run T (mkOps c f (raws m q L k)) (outE T m q L c f k ++ T.drop (srcP m L k)) := by
  intro k
  induction k with
  | zero => intro _; exact Run.nil _
  | succ k ih =>
    intro hk
    obtain ⟨h1, h2⟩ := outE_length T m q L c f hg k (by omega)
    obtain ⟨g1, g2⟩ := hg k (by omega)
    rw [raws, mkOps_append, raws_length]
    refine (ih (by omega)).append ?_
    have hN : (k + 1) * (m + q.size) ≤ L.length * (m + q.size) := Nat.mul_le_mul_right _ hk
    rw [Nat.succ_mul] at hN
    have hkq : k * (m + q.size) = k * m + k * q.size := Nat.mul_add _ _ _
    obtain ⟨A, hA⟩ : ∃ A, A = outE T m q L c f k ++ (T.drop (srcP m L k)).take (L.getD k 0 - srcP m L k) := ⟨_, rfl⟩
    have hAl : (A.length : Int) = (L.getD k 0 : Int) + (k : Int) * ((q.size : Int) - (m : Int)) := by
      rw [hA, List.length_append, List.length_take, List.length_drop, Nat.min_eq_left (by omega), Int.mul_sub]
      rw [← Int.natCast_mul, ← Int.natCast_mul]
      omega
    have hAl' : A.length ≤ T.length + 64 := by
      rw [hA, List.length_append, List.length_take, List.length_drop, Nat.min_eq_left (by omega)]
      omega
    have hs : T.drop (srcP m L k) = (T.drop (srcP m L k)).take (L.getD k 0 - srcP m L k) ++ ((T.drop (L.getD k 0)).take m ++ T.drop (L.getD k 0 + m)) := by
      conv => lhs; rw [← List.take_append_drop (L.getD k 0 - srcP m L k) (T.drop (srcP m L k))]
      congr 1
      rw [List.drop_drop, show srcP m L k + (L.getD k 0 - srcP m L k) = L.getD k 0 by omega]
      conv => lhs; rw [← List.take_append_drop m (T.drop (L.getD k 0))]
      rw [List.drop_drop]
    have e1 : outE T m q L c f k ++ T.drop (srcP m L k) = A ++ ((T.drop (L.getD k 0)).take m ++ T.drop (L.getD k 0 + m)) := by
      rw [hs, hA, ← List.append_assoc]
    have e2 : outE T m q L c f (k + 1) ++ T.drop (srcP m L (k + 1)) = A ++ ((List.range q.size).map (fun (j : Nat) => (⟨bt q (j : Int), c, f + ((k * (m + q.size) + m : Nat) : Int) + (j : Int)⟩ : S76)) ++ T.drop (L.getD k 0 + m)) := by
      simp only [outE, srcP_succ, hA, List.append_assoc]
    rw [e1, e2]
    unfold rawAt
    rw [← hAl, mkOps_append, List.length_replicate]
    have hB : ((T.drop (L.getD k 0)).take m).length = m := by rw [List.length_take, List.length_drop]; omega
    refine (run_del A _ c hc m _ _ hB (by omega) (by omega) ?_).append ?_
    · rw [hB, List.length_drop]
      rw [hA, List.length_append, List.length_take, List.length_drop, Nat.min_eq_left (by omega)]
      omega
    · rw [show f + ((k * (m + q.size) : Nat) : Int) + (m : Int) = f + ((k * (m + q.size) + m : Nat) : Int) by omega]
      refine run_ins A _ q hq c _ hc (by omega) (by omega) ?_ _ (Nat.le_refl _)
      rw [List.length_drop]
      rw [hA, List.length_append, List.length_take, List.length_drop, Nat.min_eq_left (by omega)]
      omega
end Go.Proofs.Ytfngcabckfmhnaa.B
/- Plain Lean: what swapped answers; what kept answers. -/
namespace Go.Proofs.Ytfngcabckfmhnaa.B
open Go.RowKit Go.Proofs.YtfngcabckfmhnaaW.PrintWords Go.Proofs.YtfngcabckfmhnaaW.PrintLast Go.Proofs.YtfngcabckfmhnaaW.PrintMore Go.Proofs.Ytfngcabckfmhnaa.PA
set_option linter.unusedVariables false
set_option linter.unusedSimpArgs false

def outB (t : List Int) (m : Nat) (q : ByteArray) (L : List Nat) : Nat → List Int
  | 0 => []
  | k + 1 => outB t m q L k ++ (t.drop (srcP m L k)).take (L.getD k 0 - srcP m L k) ++ bytesOf q
theorem bytes_range (q : ByteArray) : (List.range q.size).map (fun (j : Nat) => bt q (j : Int)) = bytesOf q := by
  apply List.ext_getElem?
  intro j
  by_cases hj : j < q.size
  · rw [bytesOf_get hj, List.getElem?_map, List.getElem?_range hj]; rfl
  · rw [List.getElem?_eq_none (by simp; omega), List.getElem?_eq_none (by rw [bytesOf_length]; omega)]
theorem outE_f0 (T : List S76) (m : Nat) (q : ByteArray) (L : List Nat) (c f : Int) : ∀ k, (outE T m q L c f k).map (·.f0) = outB (T.map (·.f0)) m q L k := by
  intro k
  induction k with
  | zero => rfl
  | succ k ih =>
    simp only [outE, outB, List.map_append, ih, List.map_take, List.map_drop, List.map_map]
    rw [← bytes_range q]
    rfl
theorem outB_length (t : List Int) (m : Nat) (q : ByteArray) (L : List Nat) (hg : Gap m t.length L) : ∀ k, k ≤ L.length → (outB t m q L k).length + k * m = srcP m L k + k * q.size ∧ srcP m L k ≤ t.length := by
  intro k
  induction k with
  | zero => intro _; simp [outB, srcP]
  | succ k ih =>
    intro hk
    obtain ⟨h1, h2⟩ := ih (by omega)
    obtain ⟨g1, g2⟩ := hg k (by omega)
    simp only [outB, srcP_succ, List.length_append, List.length_take, List.length_drop, bytesOf_length, Nat.succ_mul]
    refine ⟨?_, g2⟩
    rw [Nat.min_eq_left (by omega)]
    omega

def Chn (m : Nat) : Nat → List Nat → Prop
  | _, [] => True
  | lo, a :: l => lo ≤ a ∧ Chn m (a + m) l
theorem scan_chn (mm : Nat → Bool) (wd : Nat) : ∀ n i nx, Chn wd nx (scan mm wd true n i nx) := by
  intro n
  induction n with
  | zero => intro i nx; exact trivial
  | succ n ih =>
    intro i nx
    simp only [scan]
    split
    · exact ih _ _
    · split
      · exact ⟨by omega, ih _ _⟩
      · exact ih _ _
theorem chn_get (m : Nat) : ∀ (L : List Nat) (lo : Nat), Chn m lo L → ∀ k, k < L.length → (if k = 0 then lo else L.getD (k - 1) 0 + m) ≤ L.getD k 0 := by
  intro L
  induction L with
  | nil => intro lo _ k hk; simp at hk
  | cons a l ih =>
    intro lo h k hk
    cases k with
    | zero => simpa using h.1
    | succ k =>
      rw [List.length_cons] at hk
      have := ih _ h.2 k (by omega)
      cases k with
      | zero => simpa using this
      | succ k => simpa using this
theorem plc_gap (t p : ByteArray) : Gap p.size t.size (plc t p 0 true) := by
  intro k hk
  have h1 := chn_get _ _ _ (scan_chn (mt t p) p.size (t.size + 1 - p.size - 0) 0 0) k hk
  have h2 := scan_mem (mt t p) p.size true (t.size + 1 - p.size - 0) 0 0 ((plc t p 0 true).getD k 0) (by
    show _ ∈ plc t p 0 true
    rw [List.getD_eq_getElem?_getD, List.getElem?_eq_getElem hk]
    exact List.getElem_mem hk)
  refine ⟨?_, by omega⟩
  cases k with
  | zero => simp [srcP]
  | succ k =>
    rw [if_neg (by omega)] at h1
    exact h1
theorem scan_skip (mm : Nat → Bool) (wd : Nat) (ap : Bool) : ∀ e n i, scan mm wd ap n i (i + e) = scan mm wd ap (n - e) (i + e) (i + e) := by
  intro e
  induction e with
  | zero => intro n i; rfl
  | succ e ih =>
    intro n i
    cases n with
    | zero => simp [scan]
    | succ n =>
      rw [show n + 1 - (e + 1) = n - e by omega]
      conv => lhs; rw [scan]
      rw [if_pos (by omega)]
      have := ih n (i + 1)
      rw [show i + 1 + e = i + (e + 1) by omega] at this
      exact this

theorem scan_low (mm : Nat → Bool) (wd : Nat) : ∀ n i nx nx', nx ≤ i → nx' ≤ i → scan mm wd true n i nx = scan mm wd true n i nx' := by
  intro n
  induction n with
  | zero => intro i nx nx' _ _; rfl
  | succ n ih =>
    intro i nx nx' h h'
    simp only [scan]
    rw [if_neg (show ¬ i < nx by omega), if_neg (show ¬ i < nx' by omega), ih (i + 1) nx nx' (by omega) (by omega)]
    rfl
theorem swapped_loop (t p q : ByteArray) (hp : 1 ≤ p.size) (hp2 : p.size ≤ 64) (ht : t.size ≤ 4096) (hq : q.size ≤ 64) (L : List Nat) (hL : L = plc t p 0 true) : ∀ (d i k kk : Nat), i + d = t.size → d < kk → k ≤ L.length → srcP p.size L k ≤ i →
    scan (mt t p) p.size true (t.size + 1 - p.size - i) i i = L.drop k →
    jotterlaw24_swapped.l0 kk t p q (outB (bytesOf t) p.size q L k ++ ((bytesOf t).drop (srcP p.size L k)).take (i - srcP p.size L k)) (k : Int) (i : Int) =
      some (strOfNums (outB (bytesOf t) p.size q L L.length ++ (bytesOf t).drop (srcP p.size L L.length)), (L.length : Int)) := by
  have hg : Gap p.size (bytesOf t).length L := by rw [hL, bytesOf_length]; exact plc_gap t p
  have hLl : L.length ≤ t.size + 1 := by
    rw [hL]
    unfold plc
    have := scan_length (mt t p) p.size true (t.size + 1 - p.size - 0) 0 0
    omega
  intro d
  induction d using Nat.strongRecOn with
  | ind d ih =>
    intro i k kk hi hkk hk hs hsc
    obtain ⟨kk, rfl⟩ : ∃ m, kk = m + 1 := ⟨kk - 1, by omega⟩
    obtain ⟨l1, l2⟩ := outB_length _ _ q _ hg k hk
    have hkq : k * q.size ≤ 4097 * 64 := Nat.mul_le_mul (by omega) hq
    rw [bytesOf_length] at l2
    simp only [jotterlaw24_swapped.l0]
    by_cases hd : (i : Int) < (t.size : Int)
    · rw [if_pos hd, at_pure t p (by omega) hp hp2 i (by omega), Option.bind_some]
      have hlen : (outB (bytesOf t) p.size q L k ++ ((bytesOf t).drop (srcP p.size L k)).take (i - srcP p.size L k)).length ≤ 4096 + 4097 * 64 := by
        rw [List.length_append, List.length_take, List.length_drop, bytesOf_length]
        omega
      by_cases hm : mt t p i = true
      · rw [if_pos hm, if_pos (by omega)]
        have hfit : ¬ t.size < i + p.size := fun hh => by rw [mt_past hp hh] at hm; cases hm
        obtain ⟨n, hn⟩ : ∃ n, t.size + 1 - p.size - i = n + 1 := ⟨t.size + 1 - p.size - i - 1, by omega⟩
        rw [hn, scan, if_neg (by omega), if_pos hm, if_pos rfl] at hsc
        obtain ⟨e', he'⟩ : ∃ e', p.size = e' + 1 := ⟨p.size - 1, by omega⟩
        have hsk := scan_skip (mt t p) p.size true e' n (i + 1)
        rw [show i + 1 + e' = i + p.size by omega] at hsk
        rw [hsk, show n - e' = t.size + 1 - p.size - (i + p.size) by omega] at hsc
        have hkl : k < L.length := by
          rcases Nat.lt_or_ge k L.length with h | h
          · exact h
          · rw [List.drop_eq_nil_of_le h] at hsc; cases hsc
        rw [List.drop_eq_getElem_cons hkl] at hsc
        obtain ⟨e1, e2⟩ := List.cons.inj hsc
        have hget : L.getD k 0 = i := by rw [List.getD_eq_getElem?_getD, List.getElem?_eq_getElem hkl, e1]; rfl
        have := ih (d - p.size) (by omega) (i + p.size) (k + 1) kk (by omega) (by omega) (by omega) (by rw [srcP_succ, hget]; omega) e2
        rw [w64 (by omega) (by omega), w64 (by omega) (by omega), ← Int.natCast_add]
        rw [show (k : Int) + 1 = ((k + 1 : Nat) : Int) by omega]
        rw [← this]
        congr 1
        rw [outB, srcP_succ, hget, Nat.sub_self, List.take_zero, List.append_nil]
      · rw [if_neg hm, if_pos (by omega), if_pos (by omega)]
        have hsc' : scan (mt t p) p.size true (t.size + 1 - p.size - (i + 1)) (i + 1) (i + 1) = L.drop k := by
          rw [← hsc]
          rcases Nat.eq_zero_or_pos (t.size + 1 - p.size - i) with h0 | h0
          · rw [h0, show t.size + 1 - p.size - (i + 1) = 0 by omega]; rfl
          · obtain ⟨n, hn⟩ : ∃ n, t.size + 1 - p.size - i = n + 1 := ⟨t.size + 1 - p.size - i - 1, by omega⟩
            rw [hn, show t.size + 1 - p.size - (i + 1) = n by omega]
            conv => rhs; rw [scan]
            rw [if_neg (by omega), if_neg hm]
            exact scan_low _ _ _ _ _ _ (by omega) (by omega)
        have := ih (d - 1) (by omega) (i + 1) k kk (by omega) (by omega) hk (by omega) hsc'
        rw [w64 (by omega) (by omega), ← this]
        congr 1
        rw [show i + 1 - srcP p.size L k = (i - srcP p.size L k) + 1 by omega, List.take_add_one, List.getElem?_drop, show srcP p.size L k + (i - srcP p.size L k) = i by omega, bytesOf_get (by omega), List.append_assoc]
        rfl
    · rw [if_neg hd]
      obtain rfl : i = t.size := by omega
      rw [show t.size + 1 - p.size - t.size = 0 by omega, scan] at hsc
      have hkl : k = L.length := by
        have := congrArg List.length hsc
        rw [List.length_drop, List.length_nil] at this
        omega
      subst hkl
      rw [List.take_of_length_le (by rw [List.length_drop, bytesOf_length]; omega)]
theorem swapped_pure (t p q : ByteArray) (hp : 1 ≤ p.size) (hp2 : p.size ≤ 64) (ht : t.size ≤ 4096) (hq : q.size ≤ 64) (L : List Nat) (hL : L = plc t p 0 true) :
    ∃ k, jotterlaw24_swapped.f k t p q = some (strOfNums (outB (bytesOf t) p.size q L L.length ++ (bytesOf t).drop (srcP p.size L L.length)), (L.length : Int)) :=
  ⟨t.size + 1, swapped_loop t p q hp hp2 ht hq L hL t.size 0 0 _ (by omega) (by omega) (by omega) (by simp [srcP]) (by rw [hL]; rfl)⟩
end Go.Proofs.Ytfngcabckfmhnaa.B
/- Plain Lean: what kept answers. -/
namespace Go.Proofs.Ytfngcabckfmhnaa.B
open Go.RowKit Go.Proofs.YtfngcabckfmhnaaW.PrintWords Go.Proofs.YtfngcabckfmhnaaW.PrintLast Go.Proofs.YtfngcabckfmhnaaW.PrintMore Go.Proofs.Ytfngcabckfmhnaa.PA
set_option linter.unusedVariables false
set_option linter.unusedSimpArgs false

def key (x : S76) : Int := (x.f1 - 1) * 64 + x.f2 - 1
def old (d : List S76) : List S76 := d.filter fun x => decide (x.f1 ≠ 64)
theorem old_append (a b : List S76) : old (a ++ b) = old a ++ old b := List.filter_append _ _
theorem kept_loop (d : List S76) (a b : Int) (hd : d.length ≤ 4096) (hab : -9223372036854775808 ≤ a - b ∧ a - b ≤ 9223372036854775807) (hk : ∀ x ∈ old d, 1 ≤ x.f1 ∧ x.f1 ≤ 64 ∧ 1 ≤ x.f2 ∧ x.f2 ≤ 64) : ∀ (e i kk o : Nat) (last : Int), i + e = d.length → e < kk → o ≤ i →
    (old (d.drop i)).Pairwise (fun x y => key x < key y) → (∀ x ∈ old (d.drop i), last < key x) →
    jotterlaw24_kept.l0 kk d a b (o : Int) last (i : Int) = some ((((o + (old (d.drop i)).length : Nat) : Int)) == a - b) := by
  intro e
  induction e with
  | zero =>
    intro i kk o last hi hkk ho _ _
    obtain ⟨kk, rfl⟩ : ∃ m, kk = m + 1 := ⟨kk - 1, by omega⟩
    simp only [jotterlaw24_kept.l0]
    rw [if_neg (by omega), List.drop_eq_nil_of_le (by omega), w64 hab.1 hab.2]
    rfl
  | succ e ih =>
    intro i kk o last hi hkk ho hp hl
    obtain ⟨kk, rfl⟩ : ∃ m, kk = m + 1 := ⟨kk - 1, by omega⟩
    have hil : i < d.length := by omega
    simp only [jotterlaw24_kept.l0]
    have hr : rd_T76 d (i : Int) = d[i] := by
      unfold rd_T76
      rw [List.getD_eq_getElem?_getD, Int.toNat_natCast, List.getElem?_eq_getElem hil]; rfl
    rw [if_pos (by omega), if_pos (by omega), hr]
    rw [List.drop_eq_getElem_cons hil] at hp hl ⊢
    by_cases h : d[i].f1 = 64
    · have e1 : old (d[i] :: d.drop (i + 1)) = old (d.drop (i + 1)) := by unfold old; rw [List.filter_cons, if_neg (by simpa using h)]
      rw [e1] at hp hl ⊢
      rw [if_pos h, w64 (by omega) (by omega)]
      exact ih (i + 1) kk o last (by omega) (by omega) (by omega) hp hl
    · have e1 : old (d[i] :: d.drop (i + 1)) = d[i] :: old (d.drop (i + 1)) := by unfold old; rw [List.filter_cons, if_pos (by simpa using h)]
      rw [e1] at hp hl ⊢
      obtain ⟨k1, k2, k3, k4⟩ := hk d[i] (by unfold old; rw [List.mem_filter]; exact ⟨List.getElem_mem hil, by simpa using h⟩)
      have hkey : wrap64 (wrap64 (wrap64 (wrap64 (d[i].f1 - 1) * 64) + d[i].f2) - 1) = key d[i] := by
        unfold key
        rw [w64 (x := d[i].f1 - 1) (by omega) (by omega), w64 (x := (d[i].f1 - 1) * 64) (by omega) (by omega), w64 (x := (d[i].f1 - 1) * 64 + d[i].f2) (by omega) (by omega), w64 (by omega) (by omega)]
      have hlt := hl _ (List.mem_cons_self ..)
      rw [if_neg h, hkey, if_neg (by omega), w64 (by omega) (by omega), w64 (by omega) (by omega)]
      rw [List.pairwise_cons] at hp
      have := ih (i + 1) kk (o + 1) (key d[i]) (by omega) (by omega) (by omega) hp.2 hp.1
      rw [show ((i : Int) + 1) = ((i + 1 : Nat) : Int) by omega, show ((o : Int) + 1) = ((o + 1 : Nat) : Int) by omega, this]
      rw [List.length_cons, show o + 1 + (old (d.drop (i + 1))).length = o + ((old (d.drop (i + 1))).length + 1) by omega]
theorem kept_pure (d : List S76) (a b : Int) (hd : d.length ≤ 4096) (hab : -9223372036854775808 ≤ a - b ∧ a - b ≤ 9223372036854775807) (hk : ∀ x ∈ old d, 1 ≤ x.f1 ∧ x.f1 ≤ 64 ∧ 1 ≤ x.f2 ∧ x.f2 ≤ 64)
    (hp : (old d).Pairwise (fun x y => key x < key y)) (hl : ((old d).length : Int) = a - b) : ∃ k, jotterlaw24_kept.f k d a b = some true := by
  refine ⟨d.length + 1, ?_⟩
  unfold jotterlaw24_kept.f
  have := kept_loop d a b hd hab hk d.length 0 (d.length + 1) 0 (-1) (by omega) (by omega) (by omega) hp (by
    intro x hx
    obtain ⟨k1, k2, k3, k4⟩ := hk x hx
    unfold key; omega)
  simp only [Int.natCast_zero, List.drop_zero, Nat.zero_add] at this
  rw [this, hl]
  simp

/-- What is left of the old elements. -/
theorem outE_old (T : List S76) (m : Nat) (q : ByteArray) (L : List Nat) (f : Int) (hg : Gap m T.length L) (hT : old T = T) : ∀ k, k ≤ L.length →
    (old (outE T m q L 64 f k)).Sublist (T.take (srcP m L k)) ∧ (old (outE T m q L 64 f k)).length + k * m = srcP m L k ∧ srcP m L k ≤ T.length := by
  intro k
  induction k with
  | zero => intro _; simp [outE, srcP, old]
  | succ k ih =>
    intro hk
    obtain ⟨s1, h1, h2⟩ := ih (by omega)
    obtain ⟨g1, g2⟩ := hg k (by omega)
    have hO : ∀ l : List S76, l.Sublist T → old l = l := fun l hl => by
      unfold old
      rw [List.filter_eq_self]
      intro x hx
      have := hl.subset hx
      rw [← hT] at this
      unfold old at this
      exact (List.mem_filter.1 this).2
    have e0 : old ((T.drop (srcP m L k)).take (L.getD k 0 - srcP m L k)) = (T.drop (srcP m L k)).take (L.getD k 0 - srcP m L k) := hO _ ((List.take_sublist _ _).trans (List.drop_sublist _ _))
    have e1 : old ((List.range q.size).map fun (j : Nat) => (⟨bt q (j : Int), 64, f + ((k * (m + q.size) + m : Nat) : Int) + (j : Int)⟩ : S76)) = [] := by
      unfold old
      rw [List.filter_eq_nil_iff]
      intro x hx
      obtain ⟨j, _, rfl⟩ := List.mem_map.1 hx
      simp
    simp only [outE, srcP_succ, old_append, e0, e1, List.append_nil]
    refine ⟨?_, ?_, g2⟩
    · have e2 : T.take (L.getD k 0 + m) = T.take (srcP m L k) ++ ((T.drop (srcP m L k)).take (L.getD k 0 - srcP m L k) ++ (T.drop (L.getD k 0)).take m) := by
        rw [List.take_add, ← List.append_assoc]
        congr 1
        conv => lhs; rw [show L.getD k 0 = srcP m L k + (L.getD k 0 - srcP m L k) by omega]
        rw [List.take_add]
      rw [e2]
      exact s1.append (List.sublist_append_left _ _)
    · rw [List.length_append, List.length_take, List.length_drop, Nat.min_eq_left (by omega), Nat.succ_mul]
      omega
theorem elems_old (s : ByteArray) (n : Nat) (hn : n ≤ 1000) : old (elemsL s n) = elemsL s n ∧ (∀ x ∈ elemsL s n, 1 ≤ x.f1 ∧ x.f1 ≤ 64 ∧ 1 ≤ x.f2 ∧ x.f2 ≤ 64) ∧ (elemsL s n).Pairwise (fun x y => key x < key y) := by
  refine ⟨?_, ?_, ?_⟩
  · unfold old elemsL
    rw [List.filter_eq_self]
    intro x hx
    obtain ⟨j, hj, rfl⟩ := List.mem_map.1 hx
    rw [List.mem_range] at hj
    rw [decide_eq_true_iff]
    show (1 + (((j / 64) % 64 : Nat) : Int)) ≠ 64
    omega
  · intro x hx
    obtain ⟨j, hj, rfl⟩ := List.mem_map.1 hx
    rw [List.mem_range] at hj
    show 1 ≤ (1 + (((j / 64) % 64 : Nat) : Int)) ∧ (1 + (((j / 64) % 64 : Nat) : Int)) ≤ 64 ∧ 1 ≤ 1 + ((j % 64 : Nat) : Int) ∧ 1 + ((j % 64 : Nat) : Int) ≤ 64
    omega
  · unfold elemsL
    rw [List.pairwise_map]
    refine List.Pairwise.imp_of_mem ?_ List.pairwise_lt_range
    intro a b ha hb hab
    rw [List.mem_range] at ha hb
    show ((1 + (((a / 64) % 64 : Nat) : Int)) - 1) * 64 + (1 + ((a % 64 : Nat) : Int)) - 1 < ((1 + (((b / 64) % 64 : Nat) : Int)) - 1) * 64 + (1 + ((b % 64 : Nat) : Int)) - 1
    omega
/-- Of the elements that elems made, after Swap's operations: kept is true. -/
theorem kept_swap (s : ByteArray) (n : Nat) (hn : n ≤ 1000) (m : Nat) (hm : m ≤ 64) (q : ByteArray) (hq : q.size ≤ 64) (L : List Nat) (f : Int) (hg : Gap m n L) (hL : L.length * (m + q.size) ≤ 64) :
    ∃ k, jotterlaw24_kept.f k (outE (elemsL s n) m q L 64 f L.length ++ (elemsL s n).drop (srcP m L L.length)) (n : Int) ((m : Int) * (L.length : Int)) = some true := by
  obtain ⟨o1, o2, o3⟩ := elems_old s n hn
  have hl := elemsL_length s n
  rw [← hl] at hg
  obtain ⟨s1, h1, h2⟩ := outE_old _ m q L f hg o1 L.length (Nat.le_refl _)
  obtain ⟨t1, t2⟩ := outE_length _ m q L 64 f hg L.length (Nat.le_refl _)
  have hd : old ((elemsL s n).drop (srcP m L L.length)) = (elemsL s n).drop (srcP m L L.length) := by
    unfold old
    rw [List.filter_eq_self]
    intro x hx
    have := List.mem_of_mem_drop hx
    rw [← o1] at this
    unfold old at this
    exact (List.mem_filter.1 this).2
  have hsub : (old (outE (elemsL s n) m q L 64 f L.length ++ (elemsL s n).drop (srcP m L L.length))).Sublist (elemsL s n) := by
    rw [old_append, hd]
    conv => rhs; rw [← List.take_append_drop (srcP m L L.length) (elemsL s n)]
    exact s1.append (List.Sublist.refl _)
  have hlm : L.length * (m + q.size) = L.length * m + L.length * q.size := Nat.mul_add _ _ _
  have hmm : (m : Int) * (L.length : Int) = ((L.length * m : Nat) : Int) := by rw [Int.natCast_mul, Int.mul_comm]
  rw [hmm]
  refine kept_pure _ _ _ ?_ ⟨by omega, by omega⟩ (fun x hx => o2 x (hsub.subset hx)) (o3.sublist hsub) ?_
  · rw [List.length_append, List.length_drop, hl]; omega
  · rw [old_append, hd, List.length_append, List.length_drop, hl]; omega
end Go.Proofs.Ytfngcabckfmhnaa.B
