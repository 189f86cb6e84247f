/- SearchRefuses: what the walk of the law needs. -/
import Derived.Test.YtfngcabckfmhnaaW1
namespace Go.Proofs.Ytfngcabckfmhnaa.B
open Go.RowKit Go.Proofs.YtfngcabckfmhnaaW.PrintWords Go.Proofs.YtfngcabckfmhnaaW.PrintLast Go.Proofs.YtfngcabckfmhnaaW.PrintMore Go.Proofs.Ytfngcabckfmhnaa.PA
set_option linter.unusedVariables false
set_option linter.unusedSimpArgs false

def SwapAny (w : World) (e : Ending) (w' : World) : Prop := ∃ v n, e = .returned (.tuple #[v, .int .i64 n]) ∧ (n = 0 ∨ n = 222) ∧ Below w.heap.size w w'
theorem swap_any (w : World) (g : Nat) (r : Option Nat) (ps : List (List Int)) (h : Idx w g r ps) (hn : (fl ps).length ≤ 2000) (p q : ByteArray) (hp : 1 ≤ p.size) (hpl : plB p = true) (hql : plB q = true) (client first : Int) :
    Calls Try.prog 21 #[.pointer (some ⟨g, 0, none⟩), .string p, .string q, .int .i64 client, .int .i64 first] w (SwapAny w) := by
  by_cases hbad : client < 1 ∨ 64 < client ∨ first < 1 ∨ 65 < first ∨ 65 - first < (((plc (strOfNums (fl ps)) p 0 true).length * (p.size + q.size) : Nat) : Int)
  · exact (swap_maker w g r ps h (by omega) p q hp hpl hql client first hbad).mono fun e w' ⟨he, hb⟩ => ⟨_, _, he, .inr rfl, hb⟩
  · exact (swap_ok w g r ps h _ rfl (by rw [strOfNums_size]; exact hn) p q hp hpl hql client first ⟨by omega, by omega⟩ ⟨by omega, by omega⟩ _ rfl (by omega)).mono fun e w' ⟨v, he, _, hb⟩ => ⟨v, 0, he, .inl rfl, hb⟩
theorem into_pure (a : Int) (n : Nat) (h : 0 < n) (hn : n ≤ 100000) : ∃ m : Nat, m < n ∧ jotterlaw24_into.f a n = some (m : Int) := by
  have h1 := Int.tmod_lt_of_pos a (show (0 : Int) < (n : Int) by omega)
  have h2 := Int.lt_tmod_of_pos a (show (0 : Int) < (n : Int) by omega)
  unfold jotterlaw24_into.f
  rw [if_neg (by omega)]
  by_cases hz : Int.tmod a n < 0
  · rw [if_pos hz]
    refine ⟨(Int.tmod a n + n).toNat, by omega, ?_⟩
    rw [w64 (by omega) (by omega)]
    congr 1
    omega
  · rw [if_neg hz]
    exact ⟨(Int.tmod a n).toNat, by omega, by congr 1; omega⟩
theorem mt_b {s : ByteArray} (h : 1 ≤ s.size) (h0 : bt s 0 = 98) : mt s ⟨#[98]⟩ 0 = true :=
  mt_true (s := s) (p := ⟨#[98]⟩) (i := 0) (by show 0 + 1 ≤ s.size; omega) (fun j hj => by
    have hj : j < 1 := hj
    obtain rfl : j = 0 := by omega
    exact h0)
theorem plc_b {s : ByteArray} (h : 1 ≤ s.size) (h0 : bt s 0 = 98) : 1 ≤ (plc s ⟨#[98]⟩ 0 true).length := by
  unfold plc
  obtain ⟨n, hn⟩ : ∃ n, s.size + 1 - (⟨#[98]⟩ : ByteArray).size - 0 = n + 1 := ⟨s.size - 1, by show s.size + 1 - 1 - 0 = s.size - 1 + 1; omega⟩
  rw [hn, scan, if_neg (by omega), if_pos (mt_b h h0)]
  simp
theorem bytesOf_app (a b : ByteArray) : bytesOf (a ++ b) = bytesOf a ++ bytesOf b := by
  unfold bytesOf
  simp
theorem plB_reps (n : Nat) (h : n ≤ 64) : plB (strOfNums (List.replicate n 98)) = true :=
  plB_of (by simpa using h) fun x hx => by obtain ⟨_, rfl⟩ := List.mem_replicate.1 hx; decide
theorem plB_long {s : ByteArray} (h : 64 < s.size) : plB s = false := by
  unfold plB
  rw [decide_eq_false (by omega)]
  rfl
theorem plB_two (b : Int) (hb : 0 ≤ b ∧ b ≤ 255) : plB (strOfNums [98, b]) = decide (32 ≤ b ∧ b ≤ 126) := by
  by_cases h : 32 ≤ b ∧ b ≤ 126
  · rw [decide_eq_true h]
    exact plB_of (show 2 ≤ 64 by omega) fun x hx => by
      simp only [List.mem_cons, List.not_mem_nil, or_false] at hx
      rcases hx with rfl | rfl
      · decide
      · exact h
  · rw [decide_eq_false h]
    unfold plB okB
    rw [strOfNums_data]
    simp
    intro _
    omega
theorem conv2 (w : World) (b : Int) : (convert 53 9 (.slice (some ⟨w.heap.size, 0, none⟩) 2 2)).run Try.prog (w.alloc (.cells #[.int .u8 98, .int .u8 b] 5)) = .ok (.string (strOfNums [98, b])) (w.alloc (.cells #[.int .u8 98, .int .u8 b] 5)) :=
  run_convert_bytes_arg _ 53 5 Try.underlying53 Try.underlying5 w.heap.size 0 2 2 [98, b] rfl (fun i hi => by
    have hk : (w.alloc (.cells #[.int .u8 98, .int .u8 b] 5)).heap[w.heap.size]? = some (.cells #[.int .u8 98, .int .u8 b] 5 (0, 0)) := heap_alloc_new w _
    match i, hi with
    | 0, _ => exact (blk_cell hk 0).trans rfl
    | 1, _ => exact (blk_cell hk 1).trans rfl) 9 Try.underlying9
theorem plc_first (T : ByteArray) (n : Nat) (h1 : 1 ≤ n) (hn : n ≤ (({ data := #[98] } : ByteArray) ++ T).size) : 1 ≤ (plc (strOfNums ((elemsL (({ data := #[98] } : ByteArray) ++ T) n).map (·.f0))) ⟨#[98]⟩ 0 true).length := by
  rw [elemsL_f0 _ _ hn, bytesOf_app]
  obtain ⟨k, rfl⟩ : ∃ k, n = k + 1 := ⟨n - 1, by omega⟩
  have e : (bytesOf ({ data := #[98] } : ByteArray) ++ bytesOf T).take (k + 1) = 98 :: (bytesOf T).take k := rfl
  rw [e]
  have hr : ∀ x ∈ (98 : Int) :: (bytesOf T).take k, 0 ≤ x ∧ x ≤ 255 := fun x hx => by
    rcases List.mem_cons.1 hx with rfl | hx
    · decide
    · exact bytesOf_range T x (List.mem_of_mem_take hx)
  have hs : 1 ≤ (strOfNums ((98 : Int) :: (bytesOf T).take k)).size := by rw [strOfNums_size, List.length_cons]; omega
  refine plc_b hs ?_
  have h0 := bytesOf_get (s := strOfNums ((98 : Int) :: (bytesOf T).take k)) (i := 0) hs
  rw [bytesOf_strOfNums _ hr] at h0
  exact (Option.some.inj h0).symm
theorem plc_lots {k : Nat} (h : 1 ≤ k) : (65 : Int) - 65 < ((k * ((⟨#[98]⟩ : ByteArray).size + (⟨#[]⟩ : ByteArray).size) : Nat) : Int) := by
  show (65 : Int) - 65 < ((k * (1 + 0) : Nat) : Int)
  omega
structure RS (w W : World) (g : Nat) (r : Option Nat) (ps : List (List Int)) (A0 : Option Addr) (c0 : Nat) (xs : List S76) (T : ByteArray) (N B K P C CL SQ : Int) : Prop where
  x : Idx W g r ps
  e : Kd.R k76 76 W w.heap.size (fun _ => True) (.slice A0 xs.length c0) xs
  b : Below w.heap.size w W
  q : W.heap[w.heap.size]? = some (.cells #[.string T, .int .i64 N, .int .u8 B] 52 (0, 0))
  o : W.heap[w.heap.size + 1]? = some (.cells #[.int .i64 K, .int .i64 P, .int .u8 C, .int .i64 CL, .int .i64 SQ] 46 (0, 0))
theorem RS.step {w W W' : World} {g : Nat} {r : Option Nat} {ps : List (List Int)} {A0 : Option Addr} {c0 : Nat} {xs : List S76} {T : ByteArray} {N B K P C CL SQ : Int} (h : RS w W g r ps A0 c0 xs T N B K P C CL SQ) (hb : Below W.heap.size W W') : RS w W' g r ps A0 c0 xs T N B K P C CL SQ :=
  ⟨h.x.below hb, Kd.R_below h.e hb, below_then h.b h.b.size hb, blk_below h.q hb, blk_below h.o hb⟩
theorem boxes_step {w W W' : World} {T : ByteArray} {N B K P C CL SQ : Int} (h : Below w.heap.size w W ∧ W.heap[w.heap.size]? = some (.cells #[.string T, .int .i64 N, .int .u8 B] 52 (0, 0)) ∧ W.heap[w.heap.size + 1]? = some (.cells #[.int .i64 K, .int .i64 P, .int .u8 C, .int .i64 CL, .int .i64 SQ] 46 (0, 0))) (hb : Below W.heap.size W W') :
    w.heap.size ≤ W.heap.size ∧ Below w.heap.size w W' ∧ W'.heap[w.heap.size]? = some (.cells #[.string T, .int .i64 N, .int .u8 B] 52 (0, 0)) ∧ W'.heap[w.heap.size + 1]? = some (.cells #[.int .i64 K, .int .i64 P, .int .u8 C, .int .i64 CL, .int .i64 SQ] 46 (0, 0)) :=
  ⟨h.1.size, below_then h.1 h.1.size hb, blk_below h.2.1 hb, blk_below h.2.2 hb⟩
theorem boxes (w : World) (T : ByteArray) (N B K P C CL SQ : Int) {W : World} (hb : Below ((w.alloc (.cells #[.string T, .int .i64 N, .int .u8 B] 52)).alloc (.cells #[.int .i64 K, .int .i64 P, .int .u8 C, .int .i64 CL, .int .i64 SQ] 46)).heap.size ((w.alloc (.cells #[.string T, .int .i64 N, .int .u8 B] 52)).alloc (.cells #[.int .i64 K, .int .i64 P, .int .u8 C, .int .i64 CL, .int .i64 SQ] 46)) W) :
    w.heap.size ≤ ((w.alloc (.cells #[.string T, .int .i64 N, .int .u8 B] 52)).alloc (.cells #[.int .i64 K, .int .i64 P, .int .u8 C, .int .i64 CL, .int .i64 SQ] 46)).heap.size ∧ Below w.heap.size w W ∧ W.heap[w.heap.size]? = some (.cells #[.string T, .int .i64 N, .int .u8 B] 52 (0, 0)) ∧ W.heap[w.heap.size + 1]? = some (.cells #[.int .i64 K, .int .i64 P, .int .u8 C, .int .i64 CL, .int .i64 SQ] 46 (0, 0)) := by
  refine boxes_step ⟨below_alloc (below_alloc (Below.refl _ _) _) _, blk_alloc (heap_alloc_new w _) _, ?_⟩ hb
  have := heap_alloc_new (w.alloc (.cells #[.string T, .int .i64 N, .int .u8 B] 52)) (.cells #[.int .i64 K, .int .i64 P, .int .u8 C, .int .i64 CL, .int .i64 SQ] 46)
  simpa using this
theorem app_small {xs : List S76} {k p c cl s : Int} (h : fit xs.length k p c cl s = 0) (hn : xs.length ≤ 500) : (app xs k p c cl s).length ≤ 1000 := by
  obtain ⟨_, _, _, _, hp, h1, h2⟩ := fit_zero h
  unfold app
  split
  · have := h1 (by assumption)
    simp
    omega
  · split
    · simp
      omega
    · omega
end Go.Proofs.Ytfngcabckfmhnaa.B
