/- Words: what its walk needs. -/
import Derived.Test.YtfngcabckfmhnaaM1
import Derived.Test.YtfngcabckfmhnaaT0
namespace Go.Proofs.Ytfngcabckfmhnaa.B
open Go.RowKit Go.Proofs.YtfngcabckfmhnaaW.PrintWords Go.Proofs.YtfngcabckfmhnaaW.PrintLast Go.Proofs.YtfngcabckfmhnaaW.PrintMore Go.Proofs.Ytfngcabckfmhnaa.PA
set_option linter.unusedVariables false
set_option linter.unusedSimpArgs false

theorem law9 : Maps.Keyed Try.prog 9 := Maps.string_keyed Try.underlying9
theorem zero3 (w : World) : (zeroValue 3).run Try.prog w = .ok (.int .i64 0) w := by kernel_rfl
theorem info9w : (Try.prog.info? 9).map (fun i => (i.zero, i.size, i.bytes)) = some (some (.string ⟨#[]⟩), 1, 16) := by kernel_rfl
theorem info3w : (Try.prog.info? 3).map (fun i => (i.zero, i.size, i.bytes)) = some (some (.int .i64 0), 1, 8) := by kernel_rfl
set_option maxHeartbeats 8000000 in
set_option maxRecDepth 100000 in
theorem letter_any (c : Int) (w : World) : Calls Try.prog 44 #[.int .i32 c] w (fun e w' => e = .returned (.bool (ltrI c)) ∧ Below w.heap.size w w') := by
  by_cases h1 : 97 ≤ c
  · have c1 := decide_eq_true h1
    by_cases h2 : c ≤ 122
    · have c2 := decide_eq_true h2
      have HR : Aside0 (ltrI c = true) := ⟨decide_eq_true (by omega)⟩
      clear h1 h2
      go_enter Try.func44, Try.ntmps44
      go_wp2
      go_ret
      exact ⟨ret_bool (by rw [HR.out]), by repeat (first | exact Below.refl _ _ | apply pw_below_drewN | apply below_drew1)⟩
    · have c2 := decide_eq_false h2
      have c3 : decide (65 ≤ c) = true := decide_eq_true (by omega)
      have c4 : decide (c ≤ 90) = false := decide_eq_false (by omega)
      have HR : Aside0 (ltrI c = false) := ⟨decide_eq_false (by omega)⟩
      clear h1 h2
      go_enter Try.func44, Try.ntmps44
      go_wp2
      go_ret
      exact ⟨ret_bool (by rw [HR.out]), by repeat (first | exact Below.refl _ _ | apply pw_below_drewN | apply below_drew1)⟩
  · have c1 := decide_eq_false h1
    by_cases h3 : 65 ≤ c
    · have c3 := decide_eq_true h3
      by_cases h4 : c ≤ 90
      · have c4 := decide_eq_true h4
        have HR : Aside0 (ltrI c = true) := ⟨decide_eq_true (by omega)⟩
        clear h1 h3 h4
        go_enter Try.func44, Try.ntmps44
        go_wp2
        go_ret
        exact ⟨ret_bool (by rw [HR.out]), by repeat (first | exact Below.refl _ _ | apply pw_below_drewN | apply below_drew1)⟩
      · have c4 := decide_eq_false h4
        have HR : Aside0 (ltrI c = false) := ⟨decide_eq_false (by omega)⟩
        clear h1 h3 h4
        go_enter Try.func44, Try.ntmps44
        go_wp2
        go_ret
        exact ⟨ret_bool (by rw [HR.out]), by repeat (first | exact Below.refl _ _ | apply pw_below_drewN | apply below_drew1)⟩
    · have c3 := decide_eq_false h3
      have HR : Aside0 (ltrI c = false) := ⟨decide_eq_false (by omega)⟩
      clear h1 h3
      go_enter Try.func44, Try.ntmps44
      go_wp2
      go_ret
      exact ⟨ret_bool (by rw [HR.out]), by repeat (first | exact Below.refl _ _ | apply pw_below_drewN | apply below_drew1)⟩
def bs (x : List UInt8) : ByteArray := ⟨x.toArray⟩
def WordsAns (w : World) (l : List UInt8) (e : Ending) (w' : World) : Prop :=
  ∃ v1 v2, e = .returned (.tuple #[v1, v2]) ∧ Kd.R Kd.string 9 w' w.heap.size (fun _ => True) v1 ((wordsOf l).map bs) ∧ Kd.R (Kd.int .i64) 3 w' w.heap.size (fun _ => True) v2 (oftenOf l) ∧ Below w.heap.size w w'
theorem encs_bs (l : List (List UInt8)) : encs Value.string (l.map bs) = l.map encStr := by
  unfold encs
  rw [List.map_map]
  rfl
theorem stp_len (l : List UInt8) : ∀ k, (stp l k).2.length ≤ k := by
  intro k
  induction k with
  | zero => exact Nat.le_refl _
  | succ k ih =>
    rw [stp]
    split
    · split
      · show (stp l k).2.length ≤ k + 1; omega
      · omega
    · split
      · omega
      · rw [List.length_append, List.length_singleton]; omega
/-- The loop over the text, between two rounds. -/
structure LW (w wr : World) (it : Nat) (T : ByteArray) (pos n : Nat) (D : DataW Unit) : Prop where
  i : wr.heap[it]? = some (.stringIter T pos)
  m : wr.ownsMap Try.prog 9 (plainElem Try.prog 3) w.heap.size n D
  b : Below w.heap.size w wr
  lt : w.heap.size < it
theorem obj_lt {w : World} {k : Nat} {o : Obj} (h : w.heap[k]? = some o) : k < w.heap.size := (Array.getElem?_eq_some_iff.1 h).1
theorem LW.step {w wr w' : World} {it : Nat} {T : ByteArray} {pos n : Nat} {D : DataW Unit} (h : LW w wr it T pos n D) (hb : Below wr.heap.size wr w') : LW w w' it T pos n D :=
  ⟨(hb.block it (obj_lt h.i)).trans h.i, h.m.kept (grown_of_below hb none) (by simp), below_then h.b h.b.size hb, h.lt⟩
theorem LW.next {w wr : World} {it : Nat} {T : ByteArray} {pos n : Nat} {D : DataW Unit} (h : LW w wr it T pos n D) (pos' : Nat) : LW w (wr.iterAt it T pos') it T pos' n D :=
  ⟨Lib.iterAt_heap wr it T pos pos' h.i, h.m.kept (row := some it) ⟨rfl, rfl, rfl, by rw [Lib.iterAt_size]; exact Nat.le_refl _, fun i hi hne => Lib.iterAt_other wr it i T pos' (fun e => hne (by rw [e]))⟩ (by have := h.lt; simp; omega), Lib.below_iterAt h.b (Nat.le_of_lt h.lt) T pos', h.lt⟩
theorem LW.put {w wr w' : World} {it : Nat} {T : ByteArray} {pos n : Nat} {D D' : DataW Unit} (h : LW w wr it T pos n D) (hm : w'.ownsMap Try.prog 9 (plainElem Try.prog 3) w.heap.size (n + 1) D') (hg : wr.grownBy w' (some w.heap.size)) : LW w w' it T pos (n + 1) D' :=
  ⟨(hg.block it (obj_lt h.i) (by have := h.lt; simp; omega)).trans h.i, hm, h.b.grown hg h.b.size (fun k hk => by cases hk; exact Nat.le_refl _), h.lt⟩
theorem LW.start {w w1 : World} {T : ByteArray} (hb : Below (w.alloc (.map #[] 0)).heap.size (w.alloc (.map #[] 0)) w1) : LW w (w1.iter T 0) w1.heap.size T 0 0 (.map []) := by
  have hs : w.heap.size + 1 ≤ w1.heap.size := by have := hb.size; simpa using this
  refine ⟨World.iter_heap w1 T 0, (World.ownsMap.kept (row := none) ?_ (World.grownBy_alloc w1 _ none) (by simp)), below_alloc (below_then (below_alloc (Below.refl _ _) _) (by simp) hb) _, by omega⟩
  exact (World.ownsMap_made w Try.prog 9 _).kept (grown_of_below hb none) (by simp)
/-- The loop over the map, between two rounds. -/
structure LR (w wr : World) (it n : Nat) (D : DataW Unit) (left : Lit → Bool) (cnt : Nat) (ss : List (List UInt8)) (v : Value) : Prop where
  g : wr.ranges Try.prog 9 (plainElem Try.prog 3) w.heap.size it n D left cnt
  cs : ss.length + cnt ≤ 5001
  row : wr.ownsRow (w.heap.size + 1) 9 1 v ss.length (ss.map encStr)
  nn : v ≠ .slice none 0 0
  C : Collected D left ss
  b : Below w.heap.size w wr
  lt : w.heap.size < it
theorem words_at {ws : List (List UInt8)} {k : Nat} {x : List UInt8} (h : ws[k]? = some x) : rdOf ByteArray.empty (ws.map bs) (k : Int) = bs x := by
  unfold rdOf
  rw [List.getD_eq_getElem?_getD, Int.toNat_natCast, List.getElem?_map, h]
  rfl
theorem often_step {l : List UInt8} {k : Nat} {x : List UInt8} (h : (wordsOf l)[k]? = some x) : (oftenOf l).take k ++ [((runsOf l).count x : Int)] = (oftenOf l).take (k + 1) := by
  unfold oftenOf
  rw [List.take_add_one, List.getElem?_map, h]
  rfl
theorem stp_short (l : List UInt8) : ∀ k, ∀ x ∈ (stp l k).2, x.length ≤ k := by
  intro k
  induction k with
  | zero => intro x hx; cases hx
  | succ k ih =>
    intro x hx
    rw [stp] at hx
    split at hx
    · split at hx
      · exact Nat.le_succ_of_le (ih x hx)
      · exact Nat.le_succ_of_le (ih x hx)
    · split at hx
      · exact Nat.le_succ_of_le (ih x hx)
      · rcases List.mem_append.1 hx with hx | hx
        · exact Nat.le_succ_of_le (ih x hx)
        · rw [List.mem_singleton] at hx
          subst hx
          rw [List.length_take]
          omega
theorem wordsOf_mem {l : List UInt8} {x : List UInt8} : x ∈ wordsOf l ↔ x ∈ runsOf l := by
  unfold wordsOf
  rw [List.mem_mergeSort, once_mem]
theorem bs_size (x : List UInt8) : (bs x).size = x.length := by simp [bs, ByteArray.size]
theorem word_size {l : List UInt8} {k : Nat} {x : List UInt8} (hl : l.length ≤ 5000) (h : (wordsOf l)[k]? = some x) : (bs x).size ≤ maxLen := by
  have h1 := stp_short (l ++ [32]) (l.length + 1) x (wordsOf_mem.1 (List.mem_of_getElem? h))
  rw [bs_size]
  unfold maxLen
  omega
end Go.Proofs.Ytfngcabckfmhnaa.B
