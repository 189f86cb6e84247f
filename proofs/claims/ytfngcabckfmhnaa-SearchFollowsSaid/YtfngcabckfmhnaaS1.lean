/- The walk of search.Index.Swap's closure: one operation more. -/
import Derived.Test.YtfngcabckfmhnaaG6
namespace Go.Proofs.Ytfngcabckfmhnaa.B
open Go.RowKit Go.Proofs.YtfngcabckfmhnaaW.PrintWords Go.Proofs.YtfngcabckfmhnaaW.PrintLast Go.Proofs.YtfngcabckfmhnaaW.PrintMore Go.Proofs.Ytfngcabckfmhnaa.PA
set_option linter.unusedVariables false
set_option linter.unusedSimpArgs false

/-- Swap's own memory: the boxes of client and first, the variable 'out' with its row. -/
structure SwS (w0 W : World) (o8 o9 o15 : Nat) (client first : Int) (ops : List S46) : Prop where
  b8 : W.heap[o8]? = some (.cells #[.int .i64 client] 3 (0, 0))
  b9 : W.heap[o9]? = some (.cells #[.int .i64 first] 3 (0, 0))
  out : ∃ v, W.heap[o15]? = some (.cells #[v] 39 (0, 0)) ∧ Kd.R k46 46 W w0.heap.size (fun _ => True) v ops
  bel : Below w0.heap.size w0 W
  g15 : w0.heap.size ≤ o15
theorem SwS.drewN {w0 W : World} {o8 o9 o15 : Nat} {client first : Int} {ops : List S46} (h : SwS w0 W o8 o9 o15 client first ops) (n : Nat) : SwS w0 (W.drewN n) o8 o9 o15 client first ops := by
  obtain ⟨v, h1, h2⟩ := h.out
  exact ⟨h.b8, h.b9, ⟨v, h1, Kd.R_drewN h2 n⟩, pw_below_drewN h.bel n, h.g15⟩

theorem info46 : (Try.prog.info? 46).map (fun i => (i.zero, i.size, i.bytes)) = some (some (.agg #[.int .i64 0, .int .i64 0, .int .u8 0, .int .i64 0, .int .i64 0]), 5, 40) := by kernel_rfl

/-- Rows of ints stay. -/
def K3 (W w' : World) : Prop := ∀ (k : Nat) (c : Array Value), W.heap[k]? = some (.cells c 3 (0, 0)) → w'.heap[k]? = W.heap[k]?
theorem K3.of_below {W w' : World} (h : Below W.heap.size W w') : K3 W w' := fun k c hk => h.block k (blk_lt hk)
theorem K3.row {W w' : World} (h : K3 W w') {B : Nat} {ok : Nat → Prop} {v : Value} {l : List Int} (hr : Kd.R (Kd.int .i64) 3 W B ok v l) : Kd.R (Kd.int .i64) 3 w' B ok v l :=
  Kd.R_mono (Kd.R_move (Kd.R_bound hr) (fun k hk => by
    obtain ⟨_, _, _, q, hq, c, hc⟩ := hk
    have : q = 3 := by simpa [Kd.int, Kd.scalar] using hq
    subst this
    exact h k c hc)) (fun k hk => hk.1)
def PutAns (w0 W : World) (o8 o9 o15 : Nat) (client first : Int) (ops : List S46) (e : Ending) (w' : World) : Prop := e = .returned (.tuple #[]) ∧ SwS w0 w' o8 o9 o15 client first ops ∧ K3 W w'

set_option maxHeartbeats 16000000 in
set_option maxRecDepth 100000 in
theorem put_any (w0 W : World) (o8 o9 o15 : Nat) (client first : Int) (ops : List S46) (h : SwS w0 W o8 o9 o15 client first ops) (k p c : Int) (hl : ops.length ≤ 1000) (hf : 1 ≤ first ∧ first ≤ 65) :
    Calls Try.prog 40 #[.int .i64 k, .int .i64 p, .int .u8 c, .pointer (some ⟨o15, 0, none⟩), .pointer (some ⟨o8, 0, none⟩), .pointer (some ⟨o9, 0, none⟩)] W (PutAns w0 W o8 o9 o15 client first (ops ++ [⟨k, p, c, client, first + ops.length⟩])) := by
  obtain ⟨v, h1, h2⟩ := h.out
  obtain ⟨A, cp, rfl⟩ := Kd.R_slice h2
  have H := Aside0.mk h
  have H1 := Aside0.mk h1
  have H2 := Aside0.mk h2
  have x15 : W.cell? ⟨o15, 0, none⟩ = some (.slice A ops.length cp) := (blk_cell h1 0).trans rfl
  have x8 : W.cell? ⟨o8, 0, none⟩ = some (.int .i64 client) := (blk_cell h.b8 0).trans rfl
  have x9 : W.cell? ⟨o9, 0, none⟩ = some (.int .i64 first) := (blk_cell h.b9 0).trans rfl
  have f15 : W.frozen? ⟨o15, 0, none⟩ = false := blk_frozen h1 0
  have hf1 := hf.1
  have hf2 := hf.2
  have hll : (ops.length : Int) ≤ 1000 := by omega
  have n15 : some o15 ≠ (Value.slice A ops.length cp).ownBlock := Kd.R_ne h2 h1 (by decide)
  have n8 : some o8 ≠ (Value.slice A ops.length cp).ownBlock := Kd.R_ne h2 h.b8 (by decide)
  have n9 : some o9 ≠ (Value.slice A ops.length cp).ownBlock := Kd.R_ne h2 h.b9 (by decide)
  have l15 : o15 < W.heap.size := blk_lt h1
  clear h h1 h2 hf hl
  go_enter Try.func40, Try.ntmps40
  go_wp2_with (at_builtin; go_loud (refine Kd.R_append k46 (w0 := w0) w0.heap.size rfl (.tmp 9) (.tmp 19) 39 46 (.agg #[.int .i64 0, .int .i64 0, .int .u8 0, .int .i64 0, .int .i64 0]) 40 rfl Try.underlying39 info46 rfl (by decide) (by omega) (.slice A ops.length cp) ops (⟨k, p, c, client, first + ops.length⟩ : S46) [.int .i64 k, .int .i64 p, .int .u8 c, .int .i64 client, .int .i64 (first + ops.length)] (fun _ => True) (fun _ => False) rfl rfl (k46_mkM _ _ _ (⟨k, p, c, client, first + ops.length⟩ : S46)) (fun _ hk => hk.elim) (fun _ _ => trivial) H2.out H.out.bel H.out.bel.size (by omega) ?_; intro v1 w1 ho hb hg hat; obtain ⟨A1, c1, rfl⟩ := Kd.R_slice ho; have HO := Aside0.mk ho; have HB := Aside0.mk hb; have HG := Aside0.mk hg; have y15 := (hg.cell_far ⟨o15, 0, none⟩ l15 n15).trans x15; have z15 := (hg.frozen_far ⟨o15, 0, none⟩ l15 n15).trans f15; clear ho hb hg hat))
  go_end0
  refine ⟨rfl, ?_, fun k cc hk => ?_⟩
  rotate_left
  · have n1 : k ≠ o15 := fun e => by subst e; rw [H1.out] at hk; injection hk with hk; injection hk with _ hk; cases hk
    rw [Below.heap_setCell _ _ _ _ n1, blk_grown hk HG.out (Kd.R_ne H2.out hk (by decide)), hk]
  have k15 := blk_grown H1.out HG.out n15
  have k8 := blk_grown H.out.b8 HG.out n8
  have k9 := blk_grown H.out.b9 HG.out n9
  refine ⟨blk_far k8 (fun e => by subst e; rw [k15] at k8; injection k8 with k8; injection k8 with _ k8; cases k8) _, blk_far k9 (fun e => by subst e; rw [k15] at k9; injection k9 with k9; injection k9 with _ k9; cases k9) _, ⟨_, blk_set k15 0 _, ?_⟩, HB.out.setCell H.out.g15 _, H.out.g15⟩
  have hr := Kd.R_set HO.out k15 (by decide) 0 (.slice A1 (ops.length + 1) c1)
  rw [List.length_append] at hr
  exact hr
end Go.Proofs.Ytfngcabckfmhnaa.B
/- The walk of search.Index.Swap: what it refuses, and its operations. -/
namespace Go.Proofs.Ytfngcabckfmhnaa.B
open Go.RowKit Go.Proofs.YtfngcabckfmhnaaW.PrintWords Go.Proofs.YtfngcabckfmhnaaW.PrintLast Go.Proofs.YtfngcabckfmhnaaW.PrintMore Go.Proofs.Ytfngcabckfmhnaa.PA
attribute [local go_sem] max2_int max_two
set_option linter.unusedVariables false
set_option linter.unusedSimpArgs false

def SwapBad (w : World) (n : Int) (e : Ending) (w' : World) : Prop := e = .returned (.tuple #[.slice none 0 0, .int .i64 n]) ∧ Below w.heap.size w w'
def SwapAns (w : World) (ops : List S46) (e : Ending) (w' : World) : Prop := ∃ v, e = .returned (.tuple #[v, .int .i64 0]) ∧ Kd.R k46 46 w' w.heap.size (fun _ => True) v ops ∧ Below w.heap.size w w'

/-- What is wanted of the operations, without Client and Seq: at each place the pattern's deletions, then the filling's insertions. -/
def rawAt (m : Nat) (q : ByteArray) (i k : Nat) : List (Int × Int × Int) :=
  List.replicate m (2, (i : Int) + (k : Int) * ((q.size : Int) - (m : Int)), 0) ++ (List.range q.size).map fun (j : Nat) => (1, (i : Int) + (k : Int) * ((q.size : Int) - (m : Int)) + (j : Int), bt q j)
def raws (m : Nat) (q : ByteArray) (L : List Nat) : Nat → List (Int × Int × Int)
  | 0 => []
  | k + 1 => raws m q L k ++ rawAt m q (L.getD k 0) k
/-- With their Client, their Seqs one behind the other. -/
def mkOps (client first : Int) (l : List (Int × Int × Int)) : List S46 := l.mapIdx fun n x => ⟨x.1, x.2.1, x.2.2, client, first + (n : Int)⟩
theorem mkOps_snoc (client first : Int) (l : List (Int × Int × Int)) (x : Int × Int × Int) : mkOps client first (l ++ [x]) = mkOps client first l ++ [⟨x.1, x.2.1, x.2.2, client, first + ((mkOps client first l).length : Int)⟩] := by
  unfold mkOps
  rw [List.mapIdx_append]
  simp
theorem mkOps_length (client first : Int) (l : List (Int × Int × Int)) : (mkOps client first l).length = l.length := by simp [mkOps]
theorem rawAt_length (m : Nat) (q : ByteArray) (i k : Nat) : (rawAt m q i k).length = m + q.size := by simp [rawAt]
theorem raws_length (m : Nat) (q : ByteArray) (L : List Nat) (k : Nat) : (raws m q L k).length = k * (m + q.size) := by
  induction k with
  | zero => simp [raws]
  | succ k ih => rw [raws, List.length_append, ih, rawAt_length, Nat.succ_mul]

set_option maxHeartbeats 16000000 in
set_option maxRecDepth 100000 in
theorem swap_needle (w : World) (a : Value) (p q : ByteArray) (client first : Int) (hb : plB p = false ∨ p.size = 0 ∨ plB q = false) :
    Calls Try.prog 21 #[a, .string p, .string q, .int .i64 client, .int .i64 first] w (SwapBad w 240) := by
  by_cases hp : p.size = 0
  · have hne := toList_em hp
    clear hb hp
    go_enter Try.func21, Try.ntmps21
    go_wp2
    go_ret2
    exact ⟨rfl, by repeat (first | exact Below.refl _ _ | apply below_alloc)⟩
  · have hne := toList_ne (p := p) (by omega)
    by_cases hpl : plB p = false
    · have HPL := Aside0.mk hpl
      clear hb hpl hp
      go_enter Try.func21, Try.ntmps21
      go_wp2_with (go_at_call 37; refine (plain_any p _).mono ?_; rintro e w1 ⟨rfl, hb1⟩; rw [HPL.out]; have HB := Aside0.mk (below_then (below_alloc (below_alloc (Below.refl _ _) _) _ : Below w.heap.size w _) (by simp; omega) hb1); clear hb1)
      go_ret2
      exact ⟨rfl, HB.out⟩
    · have HPL : Aside0 (plB p = true) := ⟨by simpa using hpl⟩
      have HQL : Aside0 (plB q = false) := ⟨by rcases hb with h | h | h; exact absurd h hpl; exact absurd h hp; exact h⟩
      have tok : True := trivial
      clear hb hpl hp
      go_enter Try.func21, Try.ntmps21
      go_wp2_with (go_at_call 37; first
        | ((with_reducible refine (plain_any p _).mono ?_); rintro e w1 ⟨rfl, hb1⟩; rw [HPL.out]; have HB := Aside0.mk (below_then (below_alloc (below_alloc (Below.refl _ _) _) _ : Below w.heap.size w _) (by simp; omega) hb1); clear hb1)
        | ((with_reducible refine (plain_any q _).mono ?_); rintro e w2 ⟨rfl, hb2⟩; rw [HQL.out]; have HB2 := Aside0.mk (below_then HB.out HB.out.size hb2); clear hb2))
      go_ret2
      exact ⟨rfl, HB2.out⟩
end Go.Proofs.Ytfngcabckfmhnaa.B
