/- The walk of search.Index.places, Find and Next. -/
import Derived.Test.YtfngcabckfmhnaaB4
import Derived.WalkMore
namespace Go.Proofs.Ytfngcabckfmhnaa.B
open Go.RowKit Go.Proofs.YtfngcabckfmhnaaW.PrintWords Go.Proofs.YtfngcabckfmhnaaW.PrintLast Go.Proofs.YtfngcabckfmhnaaW.PrintMore Go.Proofs.Ytfngcabckfmhnaa.PA
attribute [local go_sem] max2_int max_two
set_option linter.unusedVariables false
set_option linter.unusedSimpArgs false

/-- Does p stand in s at place i? -/
def mt (s p : ByteArray) (i : Nat) : Bool := ((bytesOf s).drop i).take p.size == bytesOf p
/-- The places among the n from i on at which m is true; apart: each hides the wd behind it. -/
def scan (m : Nat → Bool) (wd : Nat) (ap : Bool) : Nat → Nat → Nat → List Nat
  | 0, _, _ => []
  | n + 1, i, next => if i < next then scan m wd ap n (i + 1) next else if m i then i :: scan m wd ap n (i + 1) (if ap then i + wd else next) else scan m wd ap n (i + 1) next
/-- What places answers. -/
def plc (s p : ByteArray) (pos : Nat) (ap : Bool) : List Nat := scan (mt s p) p.size ap (s.size + 1 - p.size - pos) pos pos

theorem bytesOf_get {s : ByteArray} {i : Nat} (h : i < s.size) : (bytesOf s)[i]? = some (bt s i) := by
  have h' : i < s.data.toList.length := by rw [data_length]; exact h
  unfold bytesOf bt
  rw [List.getElem?_map, List.getElem?_eq_getElem h', dif_pos (by simpa using h)]
  rfl
theorem mt_true {s p : ByteArray} {i : Nat} (hl : i + p.size ≤ s.size) (h : ∀ j : Nat, j < p.size → bt s ((i + j : Nat) : Int) = bt p (j : Int)) : mt s p i = true := by
  unfold mt
  rw [beq_iff_eq]
  apply List.ext_getElem?
  intro j
  rw [List.getElem?_take, List.getElem?_drop]
  split
  · rename_i hj
    rw [bytesOf_get (by omega), bytesOf_get hj, ← h j hj]
  · rename_i hj
    rw [List.getElem?_eq_none (by rw [bytesOf_length]; omega)]
theorem mt_false {s p : ByteArray} {i j : Nat} (hj : j < p.size) (hl : i + j < s.size) (h : bt s ((i + j : Nat) : Int) ≠ bt p (j : Int)) : mt s p i = false := by
  unfold mt
  rw [beq_eq_false_iff_ne]
  intro e
  have := congrArg (fun l => l[j]?) e
  simp only [List.getElem?_take, List.getElem?_drop, if_pos hj, bytesOf_get hl, bytesOf_get hj, Option.some.injEq] at this
  exact h this

theorem snoc_map (out : List Nat) (i : Nat) : (out.map fun (j : Nat) => (j : Int)) ++ [(i : Int)] = (out ++ [i]).map fun (j : Nat) => (j : Int) := by simp

def PlAns (w : World) (l : List Nat) (e : Ending) (w' : World) : Prop :=
  ∃ v, e = .returned v ∧ Kd.R (Kd.int .i64) 3 w' w.heap.size (fun _ => True) v (l.map fun (j : Nat) => (j : Int)) ∧ Below w.heap.size w w'

set_option maxHeartbeats 8000000 in
set_option maxRecDepth 100000 in
theorem places_any (w : World) (g : Nat) (r : Option Nat) (ps : List (List Int)) (h : Idx w g r ps) (hn : (fl ps).length ≤ 5864062014000) (p : ByteArray) (hp : 1 ≤ p.size) (hp2 : p.size ≤ 64) (pos : Int) (hpos : pos ≤ 5864062014000) (ap : Bool) :
    Calls Try.prog 38 #[.pointer (some ⟨g, 0, none⟩), .string p, .int .i64 pos, .bool ap] w (PlAns w (plc (strOfNums (fl ps)) p pos.toNat ap)) := by
  have HI := Aside0.mk h
  have HN := Aside0.mk hn
  clear h hn
  obtain ⟨q, hq0, hq1⟩ : ∃ q : Nat, (if 0 < pos then pos else 0) = (q : Int) ∧ pos.toNat = q := ⟨pos.toNat, by split <;> omega, rfl⟩
  obtain ⟨s, hs⟩ : ∃ s, strOfNums (fl ps) = s := ⟨_, rfl⟩
  have HS := Aside0.mk hs
  have HSz : Aside0 (s.size ≤ 5864062014000) := ⟨by rw [← hs, strOfNums_size]; exact HN.out⟩
  rw [hq1, hs]
  have HQ1 := Aside0.mk hq1
  clear hq1 hs
  obtain ⟨M, hM⟩ : ∃ M : Nat, M = s.size + 1 - p.size := ⟨_, rfl⟩
  have HM := Aside0.mk hM
  have HQ : Aside0 (q ≤ 5864062014000) := ⟨by have := HQ1.out; omega⟩
  clear hM
  unfold plc
  rw [← HM.out]
  have hqi : (q : Int) ≤ 5864062014000 := by have := HQ.out; omega
  have hsz : (s.size : Int) ≤ 5864062014000 := by have := HSz.out; omega
  have hpz : (p.size : Int) ≤ 64 := by omega
  have hpz0 : (1 : Int) ≤ (p.size : Int) := by omega
  go_enter Try.func38, Try.ntmps38
  go_wp2
  go_step3
  go_wp2_with (go_at_call 20; refine (text_any _ g r ps HI.out (by have := HN.out; omega)).mono ?_; rintro e w1 ⟨rfl, hb1⟩; rw [HS.out]; have HB := Aside0.mk hb1; clear hb1)
  go_step3
  go_wp2
  go_loopg [10, 11, 12] (M - q) (fun gk v10 v11 v12 wr => ∃ (i nx : Nat) (out : List Nat), v12 = .int .i64 (i : Int) ∧ v11 = .int .i64 (nx : Int) ∧ (i : Int) ≤ 5864062014002 ∧ Aside0 (gk = M - i) ∧ Aside0 (out ++ scan (mt s p) p.size ap gk i nx = scan (mt s p) p.size ap (M - q) q q) ∧
    Aside0 (Kd.R (Kd.int .i64) 3 wr w.heap.size (fun _ => True) v10 (out.map fun (j : Nat) => (j : Int))) ∧ Aside0 (out.length ≤ i) ∧ Aside0 (Below w.heap.size w wr))
  case atStart => exact ⟨q, q, [], rfl, rfl, by omega, ⟨rfl⟩, ⟨by simp⟩, ⟨Kd.R_nil _ _ _ _ _⟩, ⟨Nat.zero_le _⟩, HB⟩
  case round =>
    clear hq0
    obtain ⟨i, nx, out, rfl, rfl, hi, HG, HSc, HR, HOl, HB⟩ := hrel
    by_cases hlt : (i : Int) + (p.size : Int) ≤ (s.size : Int)
    · have c1 := decide_eq_true hlt
      obtain ⟨gk, rfl⟩ : ∃ m, gk = m + 1 := ⟨gk - 1, by have := HG.out; have := HM.out; omega⟩
      by_cases hnx : (i : Int) < (nx : Int)
      · have c2 := decide_eq_true hnx
        have HS2 : Aside0 (scan (mt s p) p.size ap (gk + 1) i nx = scan (mt s p) p.size ap gk (i + 1) nx) := ⟨by simp only [scan]; rw [if_pos (by omega)]⟩
        go_wp2
        go_roundg gk
        case measure => omega
        case rel => exact ⟨i + 1, nx, out, by go_num, rfl, by omega, ⟨by have := HG.out; omega⟩, ⟨by rw [← HS2.out]; exact HSc.out⟩, HR, ⟨by have := HOl.out; omega⟩, HB⟩
      · have c2 := decide_eq_false hnx
        go_wp2
        obtain ⟨G, rfl⟩ : ∃ G, G = gk := ⟨_, rfl⟩
        go_loopg [13, 33] p.size (fun hk v13 v33 wi => ∃ k : Nat, v33 = .int .i64 (k : Int) ∧ (k : Int) ≤ (p.size : Int) ∧ Aside0 (hk = p.size - k) ∧ Aside0 (∀ j : Nat, j < k → bt s ((i + j : Nat) : Int) = bt p (j : Int)) ∧
          Aside0 (Kd.R (Kd.int .i64) 3 wi w.heap.size (fun _ => True) u10 (out.map fun (j : Nat) => (j : Int))) ∧ Aside0 (Below w.heap.size w wi))
        case atStart => exact ⟨0, rfl, by omega, ⟨rfl⟩, ⟨fun j hj => absurd hj (by omega)⟩, HR, HB⟩
        case round =>
          clear HR HB
          obtain ⟨k, rfl, hk, HH, HE, HR, HB⟩ := hrel
          by_cases hkl : (k : Int) < (p.size : Int)
          · have c3 := decide_eq_true hkl
            have b0 : (0 : Int) ≤ (i : Int) + (k : Int) := by omega
            have b1 : (i : Int) + (k : Int) < (s.size : Int) := by omega
            have b2 : (0 : Int) ≤ (k : Int) := by omega
            obtain ⟨x, hx⟩ : ∃ x, x = bt s ((i + k : Nat) : Int) := ⟨_, rfl⟩
            obtain ⟨y, hy⟩ : ∃ y, y = bt p (k : Int) := ⟨_, rfl⟩
            have hxs : ∀ h : i + k < s.size, ((s[i + k]'h).toNat : Int) = x := fun h => by rw [hx]; exact bt_at s ((i + k : Nat) : Int) (by rw [Int.toNat_natCast]; exact h)
            have hys : ∀ h : k < p.size, ((p[k]'h).toNat : Int) = y := fun h => by rw [hy]; exact bt_at p ((k : Nat) : Int) (by rw [Int.toNat_natCast]; exact h)
            have HX := Aside0.mk hx
            have HY := Aside0.mk hy
            clear hx hy
            by_cases hxy : x = y
            · have c4 : (x != y) = false := bne_eq_false_iff_eq.mpr hxy
              have HXY := Aside0.mk hxy
              clear hxy
              go_wp2
              go_quiet (fail)
              go_wp2
              go_roundg (p.size - (k + 1))
              case measure => have := HH.out; omega
              case rel => exact ⟨k + 1, by go_num, by omega, ⟨rfl⟩, ⟨fun j hj => by
                by_cases hjk : j < k
                · exact HE.out j hjk
                · obtain rfl : j = k := by omega
                  rw [← HX.out, ← HY.out]; exact HXY.out⟩, ⟨Kd.R_drewN HR.out _⟩, ⟨pw_below_drewN HB.out _⟩⟩
            · have c4 : (x != y) = true := bne_iff_ne.mpr hxy
              have HXY := Aside0.mk hxy
              clear hxy
              have HS2 : Aside0 (scan (mt s p) p.size ap (G + 1) i nx = scan (mt s p) p.size ap G (i + 1) nx) := ⟨by simp only [scan]; rw [if_neg (by omega), mt_false (j := k) (by omega) (by omega) (by rw [← HX.out, ← HY.out]; exact HXY.out)]; rfl⟩
              go_wp2
              go_quiet (fail)
              go_wp2
              go_roundg G
              case measure => omega
              case rel => exact ⟨i + 1, nx, out, by go_num, rfl, by omega, ⟨by have := HG.out; omega⟩, ⟨by rw [← HS2.out]; exact HSc.out⟩, ⟨Kd.R_drewN HR.out _⟩, ⟨by have := HOl.out; omega⟩, ⟨pw_below_drewN HB.out _⟩⟩
          · have c3 := decide_eq_false hkl
            obtain rfl : k = p.size := by omega
            have HMt : Aside0 (mt s p i = true) := ⟨mt_true (by omega) HE.out⟩
            cases ap with
            | true =>
              have HS2 : Aside0 (scan (mt s p) p.size true (G + 1) i nx = i :: scan (mt s p) p.size true G (i + 1) (i + p.size)) := ⟨by simp only [scan]; rw [if_neg (by omega), if_pos HMt.out]; rfl⟩
              go_wp2_with (at_builtin; go_loud (refine Kd.R_append (Kd.int .i64) (w0 := w) w.heap.size rfl _ _ 27 3 (.int .i64 0) 8 rfl Try.underlying27 info3 rfl (by decide) (by omega) u10 (out.map fun (j : Nat) => (j : Int)) ((i : Nat) : Int) [.int .i64 ((i : Nat) : Int)] (fun _ => True) (fun _ => False) rfl rfl rfl (fun _ hk => hk.elim) (fun _ _ => trivial) HR.out HB.out HB.out.size (by rw [List.length_map]; have := HOl.out; omega) ?_; intro v1 w1 ho hb hg hat; rw [snoc_map] at ho; have HR1 := Aside0.mk ho; have HB1 := Aside0.mk hb; clear ho hb hg hat))
              go_roundg G
              case measure => omega
              case rel => exact ⟨i + 1, i + p.size, out ++ [i], by go_num, by go_num, by omega, ⟨by have := HG.out; omega⟩, ⟨by rw [List.append_assoc, List.singleton_append, ← HS2.out]; exact HSc.out⟩, HR1, ⟨by have := HOl.out; simp; omega⟩, HB1⟩
            | false =>
              have HS2 : Aside0 (scan (mt s p) p.size false (G + 1) i nx = i :: scan (mt s p) p.size false G (i + 1) nx) := ⟨by simp only [scan]; rw [if_neg (by omega), if_pos HMt.out]; rfl⟩
              go_wp2_with (at_builtin; go_loud (refine Kd.R_append (Kd.int .i64) (w0 := w) w.heap.size rfl _ _ 27 3 (.int .i64 0) 8 rfl Try.underlying27 info3 rfl (by decide) (by omega) u10 (out.map fun (j : Nat) => (j : Int)) ((i : Nat) : Int) [.int .i64 ((i : Nat) : Int)] (fun _ => True) (fun _ => False) rfl rfl rfl (fun _ hk => hk.elim) (fun _ _ => trivial) HR.out HB.out HB.out.size (by rw [List.length_map]; have := HOl.out; omega) ?_; intro v1 w1 ho hb hg hat; rw [snoc_map] at ho; have HR1 := Aside0.mk ho; have HB1 := Aside0.mk hb; clear ho hb hg hat))
              go_roundg G
              case measure => omega
              case rel => exact ⟨i + 1, nx, out ++ [i], by go_num, rfl, by omega, ⟨by have := HG.out; omega⟩, ⟨by rw [List.append_assoc, List.singleton_append, ← HS2.out]; exact HSc.out⟩, HR1, ⟨by have := HOl.out; simp; omega⟩, HB1⟩
    · have c1 := decide_eq_false hlt
      have HZ : Aside0 (gk = 0) := ⟨by have := HG.out; have := HM.out; omega⟩
      go_wp2
      go_ret
      refine ⟨_, rfl, ?_, HB.out⟩
      have h1 := HSc.out
      rw [HZ.out] at h1
      simp only [scan, List.append_nil] at h1
      rw [← h1]
      exact HR.out
end Go.Proofs.Ytfngcabckfmhnaa.B
