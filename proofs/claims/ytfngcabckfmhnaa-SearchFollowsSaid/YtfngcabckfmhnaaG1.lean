/- The walk of search.Index.spot: the piece that holds a place, and the place in it. -/
import Derived.Test.YtfngcabckfmhnaaB6
import Derived.Deep.RegionLaw
import Derived.Laws.CopyOwn
namespace Go.Proofs.Ytfngcabckfmhnaa.B
open Go.RowKit Go.Proofs.YtfngcabckfmhnaaW.PrintWords Go.Proofs.YtfngcabckfmhnaaW.PrintLast Go.Proofs.YtfngcabckfmhnaaW.PrintMore Go.Proofs.Ytfngcabckfmhnaa.PA
set_option linter.unusedVariables false
set_option linter.unusedSimpArgs false

def SpotAns (w : World) (ps : List (List Int)) (pos : Nat) (e : Ending) (w' : World) : Prop :=
  ∃ (i q : Nat) (l : List Int), e = .returned (.tuple #[.int .i64 (i : Int), .int .i64 (q : Int)]) ∧ ps[i]? = some l ∧ q ≤ l.length ∧ (fl (ps.take i)).length + q = pos ∧ (pos < (fl ps).length → q < l.length) ∧ w' = w

theorem fl_last {ps : List (List Int)} {i : Nat} {l : List Int} (h : ps[i]? = some l) (hi : i + 1 = ps.length) : (fl (ps.take i)).length + l.length = (fl ps).length := by
  have h1 := fl_take h
  rw [hi, List.take_length] at h1
  rw [h1, List.length_append]

set_option maxHeartbeats 8000000 in
set_option maxRecDepth 100000 in
theorem spot_any (w : World) (g : Nat) (r : Option Nat) (ps : List (List Int)) (h : Idx w g r ps) (hn : (fl ps).length ≤ 5864062014000) (hne : 0 < ps.length) (pos : Nat) (hpos : pos ≤ (fl ps).length) :
    Calls Try.prog 42 #[.pointer (some ⟨g, 0, none⟩), .int .i64 (pos : Int)] w (SpotAns w ps pos) := by
  obtain ⟨A, c, h0, h1, hl, hps⟩ := h.open_
  have HP := Aside0.mk hps
  have HN := Aside0.mk hn
  have HPos := Aside0.mk hpos
  have hpp : (pos : Int) ≤ 5864062014000 := by omega
  clear hps h hn hpos
  go_enter Try.func42, Try.ntmps42
  go_wp2
  go_loop [1, 13] (fun v1 v13 => ∃ i q : Nat, v13 = .int .i64 (i : Int) ∧ v1 = .int .i64 (q : Int) ∧ (i : Int) < (ps.length : Int) ∧ (q : Int) ≤ 5864062014000 ∧ Aside0 ((fl (ps.take i)).length + q = pos)) (fun _ v13 => ps.length - (intOf v13).toNat)
  case atStart => exact ⟨0, pos, rfl, rfl, by omega, by omega, ⟨by simp [fl]⟩⟩
  case round =>
    obtain ⟨i, q, rfl, rfl, hi, hq, HQ⟩ := hrel
    obtain ⟨l, hli⟩ : ∃ l, ps[i]? = some l := ⟨_, List.getElem?_eq_getElem (by omega)⟩
    obtain ⟨ad, B, d, rfl, hc, hld, hC⟩ := HP.out i _ hli
    have HL := Aside0.mk hli
    have c0 := decide_eq_true hi
    clear hC hli
    have HS := Aside0.mk (fl_step HL.out)
    by_cases hlt : (q : Int) < (l.length : Int)
    · have c1 := decide_eq_true hlt
      go_wp2
      go_ret2
      exact ⟨i, q, l, rfl, HL.out, by omega, HQ.out, fun _ => by omega, rfl⟩
    · have c1 := decide_eq_false hlt
      by_cases hqe : (q : Int) = (l.length : Int)
      · have c2 : ((q : Int) == (l.length : Int)) = true := beq_iff_eq.mpr hqe
        have HQE := Aside0.mk hqe
        by_cases hie : (i : Int) = (ps.length : Int) - 1
        · have c3 : ((i : Int) == (ps.length : Int) - 1) = true := beq_iff_eq.mpr hie
          have HE := Aside0.mk (fl_last HL.out (by omega))
          clear hqe hie
          go_wp2
          go_ret2
          exact ⟨i, q, l, rfl, HL.out, by have := HQE.out; omega, HQ.out, fun hlt => by have := HE.out; have := HQ.out; have := HQE.out; omega, rfl⟩
        · have c3 : ((i : Int) == (ps.length : Int) - 1) = false := beq_eq_false_iff_ne.mpr hie
          have b1 : (i : Int) + 1 < (ps.length : Int) := by omega
          clear hqe hie
          go_wp2
          go_round
          case rel => exact ⟨i + 1, q - l.length, by go_num, by have := HQE.out; go_num, by omega, by omega, ⟨by rw [fl_take HL.out, List.length_append]; have := HQ.out; omega⟩⟩
          case measure => simp [intOf]; omega
      · have c2 : ((q : Int) == (l.length : Int)) = false := beq_eq_false_iff_ne.mpr hqe
        have b1 : (i : Int) + 1 < (ps.length : Int) := by
          rcases Nat.lt_or_ge (i + 1) ps.length with h | h
          · omega
          · have := fl_last HL.out (by omega)
            have := HQ.out
            have := HPos.out
            omega
        have b2 : (0 : Int) ≤ (q : Int) - (l.length : Int) := by omega
        clear hqe
        go_wp2
        go_round
        case rel => exact ⟨i + 1, q - l.length, by go_num, by go_num, by omega, by omega, ⟨by rw [fl_take HL.out, List.length_append]; have := HQ.out; omega⟩⟩
        case measure => simp [intOf]; omega
end Go.Proofs.Ytfngcabckfmhnaa.B
/- What an index's own operations leave as it was; a copy inside a row, as one step of a region that draws. -/
namespace Go.Proofs.Ytfngcabckfmhnaa.B
open Go.RowKit Go.Proofs.YtfngcabckfmhnaaW.PrintWords Go.Proofs.YtfngcabckfmhnaaW.PrintLast Go.Proofs.YtfngcabckfmhnaaW.PrintMore Go.Proofs.Ytfngcabckfmhnaa.PA

/-- From w to w' only block g and row r have turned; the row is r' now: r itself, or new. -/
structure Chg (w w' : World) (g : Nat) (r r' : Option Nat) : Prop where
  os : w'.os = w.os
  tape : w'.tape = w.tape
  output : w'.output = w.output
  size : w.heap.size ≤ w'.heap.size
  block : ∀ k, k < w.heap.size → k ≠ g → some k ≠ r → w'.heap[k]? = w.heap[k]?
  row : r' = r ∨ ∃ k, r' = some k ∧ w.heap.size ≤ k
theorem Chg.refl (w : World) (g : Nat) (r : Option Nat) : Chg w w g r r := ⟨rfl, rfl, rfl, Nat.le_refl _, fun _ _ _ _ => rfl, .inl rfl⟩
theorem Chg.trans {w w1 w2 : World} {g : Nat} {r r1 r2 : Option Nat} (h : Chg w w1 g r r1) (k : Chg w1 w2 g r1 r2) : Chg w w2 g r r2 := by
  refine ⟨k.os.trans h.os, k.tape.trans h.tape, k.output.trans h.output, Nat.le_trans h.size k.size, fun j hj hg hr => ?_, ?_⟩
  · rw [k.block j (Nat.lt_of_lt_of_le hj h.size) hg ?_, h.block j hj hg hr]
    rcases h.row with e | ⟨b, e, hb⟩
    · rw [e]; exact hr
    · rw [e]; intro e2; injection e2 with e2; omega
  · rcases k.row with e | ⟨b, e, hb⟩
    · rw [e]; exact h.row
    · exact .inr ⟨b, e, Nat.le_trans h.size hb⟩
theorem Chg.of_below {w w' : World} (h : Below w.heap.size w w') (g : Nat) (r : Option Nat) : Chg w w' g r r :=
  ⟨h.os, h.tape, h.output, h.size, fun k hk _ _ => h.block k hk, .inl rfl⟩
theorem Chg.drewN {w w' : World} {g : Nat} {r r' : Option Nat} (h : Chg w w' g r r') (n : Nat) : Chg w (w'.drewN n) g r r' := ⟨h.os, h.tape, h.output, h.size, h.block, h.row⟩
theorem Chg.grown {w w1 w2 : World} {g : Nat} {r r1 r2 : Option Nat} (h : Chg w w1 g r r1) (hg : w1.grownBy w2 r1) (h2 : r2 = r1 ∨ ∃ k, r2 = some k ∧ w1.heap.size ≤ k) : Chg w w2 g r r2 :=
  h.trans ⟨hg.os, hg.tape, hg.output, hg.size, fun k hk _ hr => hg.block k hk hr, h2⟩
theorem Chg.set {w w1 : World} {g : Nat} {r r1 : Option Nat} (h : Chg w w1 g r r1) (p : Addr) (u : Value) (hp : p.block = g ∨ some p.block = r1) : Chg w (w1.setCell p u) g r r1 :=
  h.trans ⟨rfl, rfl, rfl, by simp [World.setCell], fun k _ hg hr => Below.heap_setCell _ _ _ _ (fun e => by
    subst e
    rcases hp with hp | hp
    · exact hg hp
    · exact hr hp), .inl rfl⟩

/-- copy(d, s) inside one row, as one step of a region that draws: the row's cells behind it; nothing else has turned. -/
theorem step_copy_in {P : Program} {ops : Array Oper} {o : Oper} {a : Act} {w : World} {K : Act → World → Prop} {Q : Exit → Act → World → Prop} {E : Prop} (hgd : o.guard = none) (d s : Operand) (dT sT : TypeId)
    (ho : o.op = .call { callee := .builtin .copy, args := #[d, s], argTypes := #[dT, sT] }) (elem : TypeId) (hu : P.underlying dT = some (.slice elem)) (hsz : (P.info? elem).map (·.size) = some 1)
    (dp sp : Option Addr) (dLen dCap sLen sCap : Nat) (hd : a.eval d = .slice dp dLen dCap) (hs : a.eval s = .slice sp sLen sCap)
    (g off : Nat) (cur : List Value) (t : TypeId) (hg : w.heap[g]? = some (.cells cur.toArray t (0, 0))) (cs : List Value) (hn : cs.length = Nat.min sLen dLen)
    (hpos : 0 < cs.length → dp = some ⟨g, off, none⟩ ∧ ∃ ad, sp = some ad ∧ ∀ j v, cs[j]? = some v → w.cell? (ad.add j) = some v)
    (hfit : off + cs.length ≤ cur.length) (h1 : ∀ v ∈ cs, v.oneCell' = true)
    (h : ∀ w', w'.heap[g]? = some (.cells (splice cur off cs).toArray t (0, 0)) → w.grownBy w' (some g) → K (a.put o.dst (goInt cs.length)) w') :
    if Region.wanted o (yielded ops a.tmps) = true then Oper.wp P o a w K Q else E := by
  have hw : Region.wanted o (yielded ops a.tmps) = true := by simp [Region.wanted, hgd]
  rw [if_pos hw]
  by_cases h0 : cs.length = 0
  · obtain rfl : cs = [] := List.eq_nil_of_length_eq_zero h0
    have hrun := run_copy_none (P := P) w dT sT o.type elem dp sp dLen dCap sLen sCap hu hsz (by simpa using hn.symm)
    unfold Oper.wp
    simp [execOp, ho, resolve, invoke, builtin, hd, hs, hrun, Result.andThen]
    exact h w (by simpa [splice] using hg) (World.grownBy.refl w _)
  · obtain ⟨rfl, ad, rfl, hsrc⟩ := hpos (by omega)
    have hrun := run_copy_row (P := P) w dT sT o.type elem g off dLen dCap ad sLen sCap cur.toArray t cs hu hsz hg hn hsrc (by simpa using hfit) h1
    unfold Oper.wp
    simp only [execOp, ho, resolve, invoke, builtin]
    simp [hd, hs, hrun, Result.andThen]
    refine h _ (by simpa [splice] using setRow_heap w g _ _ t _ hg) ⟨rfl, rfl, rfl, by simp [World.setRow], fun k _ hk => setRow_other w g k _ (fun e => hk (by rw [e]))⟩
end Go.Proofs.Ytfngcabckfmhnaa.B
/- More words: three-part cuts; an index out of its row's cells. -/
namespace Go.Proofs.Ytfngcabckfmhnaa.B
open Go.RowKit Go.Proofs.YtfngcabckfmhnaaW.PrintWords Go.Proofs.YtfngcabckfmhnaaW.PrintLast Go.Proofs.YtfngcabckfmhnaaW.PrintMore Go.Proofs.Ytfngcabckfmhnaa.PA

theorem cut_hm {P : Program} (t e : TypeId) (kh km : IntKind) {i : TypeInfo} (ht : P.underlying t = some (.slice e)) (hi : P.info? e = some i) (A : Option Addr) (n c : Nat) (j : Int) (h0 : 0 ≤ j) (hc : j ≤ c) :
    ∀ W : World, (Instr.slice t (.slice A n c) none (some (.int kh j)) (some (.int km j))).run P W = .ok (.slice A j.toNat j.toNat) W := by
  intro W
  have hel : P.elem t = e := by simp [Program.elem, ht]
  have hu : P.underlying t = some (.slice (P.elem t)) := by rw [hel]; exact ht
  have ha : (A.map fun x => x.add 0) = A := by cases A <;> simp [Addr.add]
  rw [run_slice_hm W t A n c hu kh km j j h0 (Int.le_refl _) hc, hel]
  simp [sizeOf, typeInfo, hi, sliced, Result.andThen, ha]

theorem Pc_of_R {W : World} {base : Nat} {ok : Nat → Prop} {v : Value} {l : List Int} (h : Kd.R (Kd.int .u8) 5 W base ok v l) : Pc W v l := by
  obtain ⟨A, c, rfl, hc, hC⟩ := Kd.R_reads h
  refine ⟨A, c, rfl, hc, hC, fun a ha => ?_⟩
  subst ha
  obtain ⟨inner, ho⟩ := Kd.R_own h
  rcases ho.2 with ⟨e, _⟩ | ⟨g, cap, cur, e, _, hh, _⟩
  · cases e
  · injection e with e1 e2 e3
    injection e1 with e1
    subst e1
    exact ⟨cur, hh⟩
/-- The first part of a piece is a piece. -/
theorem Pc_take {W : World} {B : Option Addr} {n d k c : Nat} {l : List Int} (h : Pc W (.slice B n d) l) (hk : k ≤ l.length) (hc : k ≤ c) : Pc W (.slice B k c) (l.take k) := by
  obtain ⟨A, c', e, hcc, hC, hT⟩ := h
  injection e with e1 e2 e3
  subst e1
  subst e2
  have hl : (l.take k).length = k := by rw [List.length_take]; omega
  refine ⟨B, c, by rw [hl], by omega, Kd.C_take hC hk, hT⟩

theorem Idx_of {W : World} {g gg n cap : Nat} {D : List Value} {ps : List (List Int)} (h1 : W.heap[g]? = some (.cells #[.slice (some ⟨gg, 0, none⟩) n cap, .int .i64 ((fl ps).length : Int)] 82 (0, 0)))
    (h2 : W.heap[gg]? = some (.cells D.toArray 53 (0, 0))) (hD : D.length = cap) (hn : n ≤ cap) (hm : cap ≤ 9223372036854775807) (hp : ps.length = n)
    (h4 : ∀ (i : Nat) (l : List Int), ps[i]? = some l → ∃ u, D[i]? = some u ∧ Pc W u l) : Idx W g (some gg) ps := by
  subst hp
  refine ⟨_, D.take ps.length, h1, ⟨by rw [List.length_take]; omega, .inr ⟨gg, cap, D.toArray, rfl, Nat.zero_le _, h2, hn, by unfold maxLen; exact hm, by simp [hD], by simp⟩⟩, rfl, fun i l hi => ?_⟩
  obtain ⟨u, hu, hp⟩ := h4 i l hi
  refine ⟨u, ?_, hp⟩
  have hil := (List.getElem?_eq_some_iff.1 hi).1
  rw [List.getElem?_take, if_pos hil]
  exact hu

theorem fl_split {ps : List (List Int)} {i k : Nat} {l : List Int} (h : ps[i]? = some l) : fl (ps.take i ++ [l.take k, l.drop k] ++ ps.drop (i + 1)) = fl ps := by
  have e : ps = ps.take i ++ l :: ps.drop (i + 1) := by
    have hi := (List.getElem?_eq_some_iff.1 h).1
    rw [← (List.getElem?_eq_some_iff.1 h).2, ← List.drop_eq_getElem_cons hi, List.take_append_drop]
  unfold fl
  conv => rhs; rw [e]
  simp only [List.flatten_append, List.flatten_cons, List.flatten_nil, List.append_nil, List.append_assoc]
  rw [← List.append_assoc (l.take k), List.take_append_drop]

/-- The cells behind split, place by place. -/
theorem split_cells {C cs : List Value} {n i : Nat} {u1 u2 : Value} (hcs : cs.length = n) (hC : ∀ (j : Nat) (x : Value), cs[j]? = some x → C[j]? = some x) (hCl : n + 1 ≤ C.length) (hi : i < n) (j : Nat) (hj : j < n + 1) :
    (((splice C (i + 2) (cs.drop (i + 1))).set i u1).set (i + 1) u2)[j]? = if j < i then cs[j]? else if j = i then some u1 else if j = i + 1 then some u2 else cs[j - 1]? := by
  have hl : (splice C (i + 2) (cs.drop (i + 1))).length = C.length := length_splice _ _ _ (by rw [List.length_drop]; omega)
  rw [List.getElem?_set, List.getElem?_set, List.length_set, hl]
  by_cases h1 : i + 1 = j
  · rw [if_pos h1, if_pos (by omega), if_neg (by omega), if_neg (by omega), if_pos h1.symm]
  · rw [if_neg h1]
    by_cases h2 : i = j
    · rw [if_pos h2, if_pos (by omega), if_neg (by omega), if_pos h2.symm]
    · rw [if_neg h2]
      unfold splice
      by_cases h3 : j < i
      · rw [if_pos h3, List.getElem?_append_left (by rw [List.length_take]; omega), List.getElem?_take, if_pos (by omega)]
        obtain ⟨x, hx⟩ : ∃ x, cs[j]? = some x := ⟨_, List.getElem?_eq_getElem (by omega)⟩
        rw [hx, hC j x hx]
      · rw [if_neg h3, if_neg (by omega), if_neg (by omega), List.getElem?_append_right (by rw [List.length_take]; omega), List.length_take, Nat.min_eq_left (by omega),
          List.getElem?_append_left (by rw [List.length_drop]; omega), List.getElem?_drop]
        congr 1
        omega
theorem split_pieces {ps : List (List Int)} {i : Nat} {l1 l2 : List Int} (hi : i < ps.length) (j : Nat) : (ps.take i ++ [l1, l2] ++ ps.drop (i + 1))[j]? = if j < i then ps[j]? else if j = i then some l1 else if j = i + 1 then some l2 else ps[j - 1]? := by
  by_cases h3 : j < i
  · rw [if_pos h3, List.append_assoc, List.getElem?_append_left (by rw [List.length_take]; omega), List.getElem?_take, if_pos h3]
  · rw [if_neg h3, List.append_assoc, List.getElem?_append_right (by rw [List.length_take]; omega), List.length_take, Nat.min_eq_left (by omega)]
    by_cases h1 : j = i
    · rw [if_pos h1, show j - i = 0 by omega]; rfl
    · rw [if_neg h1]
      by_cases h2 : j = i + 1
      · rw [if_pos h2, show j - i = 1 by omega]; rfl
      · rw [if_neg h2, List.getElem?_append_right (by simp; omega), List.getElem?_drop]
        congr 1
        simp
        omega
end Go.Proofs.Ytfngcabckfmhnaa.B
