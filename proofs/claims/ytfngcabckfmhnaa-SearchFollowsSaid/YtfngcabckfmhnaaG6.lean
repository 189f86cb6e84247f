/- append of nothing, as one step of a region that draws. -/
import Derived.Test.YtfngcabckfmhnaaG3
namespace Go.Proofs.Ytfngcabckfmhnaa.B
open Go.RowKit Go.Proofs.YtfngcabckfmhnaaW.PrintWords Go.Proofs.YtfngcabckfmhnaaW.PrintLast Go.Proofs.YtfngcabckfmhnaaW.PrintMore Go.Proofs.Ytfngcabckfmhnaa.PA
set_option linter.unusedVariables false
set_option linter.unusedSimpArgs false

theorem step_append_nothing {P : Program} {ops : Array Oper} {o : Oper} {a : Act} {w : World} {K : Act → World → Prop} {Q : Exit → Act → World → Prop} {E : Prop}
    (hg : o.guard = none) (s x : Operand) (t : TypeId) (hop : o.op = Op.call { callee := Callee.builtin Builtin.append, args := #[s, x], argTypes := #[t, t] })
    (e : TypeId) (i : TypeInfo) (h1 : P.underlying t = some (.slice e)) (h2 : P.info? e = some i)
    (ao : Option Addr) (n cap : Nat) (hs : a.eval s = .slice ao n cap) (hn : n ≤ cap) (bo : Option Addr) (c : Nat) (hx : a.eval x = .slice bo 0 c)
    (hK : K (a.put o.dst (.slice ao n cap)) w) : if Region.wanted o (yielded ops a.tmps) = true then Oper.wp P o a w K Q else E := by
  have hw : Region.wanted o (yielded ops a.tmps) = true := by simp [Region.wanted, hg]
  rw [if_pos hw]
  have hrun : (Builtin.append_ #[t, t] o.type #[.slice ao n cap, .slice bo 0 c]).run P w = .ok (.slice ao n cap) w := by
    cases ao <;> cases bo <;> simp [Builtin.append_, loadCells, loadCellsFrom, run_underlying h1, sizeOf, typeInfo, h2, Builtin.lenOf, Builtin.firstCells, hn, storeCells]
  unfold Oper.wp
  simp [execOp, hop, resolve, invoke, builtin, hs, hx, hrun, Result.andThen]
  exact hK

theorem splice_cons {α : Type} {C : List α} {o : Nat} {v : α} {r : List α} (h : o + (v :: r).length ≤ C.length) : splice (C.set o v) (o + 1) r = splice C o (v :: r) := by
  unfold splice
  simp only [List.length_cons] at h ⊢
  rw [List.take_add_one, List.take_set_of_le (Nat.le_refl _), List.getElem?_set_self (by omega), List.drop_set_of_lt (by omega)]
  simp only [Option.toList_some, List.append_assoc, List.cons_append, List.nil_append]
  rw [show o + 1 + r.length = o + (r.length + 1) by omega]
theorem setCells_row (b : Nat) (t : TypeId) : ∀ (vs : List Value) (o : Nat) (w : World) (C : List Value), w.heap[b]? = some (.cells C.toArray t (0, 0)) → o + vs.length ≤ C.length →
    (w.setCells b o vs).heap[b]? = some (.cells (splice C o vs).toArray t (0, 0)) ∧ w.grownBy (w.setCells b o vs) (some b)
  | [], o, w, C, h, _ => ⟨by simpa [World.setCells, splice] using h, World.grownBy.refl w _⟩
  | v :: r, o, w, C, h, hl => by
    have h1 : (w.setCell ⟨b, o, none⟩ v).heap[b]? = some (.cells (C.set o v).toArray t (0, 0)) := by
      have := blk_set h o v
      simpa using this
    have h2 := setCells_row b t r (o + 1) _ _ h1 (by rw [List.length_set]; simp at hl; omega)
    rw [splice_cons hl] at h2
    refine ⟨h2.1, ⟨h2.2.os, h2.2.tape, h2.2.output, Nat.le_trans (by simp [World.setCell]) h2.2.size, fun k hk hne => ?_⟩⟩
    show ((w.setCell ⟨b, o, none⟩ v).setCells b (o + 1) r).heap[k]? = _
    rw [h2.2.block k (by simp [World.setCell]; exact hk) hne]
    exact Below.heap_setCell _ _ _ _ (fun e => hne (by rw [e]))
/-- append inside a row, as one step of a region that draws: the row's cells behind it; nothing else has turned. -/
theorem step_append_in {P : Program} {ops : Array Oper} {o : Oper} {a : Act} {w : World} {K : Act → World → Prop} {Q : Exit → Act → World → Prop} {E : Prop}
    (hg : o.guard = none) (s x : Operand) (t : TypeId) (hop : o.op = Op.call { callee := Callee.builtin Builtin.append, args := #[s, x], argTypes := #[t, t] })
    (e : TypeId) (i : TypeInfo) (h1 : P.underlying t = some (.slice e)) (h2 : P.info? e = some i) (h4 : i.size = 1)
    (b n cap : Nat) (hs : a.eval s = .slice (some ⟨b, 0, none⟩) n cap)
    (ad : Addr) (c : Nat) (news : List Value) (hx : a.eval x = .slice (some ad) news.length c) (hc : ∀ j u, news[j]? = some u → w.cell? (ad.add j) = some u) (h1c : ∀ u ∈ news, u.oneCell' = true)
    (hroom : n + news.length ≤ cap) (C : List Value) (et : TypeId) (hb : w.heap[b]? = some (.cells C.toArray et (0, 0))) (hC : C.length = cap)
    (hK : ∀ w', w'.heap[b]? = some (.cells (splice C n news).toArray et (0, 0)) → w.grownBy w' (some b) → K (a.put o.dst (.slice (some ⟨b, 0, none⟩) (n + news.length) cap)) w') :
    if Region.wanted o (yielded ops a.tmps) = true then Oper.wp P o a w K Q else E := by
  obtain ⟨r1, r2⟩ := setCells_row b et news n w C hb (by omega)
  have hn : 0 + n * 1 = n := by omega
  refine step_append_room hg s x t hop e i 1 h1 h2 h4 b 0 n cap hs ad news.length c news hx (by omega) hc h1c hroom (fun j hj => ?_) ?_
  · rw [hn]
    have hlt : n + j < C.length := by omega
    exact ⟨by rw [blk_cell hb]; simp [hlt], blk_frozen hb _⟩
  · rw [hn]
    exact hK _ r1 r2
end Go.Proofs.Ytfngcabckfmhnaa.B
/- The walk of search.Index.Apply: a deletion. -/
namespace Go.Proofs.Ytfngcabckfmhnaa.B
open Go.RowKit Go.Proofs.YtfngcabckfmhnaaW.PrintWords Go.Proofs.YtfngcabckfmhnaaW.PrintLast Go.Proofs.YtfngcabckfmhnaaW.PrintMore Go.Proofs.Ytfngcabckfmhnaa.PA
set_option linter.unusedVariables false
set_option linter.unusedSimpArgs false

theorem fl_del {ps : List (List Int)} {i q p : Nat} {l : List Int} (h : ps[i]? = some l) (hq : q < l.length) (hp : (fl (ps.take i)).length + q = p) :
    fl (ps.set i (l.take q ++ l.drop (q + 1))) = (fl ps).take p ++ (fl ps).drop (p + 1) := by
  rw [fl_set h, fl_parts h, ← hp]
  have e1 : ((fl (ps.take i) ++ l ++ fl (ps.drop (i + 1))).take ((fl (ps.take i)).length + q)) = fl (ps.take i) ++ l.take q := by
    rw [List.append_assoc, List.take_append, List.take_of_length_le (by omega), Nat.add_sub_cancel_left, List.take_append_of_le_length (by omega)]
  have e2 : ((fl (ps.take i) ++ l ++ fl (ps.drop (i + 1))).drop ((fl (ps.take i)).length + q + 1)) = l.drop (q + 1) ++ fl (ps.drop (i + 1)) := by
    rw [List.append_assoc, Nat.add_assoc, List.drop_append, List.drop_of_length_le (by omega), Nat.add_sub_cancel_left, List.nil_append, List.drop_append_of_le_length (by omega)]
  rw [e1, e2]
  simp only [List.append_assoc]

theorem fl_skip {ps : List (List Int)} {i : Nat} (h : ps[i]? = some []) : fl (ps.take i ++ ps.drop (i + 1)) = fl ps := by
  rw [fl_parts h, List.append_nil]
  unfold fl
  rw [List.flatten_append]
theorem fl_len {qs ps : List (List Int)} {p : Nat} (h : fl qs = (fl ps).take p ++ (fl ps).drop (p + 1)) (hp : p < (fl ps).length) : (((fl qs).length : Nat) : Int) = ((fl ps).length : Int) - 1 := by
  rw [h, List.length_append, List.length_take, List.length_drop]
  omega
theorem row_cells {w : World} {g b m cap : Nat} {n : Int} {qs : List (List Int)} (h : Idx w g (some b) qs) (hg : w.heap[g]? = some (.cells #[.slice (some ⟨b, 0, none⟩) m cap, .int .i64 n] 82 (0, 0))) (hm : qs.length = m) :
    ∃ C : List Value, w.heap[b]? = some (.cells C.toArray 53 (0, 0)) ∧ C.length = cap ∧ m ≤ cap ∧ cap ≤ 9223372036854775807 ∧ ∀ (j : Nat) (l : List Int), qs[j]? = some l → ∃ u, C[j]? = some u ∧ Pc w u l := by
  obtain ⟨v, cs, e1, e2, e3, e4⟩ := h
  rw [hg] at e1
  injection e1 with e1
  injection e1 with e1
  have hv : v = .slice (some ⟨b, 0, none⟩) m cap := by
    have := congrArg (fun a : Array Value => a[0]?) e1
    simpa using this.symm
  subst hv
  rcases e2.2 with ⟨e, _⟩ | ⟨g', cap', cur, e, _, q1, q2, q3, q4, q5⟩
  · cases e
  · injection e with f1 f2 f3
    injection f1 with f1
    injection f1 with f1
    subst f1
    subst f3
    refine ⟨cur.toList, q1, by simp [q4], by omega, by unfold maxLen at q3; exact q3, fun j l hj => ?_⟩
    obtain ⟨u, hu, hp⟩ := e4 j l hj
    refine ⟨u, ?_, hp⟩
    rw [Nat.mul_one] at q5
    have hjl := (List.getElem?_eq_some_iff.1 hj).1
    rw [← q5, List.getElem?_take, if_pos hjl] at hu
    exact hu
theorem skip_cells {W : World} {C news : List Value} {qs : List (List Int)} {m cap i : Nat} (hq : qs.length = m) (hC : C.length = cap) (hm : m ≤ cap) (hn : news = (C.take m).drop (i + 1)) (hi : i < m) (h : ∀ (j : Nat) (l : List Int), qs[j]? = some l → ∃ u, C[j]? = some u ∧ Pc W u l)
    (j : Nat) (l : List Int) (hj : (qs.take i ++ qs.drop (i + 1))[j]? = some l) : ∃ u, (splice C i news)[j]? = some u ∧ Pc W u l := by
  have hnl : news.length = m - (i + 1) := by rw [hn, List.length_drop, List.length_take]; omega
  by_cases h1 : j < i
  · rw [List.getElem?_append_left (by rw [List.length_take]; omega), List.getElem?_take, if_pos h1] at hj
    obtain ⟨u, hu, hp⟩ := h j l hj
    refine ⟨u, ?_, hp⟩
    unfold splice
    rw [List.getElem?_append_left (by rw [List.length_take]; omega), List.getElem?_take, if_pos h1]
    exact hu
  · rw [List.getElem?_append_right (by rw [List.length_take]; omega), List.length_take, Nat.min_eq_left (by omega), List.getElem?_drop] at hj
    obtain ⟨u, hu, hp⟩ := h _ l hj
    have hjl := (List.getElem?_eq_some_iff.1 hj).1
    refine ⟨u, ?_, hp⟩
    unfold splice
    rw [List.getElem?_append_right (by rw [List.length_take]; omega), List.length_take, Nat.min_eq_left (by omega), List.getElem?_append_left (by omega), hn, List.getElem?_drop, List.getElem?_take, if_pos (by omega)]
    exact hu

set_option maxHeartbeats 16000000 in
set_option maxRecDepth 100000 in
theorem del_any (w : World) (g : Nat) (r : Option Nat) (ps : List (List Int)) (h : Idx w g r ps) (hK : ps.length ≤ 5700000000000) (p : Nat) (cl s : Int) (he : fit (fl ps).length 2 p 0 cl s = 0) :
    Calls Try.prog 23 #[.pointer (some ⟨g, 0, none⟩), .agg #[.int .i64 2, .int .i64 p, .int .u8 0, .int .i64 cl, .int .i64 s]] w (IApplyAns w g r ps ((fl ps).take p ++ (fl ps).drop (p + 1))) := by
  have HF : Aside0 (doc_Fits.f 2 (fl ps).length 2 p 0 cl s = some 0) := ⟨by rw [fits_pure _ _ _ _ _ _ (by omega), he]⟩
  obtain ⟨-, -, -, hn, -, -, hp⟩ := fit_zero he
  obtain ⟨-, hpn⟩ := hp rfl
  have hn4 := hn.2
  have hne : 0 < ps.length := by
    rcases Nat.eq_zero_or_pos ps.length with h0 | h0
    · obtain rfl := List.eq_nil_of_length_eq_zero h0
      have : (fl []).length = 0 := rfl
      omega
    · exact h0
  have HI := Aside0.mk h
  have HPN : Aside0 (p < (fl ps).length ∧ (fl ps).length ≤ 4096) := ⟨by omega⟩
  have HK := Aside0.mk hK
  have HNE := Aside0.mk hne
  obtain ⟨v, cs, h1, h2, h3, h4⟩ := h
  obtain ⟨b, cap, rfl, hb0, hbl⟩ := h2.form hne
  obtain rfl : some b = r := h3
  have hcg0 : w.cell? ⟨g, 0, none⟩ = some (.slice (some ⟨b, 0, none⟩) ps.length cap) := (blk_cell h1 0).trans rfl
  have hcg1 : w.cell? ⟨g, 1, none⟩ = some (.int .i64 ((fl ps).length : Int)) := (blk_cell h1 1).trans rfl
  have hgs : g < w.heap.size := blk_lt h1
  have cz : ((ps.length : Int) == 0) = false := beq_eq_false_iff_ne.mpr (by omega)
  have H1 := Aside0.mk h1
  have H2 := Aside0.mk h2
  have H4 := Aside0.mk h4
  have hpb : (p : Int) < 4096 := by omega
  clear h1 h2 h4 hn hp hpn hn4 he hne hK
  go_enter Try.func23, Try.ntmps23
  go_wp2
  go_region_held3 (fun w' => w'.cell? ⟨g, 1, none⟩ = some (.int .i64 ((fl ps).length : Int)) ∧ w'.cell? ⟨w.heap.size, 0, none⟩ = some (.int .i64 2) ∧ w'.cell? ⟨w.heap.size, 1, none⟩ = some (.int .i64 p) ∧ w'.cell? ⟨w.heap.size, 2, none⟩ = some (.int .u8 0) ∧ w'.cell? ⟨w.heap.size, 3, none⟩ = some (.int .i64 cl) ∧ w'.cell? ⟨w.heap.size, 4, none⟩ = some (.int .i64 s)) (go_keep) ((go_at_call 41; refine (doc_Fits.calls 2 (fl ps).length 2 p 0 cl s 0 _ HF.out).mono ?_; rintro e w1 ⟨rfl, hb1⟩; have BX : Aside0 (w1.heap[w.heap.size]? = some (.cells #[.int .i64 2, .int .i64 p, .int .u8 0, .int .i64 cl, .int .i64 s] 46 (0, 0))) := ⟨blk_below (blk_drew (heap_alloc_new w _)) hb1⟩; have hbw : Below w.heap.size w w1 := below_then (((Below.refl _ _).alloc (Nat.le_refl _) _).drew) (by simp) hb1; have HB1 := Aside0.mk hbw; have g0 := pw_cell_below hbw hcg0; have g1 := pw_cell_below hbw hcg1; have x0 : w1.cell? ⟨w.heap.size, 0, none⟩ = some (.int .i64 2) := (blk_cell BX.out 0).trans rfl; have x1 : w1.cell? ⟨w.heap.size, 1, none⟩ = some (.int .i64 p) := (blk_cell BX.out 1).trans rfl; have x2 : w1.cell? ⟨w.heap.size, 2, none⟩ = some (.int .u8 0) := (blk_cell BX.out 2).trans rfl; have x3 : w1.cell? ⟨w.heap.size, 3, none⟩ = some (.int .i64 cl) := (blk_cell BX.out 3).trans rfl; have x4 : w1.cell? ⟨w.heap.size, 4, none⟩ = some (.int .i64 s) := (blk_cell BX.out 4).trans rfl; clear hb1 hbw))
  go_wp2_with (go_at_call 42; go_loud (refine (spot_any w1 g (some b) ps (HI.out.below HB1.out) (by have := HPN.out; omega) HNE.out p (by have := HPN.out; omega)).mono ?_; rintro e w2 ⟨i, q, l, rfl, hil, hql', hpq, hlt', rfl⟩; have hql : q < l.length := hlt' HPN.out.1; clear hql' hlt'; obtain ⟨u, hu, B, d, rfl, hd, hC, hT⟩ := H4.out i l hil; have hi' := (List.getElem?_eq_some_iff.1 hil).1; have hi0 : (0 : Int) ≤ (i : Int) := (by omega); have hi1 : (i : Int) < (ps.length : Int) := (by omega); have hci : w2.cell? ⟨b, i, none⟩ = some (.slice B l.length d) := pw_cell_below HB1.out (by have := H2.out.cells (g := b) rfl i _ hu; rwa [add_plain] at this); have HIL := Aside0.mk hil; have HQ := Aside0.mk hpq; have HC := Aside0.mk (Kd.C_below hC HB1.out); have HT := Aside0.mk hT; have HD := Aside0.mk hd; have HQL := Aside0.mk hql; clear hil hpq hC hT hu hi' hd hql))
  have hq0 : (0 : Int) ≤ (q : Int) := by omega
  have hq1 : (q : Int) < (l.length : Int) := by have := HQL.out; omega
  have hq2 : (q : Int) + 1 ≤ (l.length : Int) := by have := HQL.out; omega
  have hq3 : (0 : Int) ≤ (q : Int) + 1 := by omega
  have hd1 : (l.length : Int) ≤ (d : Int) := by have := HD.out; omega
  have hll : l.length ≤ 4096 := by have := fl_step HIL.out; have := HPN.out; omega
  have hw1 : IntKind.i64.wrap ((q : Int) + 1) = (q : Int) + 1 := IntWalk.i64_in _ (by omega)
  have HW1 := Aside0.mk hw1
  clear hw1
  obtain ⟨i5, hi5, hz5, hz51, hz52⟩ := info_parts info5
  have kc3 := cut_hm (P := Try.prog) 53 5 .i64 .i64 Try.underlying53 hi5 B l.length d (q : Int) (by omega) (by omega)
  have kc4 := cut_from (P := Try.prog) 53 5 .i64 Try.underlying53 hi5 1 hz51 B l.length d ((q : Int) + 1) (by omega) (by omega)
  rw [Int.toNat_natCast] at kc3
  rw [show ((q : Int) + 1).toNat = q + 1 by omega] at kc4
  obtain ⟨B2, hB2⟩ : ∃ B2, B2 = (if d = q + 1 then B else B.map (·.add ((q + 1) * 1))) := ⟨_, rfl⟩
  rw [← hB2] at kc4
  have HD2 : Aside0 (Kd.C (Kd.int .u8) w2 B2 (l.length - (q + 1)) (l.drop (q + 1))) := ⟨by
    have := Kd.C_drop HC.out (m := q + 1) (c := d) HQL.out HD.out
    rw [List.length_drop] at this
    rw [hB2]
    exact this⟩
  have HCT : Aside0 (Kd.C (Kd.int .u8) w2 B q (l.take q)) := ⟨by have := Kd.C_take HC.out (m := q) (by have := HQL.out; omega); rwa [List.length_take, Nat.min_eq_left (by have := HQL.out; omega)] at this⟩
  have HI5 := Aside0.mk (And.intro hi5 (And.intro hz5 (And.intro hz51 hz52)))
  clear hB2 hi5 hz5 hz51 hz52
  have HNo : Aside0 (B = none → q = 0 ∧ q = 0) := ⟨fun e => by
    rcases Nat.eq_zero_or_pos q with h | h
    · exact ⟨h, h⟩
    · obtain ⟨ad, e2, _⟩ := HCT.out.2.2 h
      rw [e] at e2; cases e2⟩
  have HLo : Aside0 ((nums .u8 (l.take q)).length = q * 1) := ⟨by rw [nums_length, List.length_take]; omega⟩
  have HHo : Aside0 (∀ (W : World), Below w2.heap.size w2 W → ∀ a, B = some a → ∀ (j : Nat) (u : Value), (nums .u8 (l.take q))[j]? = some u → W.cell? (a.add j) = some u) := ⟨fun W hW a ha j u hj => by
    have hj' : j < (l.take q).length := by have := (List.getElem?_eq_some_iff.1 hj).1; rwa [nums_length] at this
    have hl : (l.take q).length = q := by rw [List.length_take]; omega
    obtain ⟨ad, e, hc⟩ := Kd.at_int HCT.out (j : Int) (by omega) (by omega)
    rw [ha] at e
    injection e with e
    subst e
    rw [Int.toNat_natCast] at hc
    have hx : (nums .u8 (l.take q))[j]? = some (.int .u8 (rd (l.take q) (j : Int))) := by
      unfold nums rd
      rw [List.getElem?_map, List.getElem?_eq_getElem hj', List.getD_eq_getElem?_getD, Int.toNat_natCast, List.getElem?_eq_getElem hj']
      rfl
    rw [hx] at hj
    rw [← Option.some.inj hj]
    exact pw_cell_below hW hc⟩
  obtain ⟨l', hl'⟩ : ∃ l', l' = l.take q ++ l.drop (q + 1) := ⟨_, rfl⟩
  have HL' := Aside0.mk hl'
  have HLl : Aside0 (l'.length + 1 = l.length) := ⟨by rw [hl', List.length_append, List.length_take, List.length_drop]; omega⟩
  have hbs : b < w2.heap.size := Nat.lt_of_lt_of_le hbl HB1.out.size
  have hfi : w2.frozen? ⟨b, i, none⟩ = false := by
    rcases H2.out.2 with ⟨e, _⟩ | ⟨b', cap', cur, e, _, q1, _⟩
    · cases e
    · injection e with e1
      injection e1 with e1
      injection e1 with e1
      subst e1
      exact blk_frozen (blk_below q1 HB1.out) i
  have hw8 : w.heap.size < w2.heap.size := blk_lt BX.out
  have hgs2 : g < w2.heap.size := by omega
  have hbw : b ≠ w.heap.size := by omega
  have hgb : b ≠ g := fun e => own_ne H2.out H1.out (by decide) (by rw [← e]; rfl)
  clear hl'
  by_cases hz : l.length = q + 1
  · have HZ := Aside0.mk hz
    have HLe : Aside0 (l' = l.take q) := ⟨by rw [HL'.out, List.drop_of_length_le (by omega), List.append_nil]⟩
    have hlq : l'.length = q := by rw [HLe.out, List.length_take]; omega
    have HLq := Aside0.mk hlq
    rw [show l.length - (q + 1) = 0 by omega] at kc4
    clear hz hlq
    have hw1 := HW1.out
    go_region_held3 (fun w' => w'.cell? ⟨g, 0, none⟩ = some (.slice (some ⟨b, 0, none⟩) ps.length cap)) (go_keep) ((refine step_append_nothing (by rfl) (.tmp 107) (.tmp 111) 53 (by rfl) 5 i5 Try.underlying53 HI5.out.1 B q q (by rfl) (Nat.le_refl _) B2 (d - (q + 1)) (by rfl) ?_; obtain ⟨w4, hw4⟩ : ∃ w4, w4 = w2.drew := ⟨_, rfl⟩; rw [← hw4]; have hb4 : Below w2.heap.size w2 w4 := (by rw [hw4]; exact (Below.refl _ _).drew); have HB4 := Aside0.mk hb4; have g04 := pw_cell_below hb4 g0; have hci4 := pw_cell_below hb4 hci; have hfi4 := (hb4.frozen (p := ⟨b, i, none⟩) hbs).trans hfi; clear hw4 hb4))
    clear hw1
    have HPU : Aside0 (Pc w4 (.slice B q q) l') := ⟨by rw [HLe.out]; exact (Pc_take (c := q) ⟨B, d, rfl, HD.out, HC.out, fun a ha => by obtain ⟨cs', hcs'⟩ := HT.out a ha; exact ⟨cs', blk_below hcs' HB1.out⟩⟩ (by have := HQL.out; omega) (Nat.le_refl _)).below HB4.out⟩
    have HFl : Aside0 (fl (ps.set i l') = (fl ps).take p ++ (fl ps).drop (p + 1)) := ⟨by rw [HL'.out]; exact fl_del HIL.out HQL.out HQ.out⟩
    have HFn : Aside0 ((fl (ps.set i l')).length + 1 = (fl ps).length) := ⟨by rw [HFl.out, List.length_append, List.length_take, List.length_drop]; have := HPN.out; omega⟩
    have hnn : ((fl ps).length : Int) ≤ 4096 := by have := HPN.out; omega
    have HW4 : Aside0 (Below w.heap.size w w4) := ⟨below_then HB1.out HB1.out.size HB4.out⟩
    have HG4 : Aside0 (w4.heap[g]? = some (.cells #[.slice (some ⟨b, 0, none⟩) ps.length cap, .int .i64 ((fl ps).length : Int)] 82 (0, 0))) := ⟨blk_below H1.out HW4.out⟩
    generalize hw5 : w4.setCell ⟨b, i, none⟩ (.slice B q q) = w5
    have HG5 : Aside0 (w5.heap[g]? = some (.cells #[.slice (some ⟨b, 0, none⟩) ps.length cap, .int .i64 ((fl ps).length : Int)] 82 (0, 0))) := ⟨by rw [← hw5, Below.heap_setCell _ _ _ _ (Ne.symm hgb)]; exact HG4.out⟩
    have g05 : w5.cell? ⟨g, 0, none⟩ = some (.slice (some ⟨b, 0, none⟩) ps.length cap) := (blk_cell HG5.out 0).trans rfl
    have g15 : w5.cell? ⟨g, 1, none⟩ = some (.int .i64 ((fl ps).length : Int)) := (blk_cell HG5.out 1).trans rfl
    have f15 : w5.frozen? ⟨g, 1, none⟩ = false := blk_frozen HG5.out 1
    have hci5 : w5.cell? ⟨b, i, none⟩ = some (.slice B q q) := by rw [← hw5]; exact World.cell?_setCell_same _ _ _ hci4
    obtain ⟨cur, k1, k2, k3, k4, k5⟩ : ∃ cur : Array Value, w.heap[b]? = some (.cells cur 53 (0, 0)) ∧ ps.length ≤ cap ∧ cap ≤ 9223372036854775807 ∧ cur.toList.length = cap ∧ cur.toList.take ps.length = cs := by
      rcases H2.out.2 with ⟨e, _⟩ | ⟨g', cap', cur, e, _, q1, q2, q3, q4, q5⟩
      · cases e
      · injection e with e1 e2 e3
        injection e1 with e1
        injection e1 with e1
        subst e1
        subst e3
        exact ⟨cur, q1, q2, by unfold maxLen at q3; exact q3, by simp [q4], by rwa [Nat.mul_one] at q5⟩
    have kb : w5.heap[b]? = some (.cells (cur.setIfInBounds i (.slice B q q)) 53 (0, 0)) := by rw [← hw5]; exact blk_set (blk_below k1 HW4.out) i _
    have HI6 : Aside0 (Idx (w5.setCell ⟨g, 1, none⟩ (.int .i64 (((fl ps).length : Int) - 1))) g (some b) (ps.set i l')) := ⟨by
      have keep : ∀ (k : Nat) (c' : Array Value), w4.heap[k]? = some (.cells c' 5 (0, 0)) → (w5.setCell ⟨g, 1, none⟩ (.int .i64 (((fl ps).length : Int) - 1))).heap[k]? = w4.heap[k]? := fun k c' hk => by
        have n1 : k ≠ g := fun e => by subst e; rw [HG4.out] at hk; injection hk with hk; injection hk with _ hk; cases hk
        have n2 : k ≠ b := fun e => by subst e; rw [blk_below k1 HW4.out] at hk; injection hk with hk; injection hk with _ hk; cases hk
        rw [Below.heap_setCell _ _ _ _ n1, ← hw5, Below.heap_setCell _ _ _ _ n2]
      refine Idx_of (n := ps.length) (cap := cap) (D := cur.toList.set i (.slice B q q)) ?_ ?_ (by rw [List.length_set]; exact k4) k2 k3 (by rw [List.length_set]) ?_
      · rw [show (((fl (ps.set i l')).length : Nat) : Int) = ((fl ps).length : Int) - 1 by have := HFn.out; omega]
        exact (blk_set HG5.out 1 _).trans rfl
      · rw [Below.heap_setCell _ _ _ _ hgb, kb]
        congr 2
        apply Array.ext'
        simp
      · intro j m hm
        rw [List.getElem?_set] at hm ⊢
        by_cases hij : i = j
        · rw [if_pos hij] at hm ⊢
          have hi' : i < ps.length := by omega
          rw [if_pos (by omega)] at hm
          rw [if_pos (by omega)]
          obtain rfl := Option.some.inj hm
          exact ⟨_, rfl, HPU.out.keep keep⟩
        · rw [if_neg hij] at hm ⊢
          obtain ⟨u, hu, hp⟩ := H4.out j m hm
          have hjl := (List.getElem?_eq_some_iff.1 hm).1
          refine ⟨u, ?_, (hp.below HW4.out).keep keep⟩
          rw [← k5, List.getElem?_take, if_pos hjl] at hu
          exact hu⟩
    have HCh : Aside0 (∀ u, Chg w (w5.setCell ⟨g, 1, none⟩ u) g (some b) (some b)) := ⟨fun u => by rw [← hw5]; exact ((Chg.of_below HW4.out g (some b)).set _ _ (.inr rfl)).set _ _ (.inl rfl)⟩
    clear hw5 hci4 hfi4 g04 kc3 kc4
    have hci6 := hci5
    have HIs : Aside0 ((ps.set i l')[i]? = some l') := ⟨by rw [List.getElem?_set, if_pos rfl, if_pos (by omega)]⟩
    by_cases hq9 : (q : Int) = 0
    · have c9 : ((q : Int) == 0) = true := beq_iff_eq.mpr hq9
      have HQ9 := Aside0.mk hq9
      clear hq9
      go_wp2
      generalize hw6 : w5.setCell ⟨g, 1, none⟩ (.int .i64 (((fl ps).length : Int) - 1)) = w6
      obtain ⟨qs, hqs⟩ : ∃ qs, qs = ps.set i l' := ⟨_, rfl⟩
      have HI7 : Aside0 (Idx w6 g (some b) qs) := ⟨by rw [← hw6, hqs]; exact HI6.out⟩
      have HC7 : Aside0 (Chg w w6 g (some b) (some b)) := ⟨by rw [← hw6]; exact HCh.out _⟩
      have HQ7 : Aside0 (qs.length = ps.length ∧ qs[i]? = some [] ∧ fl qs = (fl ps).take p ++ (fl ps).drop (p + 1)) := ⟨by rw [hqs, List.length_set], by rw [hqs, HIs.out]; congr 1; exact List.eq_nil_of_length_eq_zero (by have := HLq.out; have := HQ9.out; omega), by rw [hqs]; exact HFl.out⟩
      have HG6 : Aside0 (w6.heap[g]? = some (.cells #[.slice (some ⟨b, 0, none⟩) ps.length cap, .int .i64 (((fl ps).length : Int) - 1)] 82 (0, 0))) := ⟨by rw [← hw6]; exact (blk_set HG5.out 1 _).trans rfl⟩
      have g06 : w6.cell? ⟨g, 0, none⟩ = some (.slice (some ⟨b, 0, none⟩) ps.length cap) := (blk_cell HG6.out 0).trans rfl
      have f06 : w6.frozen? ⟨g, 0, none⟩ = false := blk_frozen HG6.out 0
      clear hw6 hqs g05 g15 f15 hci5 hci6 kb c9
      obtain ⟨i53, hi53, hz53, hz531, hz532⟩ := info_parts info53
      have HI53 := Aside0.mk (And.intro hi53 (And.intro hz53 (And.intro hz531 hz532)))
      clear hi53 hz53 hz531 hz532
      obtain ⟨C, hC1, hC2, hC3, hC4, hC5⟩ := row_cells HI7.out HG6.out HQ7.out.1
      have HC1 := Aside0.mk hC1
      have HC2 := Aside0.mk hC2
      have HC5 := Aside0.mk hC5
      have HC3 := Aside0.mk hC3
      have HC4 := Aside0.mk hC4
      have hi2 : (i : Int) ≤ (cap : Int) := by omega
      have hi3 : (i : Int) + 1 ≤ (ps.length : Int) := by omega
      have hi4 : (0 : Int) ≤ (i : Int) + 1 := by omega
      have hi5' : ((i : Int) + 1).toNat = i + 1 := by omega
      have hw9 : IntKind.i64.wrap ((i : Int) + 1) = (i : Int) + 1 := IntWalk.i64_in _ (by have := HK.out; omega)
      have HW9 := Aside0.mk hw9
      clear hw9 hC1 hC2 hC3 hC4 hC5
      by_cases hlast : ps.length - (i + 1) = 0
      · have HLast := Aside0.mk hlast
        have hw9 := HW9.out
        go_region_law ((refine step_append_nothing (by rfl) (.tmp 136) (.tmp 143) 80 (by rfl) 53 i53 Try.underlying80 HI53.out.1 (some ⟨b, 0, none⟩) i cap (by rfl) (by omega) _ _ (by rfl) ?_; obtain ⟨w7, hw7⟩ : ∃ w7, w7 = w6.drew := ⟨_, rfl⟩; rw [← hw7]; have g07 : w7.cell? ⟨g, 0, none⟩ = some (.slice (some ⟨b, 0, none⟩) ps.length cap) := (by rw [hw7]; exact g06); have f07 : w7.frozen? ⟨g, 0, none⟩ = false := (by rw [hw7]; exact f06); have HD7 : Aside0 (w7 = w6.drew) := ⟨hw7⟩; clear hw7))
        all_goals
          clear hw9
          try generalize (if cap = i + 1 then some (⟨b, 0, none⟩ : Addr) else some ⟨b, i + 1, none⟩) = A143
          go_wp2
          go_ret
          refine ⟨some b, qs.take i ++ qs.drop (i + 1), rfl, ?_, ?_, by simp; have := HQ7.out.1; omega, ?_⟩
          · have kg : (w7.setCell ⟨g, 0, none⟩ (.slice (some ⟨b, 0, none⟩) i cap)).heap[g]? = some (.cells #[.slice (some ⟨b, 0, none⟩) i cap, .int .i64 (((fl ps).length : Int) - 1)] 82 (0, 0)) := by rw [HD7.out]; exact (blk_set (blk_drew HG6.out) 0 _).trans rfl
            refine Idx_of (n := i) (cap := cap) (D := C) (by rw [fl_skip HQ7.out.2.1, fl_len HQ7.out.2.2 HPN.out.1]; exact kg) (by rw [Below.heap_setCell _ _ _ _ hgb, HD7.out]; exact HC1.out) HC2.out (by omega) HC4.out (by rw [List.length_append, List.length_take, List.length_drop]; have := HQ7.out.1; omega) ?_
            intro j m hm
            have hji : j < i := by have := (List.getElem?_eq_some_iff.1 hm).1; rw [List.length_append, List.length_take, List.length_drop] at this; have := HQ7.out.1; have := HLast.out; omega
            rw [List.getElem?_append_left (by rw [List.length_take]; have := HQ7.out.1; omega), List.getElem?_take, if_pos hji] at hm
            obtain ⟨u, hu, hp⟩ := HC5.out j m hm
            exact ⟨u, hu, hp.keep fun k c' hk => by rw [Below.heap_setCell _ _ _ _ (fun e => by subst e; rw [HG6.out] at hk; injection hk with hk; injection hk with _ hk; cases hk), HD7.out]; rfl⟩
          · rw [fl_skip HQ7.out.2.1]; exact HQ7.out.2.2
          · rw [HD7.out]; exact (HC7.out.drewN 1).set _ _ (.inl rfl)
      · have hne1 : ¬ cap = i + 1 := by omega
        have HLast := Aside0.mk hlast
        obtain ⟨news, hnews⟩ : ∃ news, news = (C.take ps.length).drop (i + 1) := ⟨_, rfl⟩
        have hnl : news.length = ps.length - (i + 1) := by rw [hnews, List.length_drop, List.length_take]; have := HC2.out; omega
        have HNl := Aside0.mk hnl
        have HNw := Aside0.mk hnews
        have HNc : Aside0 (∀ (W : World), W.heap[b]? = some (.cells C.toArray 53 (0, 0)) → ∀ (j : Nat) (u : Value), news[j]? = some u → W.cell? ((⟨b, i + 1, none⟩ : Addr).add j) = some u) := ⟨fun W hW j u hj => by
          rw [add_off, blk_cell hW]
          rw [HNw.out, List.getElem?_drop, List.getElem?_take] at hj
          split at hj
          · simpa using hj
          · cases hj⟩
        have HN1 : Aside0 (∀ u ∈ news, u.oneCell' = true) := ⟨fun u hu => by
          rw [HNw.out] at hu
          obtain ⟨j, hj, rfl⟩ := List.mem_iff_getElem.1 (List.mem_of_mem_drop hu)
          rw [List.length_take] at hj
          obtain ⟨u', hu', A', c', rfl, _⟩ := HC5.out j _ (List.getElem?_eq_getElem (by have := HQ7.out.1; omega))
          rw [List.getElem_take]
          rw [List.getElem?_eq_getElem (by omega)] at hu'
          rw [Option.some.inj hu']
          rfl⟩
        clear hnews hnl hlast
        have hw9 := HW9.out
        go_region_law ((refine step_append_in (by rfl) (.tmp 136) (.tmp 143) 80 (by rfl) 53 i53 Try.underlying80 HI53.out.1 HI53.out.2.2.1 b i cap (by rfl) ⟨b, i + 1, none⟩ (cap - (i + 1)) news (by rw [HNl.out]; rfl) (HNc.out _ HC1.out) HN1.out (by have := HNl.out; omega) C 53 HC1.out HC2.out ?_; intro w7 hb7 hg7; have HB7 := Aside0.mk hb7; have HG7 := Aside0.mk hg7; have g07 := (hg7.cell_far ⟨g, 0, none⟩ (by exact blk_lt HG6.out) (fun e => hgb (by injection e with e; exact e.symm))).trans g06; have f07 := (hg7.frozen_far ⟨g, 0, none⟩ (by exact blk_lt HG6.out) (fun e => hgb (by injection e with e; exact e.symm))).trans f06; clear hb7 hg7))
        all_goals
          clear hw9
          go_wp2
          go_ret
          refine ⟨some b, qs.take i ++ qs.drop (i + 1), rfl, ?_, ?_, by simp; have := HQ7.out.1; omega, ?_⟩
          · have kg : (w7.setCell ⟨g, 0, none⟩ (.slice (some ⟨b, 0, none⟩) (i + news.length) cap)).heap[g]? = some (.cells #[.slice (some ⟨b, 0, none⟩) (i + news.length) cap, .int .i64 (((fl ps).length : Int) - 1)] 82 (0, 0)) := (blk_set (blk_grown (blk_drew HG6.out) HG7.out (fun e => hgb (by injection e with e; exact e.symm))) 0 _).trans rfl
            refine Idx_of (n := i + news.length) (cap := cap) (D := splice C i news) (by rw [fl_skip HQ7.out.2.1, fl_len HQ7.out.2.2 HPN.out.1]; exact kg) (by rw [Below.heap_setCell _ _ _ _ hgb]; exact HB7.out) (by rw [length_splice _ _ _ (by have := HNl.out; have := HC2.out; omega)]; exact HC2.out) (by have := HNl.out; omega) HC4.out (by rw [List.length_append, List.length_take, List.length_drop]; have := HQ7.out.1; have := HNl.out; omega) ?_
            intro j m hm
            obtain ⟨u, hu, hp⟩ := skip_cells (C := C) HQ7.out.1 HC2.out HC3.out HNw.out (by omega) HC5.out j m hm
            exact ⟨u, hu, hp.keep fun k c' hk => by
              have n1 : k ≠ g := fun e => by subst e; rw [HG6.out] at hk; injection hk with hk; injection hk with _ hk; cases hk
              have n2 : some k ≠ some b := fun e => by injection e with e; subst e; rw [HC1.out] at hk; injection hk with hk; injection hk with _ hk; cases hk
              rw [Below.heap_setCell _ _ _ _ n1]
              exact HG7.out.block k (blk_lt hk) n2⟩
          · rw [fl_skip HQ7.out.2.1]; exact HQ7.out.2.2
          · exact ((HC7.out.drewN 1).grown HG7.out (.inl rfl)).set _ _ (.inl rfl)
    · have c9 : ((q : Int) == 0) = false := beq_eq_false_iff_ne.mpr hq9
      clear hq9
      go_wp2
      go_ret
      exact ⟨some b, _, rfl, HI6.out, HFl.out, by simp, HCh.out _⟩
  · have hz1 : q + 1 < l.length := by have := HQL.out; omega
    have HZ := Aside0.mk hz1
    obtain ⟨ad, rfl, _⟩ := HD2.out.2.2 (by omega)
    have HNw : Aside0 (∀ (W : World), Below w2.heap.size w2 W → ∀ (j : Nat) (u : Value), (nums .u8 (l.drop (q + 1)))[j]? = some u → W.cell? (ad.add j) = some u) := ⟨fun W hW j u hj => by
      have hj' : j < (l.drop (q + 1)).length := by have := (List.getElem?_eq_some_iff.1 hj).1; rwa [nums_length] at this
      have hl : (l.drop (q + 1)).length = l.length - (q + 1) := by rw [List.length_drop]
      obtain ⟨ad', e, hc⟩ := Kd.at_int HD2.out (j : Int) (by omega) (by omega)
      injection e with e
      subst e
      rw [Int.toNat_natCast] at hc
      have hx : (nums .u8 (l.drop (q + 1)))[j]? = some (.int .u8 (rd (l.drop (q + 1)) (j : Int))) := by
        unfold nums rd
        rw [List.getElem?_map, List.getElem?_eq_getElem hj', List.getD_eq_getElem?_getD, Int.toNat_natCast, List.getElem?_eq_getElem hj']
        rfl
      rw [hx] at hj
      rw [← Option.some.inj hj]
      exact pw_cell_below hW hc⟩
    have HNl : Aside0 ((nums .u8 (l.drop (q + 1))).length = (l.length - (q + 1)) * 1) := ⟨by rw [nums_length, List.length_drop]; omega⟩
    have HEn : Aside0 (nums .u8 (l.take q) ++ nums .u8 (l.drop (q + 1)) = encs (Value.int .u8) l' ∧ q + (l.length - (q + 1)) = l'.length) := ⟨by rw [HL'.out]; simp [nums, encs], by have := HLl.out; omega⟩
    have HN1 : Aside0 (∀ u ∈ nums .u8 (l.drop (q + 1)), u.oneCell' = true) := ⟨fun u hu => by obtain ⟨x, _, rfl⟩ := List.mem_map.1 hu; rfl⟩
    clear hz hz1
    have hw1 := HW1.out
    go_region_held3 (fun w' => w'.cell? ⟨g, 0, none⟩ = some (.slice (some ⟨b, 0, none⟩) ps.length cap)) (go_keep) ((refine step_append_grows (by rfl) (.tmp 107) (.tmp 111) 53 (by rfl) 5 i5 (.int .u8 0) 1 1 Try.underlying53 HI5.out.1 HI5.out.2.1 HI5.out.2.2.1 HI5.out.2.2.2 rfl (by omega) B q q (nums .u8 (l.take q)) (by rfl) HNo.out HLo.out (HHo.out _ ((Below.refl _ _).drew)) ad (l.length - (q + 1)) (d - (q + 1)) (nums .u8 (l.drop (q + 1))) (by rfl) HNl.out (HNw.out _ ((Below.refl _ _).drew)) HN1.out (by have := HZ.out; omega) (by unfold maxLen; omega) (by omega) ?_; intro v4 w4 hown4 hg4; have hb4 : Below w2.heap.size w2 w4 := ((Below.refl _ _).drew).grown hg4 (Nat.le_refl _) (fun k e => by cases e); have HO4 : Aside0 (Kd.R (Kd.int .u8) 5 w4 w2.heap.size (fun _ => True) v4 l') := ⟨Kd.R_of_own (enc := Value.int .u8) (h1 := fun _ => rfl) (by rw [HEn.out.1, HEn.out.2] at hown4; exact hown4) (fun _ _ => trivial)⟩; obtain ⟨A4, c4, rfl⟩ := Kd.R_slice HO4.out; have HB4 := Aside0.mk hb4; have g04 := pw_cell_below hb4 g0; have hci4 := pw_cell_below hb4 hci; have hfi4 := (hb4.frozen (p := ⟨b, i, none⟩) hbs).trans hfi; clear hown4 hg4 hb4))
    clear hw1
    have HPU : Aside0 (Pc w4 (.slice A4 l'.length c4) l') := ⟨Pc_of_R HO4.out⟩
    have HFl : Aside0 (fl (ps.set i l') = (fl ps).take p ++ (fl ps).drop (p + 1)) := ⟨by rw [HL'.out]; exact fl_del HIL.out HQL.out HQ.out⟩
    have HFn : Aside0 ((fl (ps.set i l')).length + 1 = (fl ps).length) := ⟨by rw [HFl.out, List.length_append, List.length_take, List.length_drop]; have := HPN.out; omega⟩
    have hnn : ((fl ps).length : Int) ≤ 4096 := by have := HPN.out; omega
    have HW4 : Aside0 (Below w.heap.size w w4) := ⟨below_then HB1.out HB1.out.size HB4.out⟩
    have HG4 : Aside0 (w4.heap[g]? = some (.cells #[.slice (some ⟨b, 0, none⟩) ps.length cap, .int .i64 ((fl ps).length : Int)] 82 (0, 0))) := ⟨blk_below H1.out HW4.out⟩
    generalize hw5 : w4.setCell ⟨b, i, none⟩ (.slice A4 l'.length c4) = w5
    have HG5 : Aside0 (w5.heap[g]? = some (.cells #[.slice (some ⟨b, 0, none⟩) ps.length cap, .int .i64 ((fl ps).length : Int)] 82 (0, 0))) := ⟨by rw [← hw5, Below.heap_setCell _ _ _ _ (Ne.symm hgb)]; exact HG4.out⟩
    have g05 : w5.cell? ⟨g, 0, none⟩ = some (.slice (some ⟨b, 0, none⟩) ps.length cap) := (blk_cell HG5.out 0).trans rfl
    have g15 : w5.cell? ⟨g, 1, none⟩ = some (.int .i64 ((fl ps).length : Int)) := (blk_cell HG5.out 1).trans rfl
    have f15 : w5.frozen? ⟨g, 1, none⟩ = false := blk_frozen HG5.out 1
    have hci5 : w5.cell? ⟨b, i, none⟩ = some (.slice A4 l'.length c4) := by rw [← hw5]; exact World.cell?_setCell_same _ _ _ hci4
    obtain ⟨cur, k1, k2, k3, k4, k5⟩ : ∃ cur : Array Value, w.heap[b]? = some (.cells cur 53 (0, 0)) ∧ ps.length ≤ cap ∧ cap ≤ 9223372036854775807 ∧ cur.toList.length = cap ∧ cur.toList.take ps.length = cs := by
      rcases H2.out.2 with ⟨e, _⟩ | ⟨g', cap', cur, e, _, q1, q2, q3, q4, q5⟩
      · cases e
      · injection e with e1 e2 e3
        injection e1 with e1
        injection e1 with e1
        subst e1
        subst e3
        exact ⟨cur, q1, q2, by unfold maxLen at q3; exact q3, by simp [q4], by rwa [Nat.mul_one] at q5⟩
    have kb : w5.heap[b]? = some (.cells (cur.setIfInBounds i (.slice A4 l'.length c4)) 53 (0, 0)) := by rw [← hw5]; exact blk_set (blk_below k1 HW4.out) i _
    have HI6 : Aside0 (Idx (w5.setCell ⟨g, 1, none⟩ (.int .i64 (((fl ps).length : Int) - 1))) g (some b) (ps.set i l')) := ⟨by
      have keep : ∀ (k : Nat) (c' : Array Value), w4.heap[k]? = some (.cells c' 5 (0, 0)) → (w5.setCell ⟨g, 1, none⟩ (.int .i64 (((fl ps).length : Int) - 1))).heap[k]? = w4.heap[k]? := fun k c' hk => by
        have n1 : k ≠ g := fun e => by subst e; rw [HG4.out] at hk; injection hk with hk; injection hk with _ hk; cases hk
        have n2 : k ≠ b := fun e => by subst e; rw [blk_below k1 HW4.out] at hk; injection hk with hk; injection hk with _ hk; cases hk
        rw [Below.heap_setCell _ _ _ _ n1, ← hw5, Below.heap_setCell _ _ _ _ n2]
      refine Idx_of (n := ps.length) (cap := cap) (D := cur.toList.set i (.slice A4 l'.length c4)) ?_ ?_ (by rw [List.length_set]; exact k4) k2 k3 (by rw [List.length_set]) ?_
      · rw [show (((fl (ps.set i l')).length : Nat) : Int) = ((fl ps).length : Int) - 1 by have := HFn.out; omega]
        exact (blk_set HG5.out 1 _).trans rfl
      · rw [Below.heap_setCell _ _ _ _ hgb, kb]
        congr 2
        apply Array.ext'
        simp
      · intro j m hm
        rw [List.getElem?_set] at hm ⊢
        by_cases hij : i = j
        · rw [if_pos hij] at hm ⊢
          have hi' : i < ps.length := by omega
          rw [if_pos (by omega)] at hm
          rw [if_pos (by omega)]
          obtain rfl := Option.some.inj hm
          exact ⟨_, rfl, HPU.out.keep keep⟩
        · rw [if_neg hij] at hm ⊢
          obtain ⟨u, hu, hp⟩ := H4.out j m hm
          have hjl := (List.getElem?_eq_some_iff.1 hm).1
          refine ⟨u, ?_, (hp.below HW4.out).keep keep⟩
          rw [← k5, List.getElem?_take, if_pos hjl] at hu
          exact hu⟩
    have HCh : Aside0 (∀ u, Chg w (w5.setCell ⟨g, 1, none⟩ u) g (some b) (some b)) := ⟨fun u => by rw [← hw5]; exact ((Chg.of_below HW4.out g (some b)).set _ _ (.inr rfl)).set _ _ (.inl rfl)⟩
    clear hw5 hci4 hfi4 g04 kc3 kc4
    have hci6 := hci5
    have HIs : Aside0 ((ps.set i l')[i]? = some l') := ⟨by rw [List.getElem?_set, if_pos rfl, if_pos (by omega)]⟩
    have c9 : ((l'.length : Int) == 0) = false := beq_eq_false_iff_ne.mpr (by have := HLl.out; have := HZ.out; omega)
    go_wp2
    go_ret
    exact ⟨some b, _, rfl, HI6.out, HFl.out, by simp, HCh.out _⟩
end Go.Proofs.Ytfngcabckfmhnaa.B
/- search.Index.Apply: what is refused, what does nothing; and all of it in one. -/
namespace Go.Proofs.Ytfngcabckfmhnaa.B
open Go.RowKit Go.Proofs.YtfngcabckfmhnaaW.PrintWords Go.Proofs.YtfngcabckfmhnaaW.PrintLast Go.Proofs.YtfngcabckfmhnaaW.PrintMore Go.Proofs.Ytfngcabckfmhnaa.PA
set_option linter.unusedVariables false
set_option linter.unusedSimpArgs false

def IBad (w : World) (n : Int) (e : Ending) (w' : World) : Prop := e = .returned (.int .i64 n) ∧ Below w.heap.size w w'

set_option maxHeartbeats 16000000 in
set_option maxRecDepth 100000 in
theorem iapply_bad (w : World) (g : Nat) (r : Option Nat) (ps : List (List Int)) (h : Idx w g r ps) (k p c cl s : Int) (hc : 0 ≤ c ∧ c ≤ 255) (he : fit (fl ps).length k p c cl s ≠ 0) :
    Calls Try.prog 23 #[.pointer (some ⟨g, 0, none⟩), .agg #[.int .i64 k, .int .i64 p, .int .u8 c, .int .i64 cl, .int .i64 s]] w (IBad w 241) := by
  obtain ⟨n, hn⟩ : ∃ n, n = fit (fl ps).length k p c cl s := ⟨_, rfl⟩
  rw [← hn] at he
  have HF : Aside0 (doc_Fits.f 2 (fl ps).length k p c cl s = some n) := ⟨by rw [hn]; exact fits_pure _ _ _ _ _ _ hc⟩
  have c1 : (n != 0) = true := bne_iff_ne.mpr he
  obtain ⟨v, cs, h1, h2, h3, h4⟩ := h
  have hcg1 : w.cell? ⟨g, 1, none⟩ = some (.int .i64 ((fl ps).length : Int)) := (blk_cell h1 1).trans rfl
  have hgs : g < w.heap.size := blk_lt h1
  clear hn he h1 h2 h3 h4
  go_enter Try.func23, Try.ntmps23
  go_wp2
  go_region_held3 (fun w' => w'.cell? ⟨g, 1, none⟩ = some (.int .i64 ((fl ps).length : Int)) ∧ w'.cell? ⟨w.heap.size, 0, none⟩ = some (.int .i64 k) ∧ w'.cell? ⟨w.heap.size, 1, none⟩ = some (.int .i64 p) ∧ w'.cell? ⟨w.heap.size, 2, none⟩ = some (.int .u8 c) ∧ w'.cell? ⟨w.heap.size, 3, none⟩ = some (.int .i64 cl) ∧ w'.cell? ⟨w.heap.size, 4, none⟩ = some (.int .i64 s)) (go_keep) ((go_at_call 41; refine (doc_Fits.calls 2 (fl ps).length k p c cl s n _ HF.out).mono ?_; rintro e w1 ⟨rfl, hb1⟩; have BX : Aside0 (w1.heap[w.heap.size]? = some (.cells #[.int .i64 k, .int .i64 p, .int .u8 c, .int .i64 cl, .int .i64 s] 46 (0, 0))) := ⟨blk_below (blk_drew (heap_alloc_new w _)) hb1⟩; have hbw : Below w.heap.size w w1 := below_then (((Below.refl _ _).alloc (Nat.le_refl _) _).drew) (by simp) hb1; have HB1 := Aside0.mk hbw; have g1 := pw_cell_below hbw hcg1; have x0 : w1.cell? ⟨w.heap.size, 0, none⟩ = some (.int .i64 k) := (blk_cell BX.out 0).trans rfl; have x1 : w1.cell? ⟨w.heap.size, 1, none⟩ = some (.int .i64 p) := (blk_cell BX.out 1).trans rfl; have x2 : w1.cell? ⟨w.heap.size, 2, none⟩ = some (.int .u8 c) := (blk_cell BX.out 2).trans rfl; have x3 : w1.cell? ⟨w.heap.size, 3, none⟩ = some (.int .i64 cl) := (blk_cell BX.out 3).trans rfl; have x4 : w1.cell? ⟨w.heap.size, 4, none⟩ = some (.int .i64 s) := (blk_cell BX.out 4).trans rfl; clear hb1 hbw))
  go_wp2
  go_ret
  exact ⟨rfl, HB1.out⟩
set_option maxHeartbeats 16000000 in
set_option maxRecDepth 100000 in
theorem iapply_nop (w : World) (g : Nat) (r : Option Nat) (ps : List (List Int)) (h : Idx w g r ps) (p c cl s : Int) (hc : 0 ≤ c ∧ c ≤ 255) (he : fit (fl ps).length 0 p c cl s = 0) :
    Calls Try.prog 23 #[.pointer (some ⟨g, 0, none⟩), .agg #[.int .i64 0, .int .i64 p, .int .u8 c, .int .i64 cl, .int .i64 s]] w (IBad w 0) := by
  have HF : Aside0 (doc_Fits.f 2 (fl ps).length 0 p c cl s = some 0) := ⟨by rw [fits_pure _ _ _ _ _ _ hc, he]⟩
  obtain ⟨v, cs, h1, h2, h3, h4⟩ := h
  have hcg1 : w.cell? ⟨g, 1, none⟩ = some (.int .i64 ((fl ps).length : Int)) := (blk_cell h1 1).trans rfl
  have hgs : g < w.heap.size := blk_lt h1
  clear he h1 h2 h3 h4
  go_enter Try.func23, Try.ntmps23
  go_wp2
  go_region_held3 (fun w' => w'.cell? ⟨g, 1, none⟩ = some (.int .i64 ((fl ps).length : Int)) ∧ w'.cell? ⟨w.heap.size, 0, none⟩ = some (.int .i64 0) ∧ w'.cell? ⟨w.heap.size, 1, none⟩ = some (.int .i64 p) ∧ w'.cell? ⟨w.heap.size, 2, none⟩ = some (.int .u8 c) ∧ w'.cell? ⟨w.heap.size, 3, none⟩ = some (.int .i64 cl) ∧ w'.cell? ⟨w.heap.size, 4, none⟩ = some (.int .i64 s)) (go_keep) ((go_at_call 41; refine (doc_Fits.calls 2 (fl ps).length 0 p c cl s 0 _ HF.out).mono ?_; rintro e w1 ⟨rfl, hb1⟩; have BX : Aside0 (w1.heap[w.heap.size]? = some (.cells #[.int .i64 0, .int .i64 p, .int .u8 c, .int .i64 cl, .int .i64 s] 46 (0, 0))) := ⟨blk_below (blk_drew (heap_alloc_new w _)) hb1⟩; have hbw : Below w.heap.size w w1 := below_then (((Below.refl _ _).alloc (Nat.le_refl _) _).drew) (by simp) hb1; have HB1 := Aside0.mk hbw; have g1 := pw_cell_below hbw hcg1; have x0 : w1.cell? ⟨w.heap.size, 0, none⟩ = some (.int .i64 0) := (blk_cell BX.out 0).trans rfl; have x1 : w1.cell? ⟨w.heap.size, 1, none⟩ = some (.int .i64 p) := (blk_cell BX.out 1).trans rfl; have x2 : w1.cell? ⟨w.heap.size, 2, none⟩ = some (.int .u8 c) := (blk_cell BX.out 2).trans rfl; have x3 : w1.cell? ⟨w.heap.size, 3, none⟩ = some (.int .i64 cl) := (blk_cell BX.out 3).trans rfl; have x4 : w1.cell? ⟨w.heap.size, 4, none⟩ = some (.int .i64 s) := (blk_cell BX.out 4).trans rfl; clear hb1 hbw))
  go_wp2
  go_ret
  exact ⟨rfl, HB1.out⟩

/-- An insertion, whatever the pieces. -/
theorem iapply_ins (w : World) (g : Nat) (r : Option Nat) (ps : List (List Int)) (h : Idx w g r ps) (hK : ps.length ≤ 5700000000000) (p : Nat) (c cl s : Int) (hc : 0 ≤ c ∧ c ≤ 255) (he : fit (fl ps).length 1 p c cl s = 0) :
    Calls Try.prog 23 #[.pointer (some ⟨g, 0, none⟩), .agg #[.int .i64 1, .int .i64 p, .int .u8 c, .int .i64 cl, .int .i64 s]] w (IApplyAns w g r ps ((fl ps).take p ++ [c] ++ (fl ps).drop p)) := by
  cases ps with
  | nil => exact ins_none w g r h p c cl s hc he
  | cons a l => exact ins_some w g r (a :: l) h hK (by simp) p c cl s hc he

/-- The bytes behind an operation that fits. -/
def appB (t : List Int) (k p c : Int) : List Int :=
  if k = 1 then t.take p.toNat ++ [c] ++ t.drop p.toNat else if k = 2 then t.take p.toNat ++ t.drop (p.toNat + 1) else t
/-- All that fits. -/
theorem iapply_ok (w : World) (g : Nat) (r : Option Nat) (ps : List (List Int)) (h : Idx w g r ps) (hK : ps.length ≤ 5700000000000) (k p c cl s : Int) (hc : 0 ≤ c ∧ c ≤ 255) (he : fit (fl ps).length k p c cl s = 0) :
    Calls Try.prog 23 #[.pointer (some ⟨g, 0, none⟩), .agg #[.int .i64 k, .int .i64 p, .int .u8 c, .int .i64 cl, .int .i64 s]] w (IApplyAns w g r ps (appB (fl ps) k p c)) := by
  obtain ⟨⟨hk0, hk2⟩, -, -, -, hp, hi, hd⟩ := fit_zero he
  obtain ⟨q, rfl⟩ : ∃ q : Nat, p = (q : Int) := ⟨p.toNat, by omega⟩
  unfold appB
  rw [Int.toNat_natCast]
  by_cases h1 : k = 1
  · subst h1
    rw [if_pos rfl]
    exact iapply_ins w g r ps h hK q c cl s hc he
  · rw [if_neg h1]
    by_cases h2 : k = 2
    · subst h2
      obtain ⟨rfl, _⟩ := hd rfl
      rw [if_pos rfl]
      exact del_any w g r ps h hK q cl s he
    · rw [if_neg h2]
      obtain rfl : k = 0 := by omega
      refine (iapply_nop w g r ps h q c cl s hc he).mono ?_
      rintro e w' ⟨rfl, hb⟩
      exact ⟨r, ps, rfl, h.below hb, rfl, Nat.le_succ _, Chg.of_below hb g r⟩

/-- doc.Apply, whatever fits. -/
theorem apply_ok (A : Option Addr) (xs : List S76) (cap : Nat) (w : World) (k p c cl s : Int) (hr : Kd.C k76 w A xs.length xs) (hcap : xs.length ≤ cap) (hc : 0 ≤ c ∧ c ≤ 255) (he : fit xs.length k p c cl s = 0) :
    Calls Try.prog 24 #[.slice A xs.length cap, .agg #[.int .i64 k, .int .i64 p, .int .u8 c, .int .i64 cl, .int .i64 s]] w (ApplyAns w (app xs k p c cl s)) := by
  obtain ⟨⟨hk0, hk2⟩, -, -, -, hp, hi, hd⟩ := fit_zero he
  obtain ⟨q, rfl⟩ : ∃ q : Nat, p = (q : Int) := ⟨p.toNat, by omega⟩
  unfold app
  rw [Int.toNat_natCast]
  by_cases h1 : k = 1
  · subst h1
    rw [if_pos rfl]
    exact apply_ins A xs cap w q c cl s hr hcap hc he
  · rw [if_neg h1]
    by_cases h2 : k = 2
    · subst h2
      obtain ⟨rfl, _⟩ := hd rfl
      rw [if_pos rfl]
      exact apply_del A xs cap w q cl s hr hcap he
    · rw [if_neg h2]
      obtain rfl : k = 0 := by omega
      exact apply_nop A xs cap w q c cl s hr hcap hc he
theorem app_f0 (xs : List S76) (k p c cl s : Int) : (app xs k p c cl s).map (·.f0) = appB (xs.map (·.f0)) k p c := by
  unfold app appB
  by_cases h1 : k = 1
  · rw [if_pos h1, if_pos h1]; simp [List.map_take, List.map_drop]
  · rw [if_neg h1, if_neg h1]
    by_cases h2 : k = 2
    · rw [if_pos h2, if_pos h2]; simp [List.map_take, List.map_drop]
    · rw [if_neg h2, if_neg h2]
end Go.Proofs.Ytfngcabckfmhnaa.B
