/- The ghost machine is sound: what holds a ghost state, and how it goes on. -/
import Derived.Test.YtjieepgapjbjlaaV2
namespace Go.Gv
set_option linter.unusedVariables false

def FVal.ok (β : Nat → Nat) : FVal → Value → Prop
  | .v x, y => y = x
  | .loc s off, y => y = .pointer (some ⟨β s, off, none⟩)
  | .lsl s n, y => y = .slice (some ⟨β s, 0, none⟩) n n

structure Rel (N : Nat) (Keep Hide : Nat → Prop) (W0 : World) (β : Nat → Nat) (st : St) (h : GH) (a : Act) (w : World) : Prop where
  r : R Keep Hide W0 h w
  sz : a.tmps.size = N
  df : a.defers = []
  fr : ∀ t x, look t st.f = some x → x.ok β (a.tmps.getD t undef)
  lo : ∀ s vs, look s st.l = some vs → ¬ Keep (β s) ∧ ¬ Hide (β s) ∧ h (β s) = none ∧ ∃ e, w.heap[β s]? = some (.cells ⟨vs⟩ e (0, 0))
  inj : ∀ s s' vs vs', look s st.l = some vs → look s' st.l = some vs' → β s = β s' → s = s'

/-- What holds behind an operation with the slot 'd': the private blocks of other slots are where they were. -/
def Post (N : Nat) (Keep Hide : Nat → Prop) (W0 : World) (β : Nat → Nat) (d : Option Tmp) (K : St → GH → Prop) (a : Act) (w : World) : Prop :=
  ∃ β' st h, Rel N Keep Hide W0 β' st h a w ∧ K st h ∧ ∀ s, d ≠ some s → β' s = β s

variable {P : Program} {N : Nat} {hp : List Nat} {Keep Hide : Nat → Prop} {W0 : World} {β : Nat → Nat} {st : St} {h : GH} {a : Act} {w : World} {K : St → GH → Prop} {o : Oper} {Q : Exit → Act → World → Prop}

theorem Rel.ev (hr : Rel N Keep Hide W0 β st h a w) {x : Operand} {v : FVal} (hx : st.ev x = some v) : v.ok β (a.eval x) := by
  cases x with
  | tmp t => exact hr.fr t v hx
  | const c => simp only [St.ev, Option.some.injEq] at hx; subst hx; rfl
  | func f => simp only [St.ev, Option.some.injEq] at hx; subst hx; rfl
  | global g => simp [St.ev] at hx

theorem Rel.evv (hr : Rel N Keep Hide W0 β st h a w) {x : Operand} {v : Value} (hx : st.ev x = some (.v v)) : a.eval x = v := hr.ev hx

theorem Rel.put (hr : Rel N Keep Hide W0 β st h a w) {t : Nat} (ht : t < N) {x : FVal} {v : Value} (hx : x.ok β v) : Rel N Keep Hide W0 β { st with f := upd t x st.f } h (a.put (some t) v) w := by
  refine ⟨hr.r, by simp [Act.put, hr.sz], hr.df, fun u y hy => ?_, hr.lo, hr.inj⟩
  rw [look_upd] at hy
  by_cases hu : u = t
  · subst hu
    rw [if_pos rfl, Option.some.injEq] at hy
    subst hy
    have : u < a.tmps.size := by rw [hr.sz]; exact ht
    simpa [Act.put, this] using hx
  · rw [if_neg hu] at hy
    have := hr.fr u y hy
    have hne : t ≠ u := fun e => hu e.symm
    simpa [Act.put, Array.getElem?_setIfInBounds_ne hne] using this

theorem putD_sound {d : Option Tmp} {x : FVal} {v : Value} (hk : putD N st d x h K) (hr : Rel N Keep Hide W0 β st h a w) (hx : x.ok β v) : Post N Keep Hide W0 β d K (a.put d v) w := by
  unfold putD at hk
  cases d with
  | none => exact ⟨β, st, h, hr, hk, fun _ _ => rfl⟩
  | some t =>
    dsimp only at hk
    split at hk
    · rename_i hb
      have ht : t < N := by simpa [Nat.blt_eq] using hb
      exact ⟨β, _, h, hr.put ht hx, hk, fun _ _ => rfl⟩
    · exact hk.elim

theorem wp_value {next : Act → World → Prop} {v : Value} {w' : World} (hrun : (execOp a.eval o).run P w = .ok (.value v) w') (hn : next (a.put o.dst v) w') : o.wp P a w next Q := by
  unfold Oper.wp
  rw [hrun]
  exact hn

theorem wp_skip' {next : Act → World → Prop} {w' : World} (hrun : (execOp a.eval o).run P w = .ok .skip w') (hn : next (a.put o.dst undef) w') : o.wp P a w next Q := by
  unfold Oper.wp
  rw [hrun]
  exact hn

theorem Rel.step (hr : Rel N Keep Hide W0 β st h a w) {h' : GH} {w' : World} (hR : R Keep Hide W0 h' w') (hl : ∀ s vs, look s st.l = some vs → w'.heap[β s]? = w.heap[β s]? ∧ h' (β s) = none) : Rel N Keep Hide W0 β st h' a w' :=
  ⟨hR, hr.sz, hr.df, hr.fr, fun s vs hs => by
    obtain ⟨h1, h2, h3, e, h4⟩ := hr.lo s vs hs
    obtain ⟨h5, h6⟩ := hl s vs hs
    exact ⟨h1, h2, h6, e, by rw [h5]; exact h4⟩, hr.inj⟩

theorem GObj.ok.lt {free : Prop} {b : Nat} {ob : GObj} (hok : GObj.ok free b w ob) : b < w.heap.size := by
  have key : ∀ o, w.heap[b]? = some o → b < w.heap.size := fun o ho => (Array.getElem?_eq_some_iff.1 ho).1
  cases ob with
  | cells base vs own => obtain ⟨c, e, fz, hc, _⟩ := hok; exact key _ hc
  | raw o => exact key _ hok.2.2

theorem R.lt (hr : R Keep Hide W0 h w) {b : Nat} {ob : GObj} (hb : h b = some ob) : b < w.heap.size := (hr.objs b ob hb).lt

theorem R.fresh (hr : R Keep Hide W0 h w) : h w.heap.size = none := by
  cases hb : h w.heap.size with
  | none => rfl
  | some o => exact absurd (hr.lt hb) (Nat.lt_irrefl _)

theorem Rel.lt (hr : Rel N Keep Hide W0 β st h a w) {s : Nat} {vs : List Value} (hs : look s st.l = some vs) : β s < w.heap.size := by
  obtain ⟨_, _, _, e, he⟩ := hr.lo s vs hs
  exact (Array.getElem?_eq_some_iff.1 he).1

theorem heap_alloc (w : World) (o : Obj) (k : Nat) (hk : k ≠ w.heap.size) : (w.alloc o).heap[k]? = w.heap[k]? := by
  show (w.heap.push o)[k]? = _
  rw [Array.getElem?_push, if_neg hk]

theorem heap_alloc_same (w : World) (o : Obj) : (w.alloc o).heap[w.heap.size]? = some o := by
  show (w.heap.push o)[w.heap.size]? = _
  simp

theorem GObj.ok.same {free free' : Prop} {b : Nat} {w' : World} {ob : GObj} (hok : GObj.ok free b w ob) (hf : free → free') (hb : w'.heap[b]? = w.heap[b]?) : GObj.ok free' b w' ob := by
  cases ob with
  | cells base vs own =>
    obtain ⟨c, e, fz, hc, h2, h3⟩ := hok
    exact ⟨c, e, fz, by rw [hb]; exact hc, h2, fun room hr => let ⟨a1, a2⟩ := h3 room hr; ⟨hf a1, a2⟩⟩
  | raw o => exact ⟨hf hok.1, hok.2.1, by rw [hb]; exact hok.2.2⟩

/-- A new block, whatever it holds. -/
theorem R.alloc (hr : R Keep Hide W0 h w) (ob : Obj) {g : GObj} (hg : GObj.ok True w.heap.size (w.alloc ob) g) : R Keep Hide W0 (h.set w.heap.size g) (w.alloc ob) := by
  have hnk : ¬ Keep w.heap.size := fun hk => absurd (hr.keep _ hk).1 (by have := hr.size; omega)
  refine ⟨hr.os, hr.tape, hr.output, by have := hr.size; simp; omega, fun k hk => ?_, fun k hk => ?_, fun b o hb => ?_⟩
  · have h1 := hr.keep k hk
    exact ⟨h1.1, by rw [heap_alloc _ _ _ (by have := hr.size; omega)]; exact h1.2⟩
  · have h1 := hr.hide k hk
    have hne : k ≠ w.heap.size := by have := hr.size; omega
    exact ⟨by simp only [GH.set]; rw [if_neg hne]; exact h1.1, h1.2.1, by rw [heap_alloc _ _ _ hne]; exact h1.2.2⟩
  · simp only [GH.set] at hb
    by_cases hbe : b = w.heap.size
    · subst hbe
      rw [if_pos rfl, Option.some.injEq] at hb
      subst hb
      exact hg.same (fun _ => hnk) rfl
    · rw [if_neg hbe] at hb
      exact (hr.objs b o hb).same id (heap_alloc _ _ _ hbe)

theorem Rel.alloc (hr : Rel N Keep Hide W0 β st h a w) (ob : Obj) {g : GObj} (hg : GObj.ok True w.heap.size (w.alloc ob) g) : Rel N Keep Hide W0 β st (h.set w.heap.size g) a (w.alloc ob) :=
  hr.step (hr.r.alloc ob hg) fun s vs hs => by
    have := hr.lt hs
    have hne : β s ≠ w.heap.size := by omega
    exact ⟨heap_alloc _ _ _ hne, by simp only [GH.set]; rw [if_neg hne]; exact (hr.lo s vs hs).2.2.1⟩

theorem ok_cells_new (vs : List Value) (e : TypeId) : GObj.ok True w.heap.size (w.alloc (.cells ⟨vs⟩ e)) (.cells 0 vs (some vs.length)) :=
  ⟨⟨vs⟩, e, (0, 0), heap_alloc_same _ _, fun i v hv _ => by simpa using hv, fun room hr => by simp only [Option.some.injEq] at hr; subst hr; exact ⟨trivial, rfl, rfl, by simp⟩⟩

/-- A draw moves nothing. -/
theorem R.drew (hr : R Keep Hide W0 h w) (n : Nat) : R Keep Hide W0 h { w with drawn := n } :=
  ⟨hr.os, hr.tape, hr.output, hr.size, hr.keep, hr.hide, fun b o hb => (hr.objs b o hb).same id rfl⟩

theorem Rel.drew (hr : Rel N Keep Hide W0 β st h a w) (n : Nat) : Rel N Keep Hide W0 β st h a { w with drawn := n } :=
  hr.step (hr.r.drew n) fun s vs hs => ⟨rfl, (hr.lo s vs hs).2.2.1⟩

/-- A private block of its own for slot t. -/
theorem Rel.priv (hr : Rel N Keep Hide W0 β st h a w) {t : Nat} (ht : t < N) (vs : List Value) (e : TypeId) (x : FVal) (hx : x = .loc t 0 ∨ ∃ n, x = .lsl t n) (v : Value) (hv : x.ok (fun s => if s = t then w.heap.size else β s) v) :
    Rel N Keep Hide W0 (fun s => if s = t then w.heap.size else β s) { f := upd t x (unloc t st.f), l := upd t vs st.l } h (a.put (some t) v) (w.alloc (.cells ⟨vs⟩ e)) := by
  have hR : R Keep Hide W0 h (w.alloc (.cells ⟨vs⟩ e)) := by
    have h0 := hr.r
    refine ⟨h0.os, h0.tape, h0.output, by have := h0.size; simp; omega, fun k hk => ?_, fun k hk => ?_, fun b o hb => ?_⟩
    · have h1 := h0.keep k hk
      exact ⟨h1.1, by rw [heap_alloc _ _ _ (by have := h0.size; omega)]; exact h1.2⟩
    · have h1 := h0.hide k hk
      exact ⟨h1.1, h1.2.1, by rw [heap_alloc _ _ _ (by have := h0.size; omega)]; exact h1.2.2⟩
    · exact (h0.objs b o hb).same id (heap_alloc _ _ _ (by have := h0.lt hb; omega))
  refine ⟨hR, by simp [Act.put, hr.sz], hr.df, fun u y hy => ?_, fun s us hs => ?_, fun s s' us us' hs hs' he => ?_⟩
  · rw [look_upd] at hy
    by_cases hu : u = t
    · subst hu
      rw [if_pos rfl, Option.some.injEq] at hy
      subst hy
      have : u < a.tmps.size := by rw [hr.sz]; exact ht
      simpa [Act.put, this] using hv
    · rw [if_neg hu] at hy
      obtain ⟨h1, h2⟩ := look_unloc hy
      have h3 := hr.fr u y h2
      have hne : t ≠ u := fun e => hu e.symm
      have h4 : (a.put (some t) v).tmps.getD u undef = a.tmps.getD u undef := by simp [Act.put, Array.getElem?_setIfInBounds_ne hne]
      rw [h4]
      cases y with
      | v x => exact h3
      | loc s off =>
        have : s ≠ t := fun e => by subst e; simp [FVal.at] at h1
        simp only [FVal.ok] at h3 ⊢
        rw [if_neg this]; exact h3
      | lsl s n =>
        have : s ≠ t := fun e => by subst e; simp [FVal.at] at h1
        simp only [FVal.ok] at h3 ⊢
        rw [if_neg this]; exact h3
  · rw [look_upd] at hs
    by_cases hst : s = t
    · rw [if_pos hst, Option.some.injEq] at hs
      subst hs
      have h0 := hr.r
      simp only [if_pos hst]
      exact ⟨fun hk => absurd (h0.keep _ hk).1 (by have := h0.size; omega), fun hk => absurd (h0.hide _ hk).2.1 (by have := h0.size; omega), h0.fresh, e, heap_alloc_same _ _⟩
    · rw [if_neg hst] at hs
      obtain ⟨h1, h2, h3, e', h4⟩ := hr.lo s us hs
      simp only [if_neg hst]
      have := hr.lt hs
      exact ⟨h1, h2, h3, e', by rw [heap_alloc _ _ _ (by omega)]; exact h4⟩
  · rw [look_upd] at hs hs'
    by_cases hst : s = t
    · by_cases hst' : s' = t
      · rw [hst, hst']
      · rw [if_neg hst'] at hs'
        have := hr.lt hs'
        simp only [if_pos hst, if_neg hst'] at he
        omega
    · by_cases hst' : s' = t
      · rw [if_neg hst] at hs
        have := hr.lt hs
        simp only [if_neg hst, if_pos hst'] at he
        omega
      · rw [if_neg hst] at hs
        rw [if_neg hst'] at hs'
        simp only [if_neg hst, if_neg hst'] at he
        exact hr.inj s s' us us' hs hs' he

/-! ### Cells -/

theorem run_typeInfo_of {P : Program} {t : TypeId} {i : TypeInfo} (hi : P.info? t = some i) (w : World) : (typeInfo t).run P w = .ok i w := by simp [typeInfo, hi]

theorem run_sizeOf_of {P : Program} {t : TypeId} {n : Nat} (hi : sizeT P t = some n) (w : World) : (sizeOf t).run P w = .ok n w := by
  obtain ⟨i, h1, h2⟩ := Option.map_eq_some_iff.1 hi
  simp [sizeOf, typeInfo, h1, h2]

theorem run_zero_of {P : Program} {t : TypeId} {z : Value} (hi : zeroT P t = some z) (w : World) : (zeroValue t).run P w = .ok z w := by
  unfold zeroT at hi
  split at hi
  · rename_i i h1
    simp [zeroValue, typeInfo, h1, hi]
  · exact absurd hi (by simp)

theorem run_isAgg_of {P : Program} {t : TypeId} {b : Bool} (hi : isAggT P t = some b) (w : World) : (isAgg t).run P w = .ok b w := by
  unfold isAggT at hi
  unfold isAgg
  split at hi
  · rename_i h1; simp only [Option.some.injEq] at hi; subst hi; simp [run_underlying h1]
  · rename_i h1; simp only [Option.some.injEq] at hi; subst hi; simp [run_underlying h1]
  · rename_i d h1 h2 h3
    simp only [Option.some.injEq] at hi; subst hi
    simp only [Sem.run_bind, run_underlying h3, Result.andThen_ok]
    rfl
  · exact absurd hi (by simp)

theorem cell_of {w : World} {b off : Nat} {c : Array Value} {e : TypeId} {fz : Nat × Nat} (hb : w.heap[b]? = some (.cells c e fz)) : w.cell? ⟨b, off, none⟩ = c[off]? := by
  simp [World.cell?, hb]

theorem R.cell (hr : R Keep Hide W0 h w) {b off : Nat} {v : Value} (hc : h.cell b off = some v) : w.cell? ⟨b, off, none⟩ = some v ∧ one v = true := by
  unfold GH.cell at hc
  split at hc
  · rename_i base vs own hb
    split at hc
    · rename_i hle
      rw [Option.filter_eq_some_iff] at hc
      obtain ⟨c, e, fz, h2, h3, _⟩ := hr.objs b _ hb
      have := h3 _ _ hc.1 hc.2
      rw [show base + (off - base) = off by omega] at this
      exact ⟨by rw [cell_of h2]; exact this, hc.2⟩
    · exact absurd hc (by simp)
  · exact absurd hc (by simp)

theorem addr_add {p : Addr} (hp : p.spot = none) (j : Nat) : p.add j = ⟨p.block, p.off + j, none⟩ := by
  unfold Addr.add
  split
  · rename_i h0; subst h0; obtain ⟨b, o, s⟩ := p; simp only at hp; subst hp; rfl
  · rfl

theorem R.rds (hr : R Keep Hide W0 h w) {p : Addr} {vs : List Value} (hp : Rds h p vs) : ∀ j v, vs[j]? = some v → w.cell? (p.add j) = some v := fun j v hv => by
  rw [addr_add hp.1]
  exact (hr.cell (hp.2 j v hv)).1

theorem R.rds_one (hr : R Keep Hide W0 h w) {p : Addr} {vs : List Value} (hp : Rds h p vs) : vs.all one = true := by
  rw [List.all_eq_true]
  intro v hv
  obtain ⟨j, hj⟩ := List.getElem?_of_mem hv
  exact (hr.cell (hp.2 j v hj)).2

theorem R.load_cells (hr : R Keep Hide W0 h w) {p : Addr} {vs : List Value} (hp : Rds h p vs) {n : Nat} (hn : vs.length = n) : (loadCells p n).run P w = .ok ⟨vs⟩ w := by
  subst hn
  exact run_loadCells_list w p vs (hr.rds hp)

theorem splice_length : ∀ (ys vs : List Value) (i : Nat), (splice vs i ys).length = vs.length
  | [], vs, i => rfl
  | y :: ys, vs, i => by simp [splice, splice_length ys]

theorem splice_get : ∀ (ys vs : List Value) (i j : Nat), i + ys.length ≤ vs.length → (splice vs i ys)[j]? = if i ≤ j ∧ j < i + ys.length then ys[j - i]? else vs[j]?
  | [], vs, i, j, _ => by simp [splice]; intro h1 h2; omega
  | y :: ys, vs, i, j, hl => by
    simp only [splice]
    rw [splice_get ys (vs.set i y) (i + 1) j (by simp at hl ⊢; omega)]
    simp only [List.length_cons] at hl ⊢
    by_cases h1 : i = j
    · subst h1
      rw [if_neg (by omega), if_pos (by omega)]
      simp [List.getElem?_set]
      omega
    · by_cases h2 : i + 1 ≤ j ∧ j < i + 1 + ys.length
      · rw [if_pos h2, if_pos (by omega)]
        rw [show j - i = (j - (i + 1)) + 1 by omega]
        simp
      · rw [if_neg h2, if_neg (by omega)]
        rw [List.getElem?_set_ne h1]

theorem splice_one {ys vs : List Value} {i : Nat} (h1 : vs.all one = true) (h2 : ys.all one = true) : (splice vs i ys).all one = true := by
  induction ys generalizing vs i with
  | nil => exact h1
  | cons y ys ih =>
    simp only [List.all_cons, Bool.and_eq_true] at h2
    refine ih ?_ h2.2
    rw [List.all_eq_true] at h1 ⊢
    intro v hv
    rcases List.mem_or_eq_of_mem_set hv with h | h
    · exact h1 v h
    · subst h; exact h2.1

/-- Cells stored one behind the other into a block of one's own. -/
theorem run_store_cells {w : World} {b off : Nat} {c : List Value} {e : TypeId} (hb : w.heap[b]? = some (.cells ⟨c⟩ e (0, 0))) {ys : List Value} (h1 : ys.all one = true) (hl : off + ys.length ≤ c.length) :
    ∃ w', (storeCells ⟨b, off, none⟩ ys).run P w = .ok () w' ∧ w'.os = w.os ∧ w'.tape = w.tape ∧ w'.output = w.output ∧ w'.heap.size = w.heap.size ∧ (∀ k, k ≠ b → w'.heap[k]? = w.heap[k]?) ∧ w'.heap[b]? = some (.cells ⟨splice c off ys⟩ e (0, 0)) := by
  have hr := run_storeCells_at P b off e ys 0 ⟨c⟩ w hb (by simpa using hl) (fun v hv => by rw [← one_eq]; exact List.all_eq_true.1 h1 v hv)
  have hlt : b < w.heap.size := (Array.getElem?_eq_some_iff.1 hb).1
  refine ⟨_, hr, rfl, rfl, rfl, by simp [World.setRow], fun k hk => ?_, ?_⟩
  · simp only [World.setRow, Array.getElem?_modify]
    rw [if_neg (fun e => hk e.symm)]
  · simp only [World.setRow, Array.getElem?_modify, if_true, hb, Option.map_some]
    congr 2
    apply Array.ext'
    simp only [Nat.add_zero]
    apply List.ext_getElem?
    intro j
    rw [splice_get ys c off j hl]
    by_cases hj : off ≤ j ∧ j < off + ys.length
    · rw [if_pos hj, List.append_assoc, List.getElem?_append_right (by simp; omega), List.getElem?_append_left (by simp; omega)]
      congr 1
      simp; omega
    · rw [if_neg hj]
      by_cases h2 : j < off
      · rw [List.append_assoc, List.getElem?_append_left (by simp; omega), List.getElem?_take, if_pos h2]
      · rw [List.getElem?_append_right (by simp; omega), List.getElem?_drop]
        congr 1
        simp; omega

end Go.Gv
