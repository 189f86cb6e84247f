/- The ghost machine is sound: the operations that read and write cells. -/
import Derived.Test.YtjieepgapjbjlaaV4v
namespace Go.Gv
set_option linter.unusedVariables false

variable {P : Program} {N : Nat} {hp : List Nat} {Keep Hide : Nat → Prop} {W0 : World} {β : Nat → Nat} {st : St} {h : GH} {a : Act} {w : World} {K : St → GH → Prop} {o : Oper} {Q : Exit → Act → World → Prop}

/-- What is to be shown of each operation. -/
def Goes (P : Program) (N : Nat) (Keep Hide : Nat → Prop) (W0 : World) (β : Nat → Nat) (o : Oper) (a : Act) (w : World) (K : St → GH → Prop) (Q : Exit → Act → World → Prop) : Prop :=
  o.wp P a w (Post N Keep Hide W0 β o.dst K) Q

theorem goes_value {v : Value} {w' : World} (hrun : (execOp a.eval o).run P w = .ok (.value v) w') (hn : Post N Keep Hide W0 β o.dst K (a.put o.dst v) w') : Goes P N Keep Hide W0 β o a w K Q := wp_value hrun hn
theorem goes_skip {w' : World} (hrun : (execOp a.eval o).run P w = .ok .skip w') (hn : Post N Keep Hide W0 β o.dst K (a.put o.dst undef) w') : Goes P N Keep Hide W0 β o a w K Q := wp_skip' hrun hn

theorem newV_sound {cells : List Value} {e : TypeId} (hk : newV N hp st o.dst cells h K) (hr : Rel N Keep Hide W0 β st h a w)
    (hrun : (execOp a.eval o).run P w = .ok (.value (.pointer (some ⟨w.heap.size, 0, none⟩))) (w.alloc (.cells ⟨cells⟩ e))) : Goes P N Keep Hide W0 β o a w K Q := by
  refine goes_value hrun ?_
  unfold newV at hk
  split at hk
  · exact hk.elim
  · rename_i t hd
    split at hk
    · split at hk
      · have := hk w.heap.size hr.r.fresh
        exact putD_sound this (hr.alloc _ (ok_cells_new cells e)) rfl
      · exact hk.elim
    · split at hk
      · rename_i hb
        have ht : t < N := by simpa [Nat.blt_eq] using hb
        rw [hd]
        exact ⟨_, _, _, hr.priv ht cells e (.loc t 0) (.inl rfl) _ (by simp [FVal.ok]), hk, fun s hs => if_neg fun e => hs (congrArg some e.symm)⟩
      · exact hk.elim

theorem newSl_sound {cells : List Value} {e : TypeId} {n : Nat} (hk : newSl N hp st o.dst n cells h K) (hr : Rel N Keep Hide W0 β st h a w)
    (hrun : (execOp a.eval o).run P w = .ok (.value (.slice (some ⟨w.heap.size, 0, none⟩) n n)) (w.alloc (.cells ⟨cells⟩ e))) : Goes P N Keep Hide W0 β o a w K Q := by
  refine goes_value hrun ?_
  unfold newSl at hk
  split at hk
  · exact hk.elim
  · rename_i t hd
    split at hk
    · split at hk
      · have := hk w.heap.size hr.r.fresh
        exact putD_sound this (hr.alloc _ (ok_cells_new cells e)) rfl
      · exact hk.elim
    · split at hk
      · rename_i hb
        have ht : t < N := by simpa [Nat.blt_eq] using hb
        rw [hd]
        exact ⟨_, _, _, hr.priv ht cells e (.lsl t n) (.inr ⟨n, rfl⟩) _ (by simp [FVal.ok]), hk, fun s hs => if_neg fun e => hs (congrArg some e.symm)⟩
      · exact hk.elim

theorem Rel.load_priv (hr : Rel N Keep Hide W0 β st h a w) {s : Nat} {vs : List Value} (hs : look s st.l = some vs) (off : Nat) : w.cell? ⟨β s, off, none⟩ = vs[off]? := by
  obtain ⟨_, _, _, e, he⟩ := hr.lo s vs hs
  rw [cell_of he]
  simp

theorem R.write (hr : R Keep Hide W0 h w) {b base room : Nat} {vs vs' : List Value} (hb : h b = some (.cells base vs (some room))) (hlen : vs'.length = vs.length)
    {w' : World} {c' : Array Value} {e : TypeId} (hos : w'.os = w.os) (htape : w'.tape = w.tape) (hout : w'.output = w.output) (hsz : w'.heap.size = w.heap.size) (hother : ∀ k, k ≠ b → w'.heap[k]? = w.heap[k]?)
    (hc' : w'.heap[b]? = some (.cells c' e (0, 0))) (hcs : c'.size = room) (hv : ∀ i v, vs'[i]? = some v → one v = true → c'[base + i]? = some v) :
    R Keep Hide W0 (h.set b (.cells base vs' (some room))) w' := by
  obtain ⟨c, e0, fz, h3, h4, h5⟩ := hr.objs b _ hb
  obtain ⟨hfree, hfz, hroom, hle⟩ := h5 room rfl
  refine ⟨by rw [hos, hr.os], by rw [htape, hr.tape], by rw [hout, hr.output], by rw [hsz]; exact hr.size, fun k hk => ?_, fun k hk => ?_, fun k ob hob => ?_⟩
  · have hne : k ≠ b := fun e => hfree (e ▸ hk)
    rw [hother k hne]; exact hr.keep k hk
  · have h6 := hr.hide k hk
    have hne : k ≠ b := fun e => by subst e; rw [h6.1] at hb; exact absurd hb (by simp)
    refine ⟨by simp only [GH.set]; rw [if_neg hne]; exact h6.1, h6.2.1, by rw [hother k hne]; exact h6.2.2⟩
  · simp only [GH.set] at hob
    by_cases hkb : k = b
    · subst hkb
      rw [if_pos rfl, Option.some.injEq] at hob
      subst hob
      exact ⟨c', e, (0, 0), hc', hv, fun room' hr' => by simp only [Option.some.injEq] at hr'; subst hr'; exact ⟨hfree, rfl, hcs, by omega⟩⟩
    · rw [if_neg hkb] at hob
      exact (hr.objs k ob hob).same id (hother k hkb)

theorem Rel.of_heap (hr : Rel N Keep Hide W0 β st h a w) {b : Nat} {g g' : GObj} (hb : h b = some g) {w' : World} (hR : R Keep Hide W0 (h.set b g') w') (hother : ∀ k, k ≠ b → w'.heap[k]? = w.heap[k]?) :
    Rel N Keep Hide W0 β st (h.set b g') a w' :=
  hr.step hR fun s vs hs => by
    have h1 := (hr.lo s vs hs).2.2.1
    have hne : β s ≠ b := fun e => by rw [e, hb] at h1; exact absurd h1 (by simp)
    exact ⟨hother _ hne, by simp only [GH.set]; rw [if_neg hne]; exact h1⟩

/-- A store into the ghost heap, as the world makes it. -/
theorem Wr_sound {p : Addr} {ys : List Value} {KH : GH → Prop} (hk : Wr h p ys KH) (h1 : ys.all one = true) (hr : Rel N Keep Hide W0 β st h a w) :
    ∃ w' h', (storeCells p ys).run P w = .ok () w' ∧ Rel N Keep Hide W0 β st h' a w' ∧ KH h' := by
  obtain ⟨hsp, base, vs, room, hb, hle, hl, hk⟩ := hk
  obtain ⟨c, e0, fz, h3, h4, h5⟩ := hr.r.objs _ _ hb
  obtain ⟨hfree, hfz, hroom, hle2⟩ := h5 room rfl
  subst hfz
  obtain ⟨b, off, sp⟩ := p
  simp only at hsp hb hle hl h3 hk
  subst hsp
  obtain ⟨cl⟩ := c
  have hcl : cl.length = room := by simpa using hroom
  obtain ⟨w', r1, r2, r3, r4, r5, r6, r7⟩ := run_store_cells (P := P) (off := off) h3 h1 (by omega)
  have hR := hr.r.write hb (splice_length ys vs (off - base)) r2 r3 r4 r5 r6 r7 (by simp [splice_length, hcl]) (fun i v hv ho => by
    simp only [List.getElem?_toArray] at h4 ⊢
    rw [splice_get _ _ _ _ (by omega)] at hv ⊢
    by_cases hi : off - base ≤ i ∧ i < off - base + ys.length
    · rw [if_pos hi] at hv
      rw [if_pos (by omega), show base + i - off = i - (off - base) by omega]
      exact hv
    · rw [if_neg hi] at hv
      rw [if_neg (by omega)]
      exact h4 i v hv ho)
  exact ⟨w', _, r1, hr.of_heap hb hR r6, hk⟩

theorem store_sound {t : TypeId} {x y : Operand} {yv : Value} {n : Nat} (ho : o.op = .store t x y) (hy : st.ev y = some (.v yv)) (hS : sizeT P t = some n) (hn : Nat.beq yv.cells.size n = true) (h1 : yv.cells.toList.all one = true)
    (hr : Rel N Keep Hide W0 β st h a w)
    (hk : match st.ev x with
          | some (.loc s off) => match look s st.l with
            | some vs => match Nat.ble (off + n) vs.length with
              | true => putD N { st with l := upd s (splice vs off yv.cells.toList) st.l } o.dst (.v undef) h K
              | false => False
            | none => False
          | some (.v (.pointer (some p))) => Wr h p yv.cells.toList fun h' => putD N st o.dst (.v undef) h' K
          | _ => False) : Goes P N Keep Hide W0 β o a w K Q := by
  have hy' := hr.evv hy
  have hn' := Nat.eq_of_beq_eq_true hn
  split at hk
  · rename_i s off hx
    have hx' := hr.ev hx
    simp only [FVal.ok] at hx'
    split at hk
    · rename_i vs hs
      split at hk
      · rename_i hb
        have hle := Nat.le_of_ble_eq_true hb
        obtain ⟨k1, k2, k3, e, k4⟩ := hr.lo s vs hs
        obtain ⟨w', r1, r2, r3, r4, r5, r6, r7⟩ := run_store_cells (P := P) (off := off) k4 h1 (by simpa [hn'] using hle)
        have hR : R Keep Hide W0 h w' := by
          have h0 := hr.r
          refine ⟨by rw [r2, h0.os], by rw [r3, h0.tape], by rw [r4, h0.output], by rw [r5]; exact h0.size, fun k hk => ?_, fun k hk => ?_, fun b ob hob => ?_⟩
          · rw [r6 k (fun e => k1 (e ▸ hk))]; exact h0.keep k hk
          · rw [r6 k (fun e => k2 (e ▸ hk))]; exact h0.hide k hk
          · have hne : b ≠ β s := fun e => by rw [e, k3] at hob; exact absurd hob (by simp)
            exact (h0.objs b ob hob).same id (r6 b hne)
        have hRel : Rel N Keep Hide W0 β { st with l := upd s (splice vs off yv.cells.toList) st.l } h a w' := by
          refine ⟨hR, hr.sz, hr.df, hr.fr, fun s' us hs' => ?_, fun s1 s2 u1 u2 hs1 hs2 he => ?_⟩
          · rw [look_upd] at hs'
            by_cases hss : s' = s
            · subst hss
              rw [if_pos rfl, Option.some.injEq] at hs'
              subst hs'
              exact ⟨k1, k2, k3, e, r7⟩
            · rw [if_neg hss] at hs'
              obtain ⟨m1, m2, m3, e', m4⟩ := hr.lo s' us hs'
              have hne : β s' ≠ β s := fun e => hss (hr.inj s' s us vs hs' hs e)
              exact ⟨m1, m2, m3, e', by rw [r6 _ hne]; exact m4⟩
          · rw [look_upd] at hs1 hs2
            have g1 : ∃ u, look s1 st.l = some u := by
              by_cases hss : s1 = s
              · subst hss; exact ⟨vs, hs⟩
              · rw [if_neg hss] at hs1; exact ⟨_, hs1⟩
            have g2 : ∃ u, look s2 st.l = some u := by
              by_cases hss : s2 = s
              · subst hss; exact ⟨vs, hs⟩
              · rw [if_neg hss] at hs2; exact ⟨_, hs2⟩
            obtain ⟨v1, g1⟩ := g1
            obtain ⟨v2, g2⟩ := g2
            exact hr.inj s1 s2 v1 v2 g1 g2 he
        refine goes_skip (w' := w') ?_ (putD_sound hk hRel rfl)
        simp [execOp, ho, hx', hy', Instr.storeAt, Instr.sureAddr, storeVar, run_sizeOf_of hS, hn', r1]
      · exact hk.elim
    · exact hk.elim
  · rename_i p hx
    have hx' := hr.evv hx
    obtain ⟨w', h', r1, hRel, hk⟩ := Wr_sound (P := P) hk h1 hr
    refine goes_skip (w' := w') ?_ (putD_sound hk hRel rfl)
    simp [execOp, ho, hx', hy', Instr.storeAt, Instr.sureAddr, storeVar, run_sizeOf_of hS, hn', r1]
  · exact hk.elim

theorem congr_val (hr : Rel N Keep Hide W0 β st h a w) (hk : o.op.operands.toList.all st.known = true) (hs : isSelect o.op = false) : execOp a.eval o = execOp st.val o := by
  refine execOp_congr o (fun cs b e => by rw [e] at hs; simp [isSelect] at hs) fun x hx => ?_
  have h1 := List.all_eq_true.1 hk x (by simpa using hx)
  unfold St.known at h1
  unfold St.val
  split at h1
  · rename_i v hv
    exact hr.evv hv
  · exact absurd h1 (by simp)

/-- A call. -/
theorem call_sound {f : FuncId} {args : Array Value} {T : TypeId} (hrun : (execOp a.eval o).run P w = .ok (.enter f args) w)
    (hk : GC P f args.toList h fun v h' => exT P T fun u => v = u ∧ putD N st o.dst (.v u) h' K) (hr : Rel N Keep Hide W0 β st h a w) : Goes P N Keep Hide W0 β o a w K Q := by
  unfold Goes Oper.wp
  rw [hrun]
  simp only [Oper.upon]
  have h0 := hr.r
  have hR : R Keep (fun k => Hide k ∨ ∃ s vs, look s st.l = some vs ∧ k = β s) w h w := by
    refine ⟨rfl, rfl, rfl, Nat.le_refl _, fun k hk => ⟨by have := (h0.keep k hk).1; have := h0.size; omega, rfl⟩, fun k hk => ?_, h0.objs⟩
    rcases hk with hk | ⟨s, vs, hs, rfl⟩
    · have := h0.hide k hk
      exact ⟨this.1, by have := h0.size; omega, rfl⟩
    · exact ⟨(hr.lo s vs hs).2.2.1, hr.lt hs, rfl⟩
  have hc := hk _ _ _ _ hR
  rw [Array.toArray_toList] at hc
  refine hc.mono fun e w' hh => ?_
  obtain ⟨v, h', he, hR', hk⟩ := hh
  subst he
  obtain ⟨u, hu, hk⟩ := exT_out hk
  subst hu
  have hR2 : R Keep Hide W0 h' w' := by
    refine ⟨hR'.os.trans h0.os, hR'.tape.trans h0.tape, hR'.output.trans h0.output, Nat.le_trans h0.size hR'.size, fun k hk => ?_, fun k hk => ?_, hR'.objs⟩
    · have h1 := h0.keep k hk
      exact ⟨h1.1, (hR'.keep k hk).2.trans h1.2⟩
    · have h1 := h0.hide k hk
      have h2 := hR'.hide k (.inl hk)
      exact ⟨h2.1, h1.2.1, h2.2.2.trans h1.2.2⟩
  have hRel : Rel N Keep Hide W0 β st h' a w' := hr.step hR2 fun s vs hs => by
    have h2 := hR'.hide (β s) (.inr ⟨s, vs, hs, rfl⟩)
    exact ⟨h2.2.2, h2.1⟩
  exact putD_sound hk hRel rfl

theorem gen_sound (hk : genVC P N o st h K) (hr : Rel N Keep Hide W0 β st h a w) : Goes P N Keep Hide W0 β o a w K Q := by
  unfold genVC at hk
  split at hk
  · rename_i hs hall
    have hc := congr_val hr hall hs
    split at hk
    · rename_i v hv
      refine goes_value (v := v) (w' := w) ?_ (putD_sound hk hr rfl)
      rw [hc]; exact pev_run _ hv w
    · rename_i hv
      refine goes_skip (w' := w) ?_ (putD_sound hk hr rfl)
      rw [hc]; exact pev_run _ hv w
    · rename_i f args hv
      refine call_sound (f := f) (args := args) ?_ hk hr
      rw [hc]; exact pev_run _ hv w
    · exact hk.elim
  · exact hk.elim
end Go.Gv
