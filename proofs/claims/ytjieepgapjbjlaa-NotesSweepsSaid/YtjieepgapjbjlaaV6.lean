/- The ghost machine is sound: append, copy, maps, the rest; an operation, whatever it is. -/
import Derived.Test.YtjieepgapjbjlaaV5
import Derived.Laws.Append
namespace Go.Gv
set_option linter.unusedVariables false

variable {P : Program} {N : Nat} {hp : List Nat} {Keep Hide : Nat → Prop} {W0 : World} {β : Nat → Nat} {st : St} {h : GH} {a : Act} {w : World} {K : St → GH → Prop} {o : Oper} {Q : Exit → Act → World → Prop}

/-! ### append -/

theorem newRaw_ok (ob : Obj) (hp : Obj.plain ob = true) : GObj.ok True w.heap.size (w.alloc ob) (.raw ob) := ⟨trivial, hp, heap_alloc_same _ _⟩

theorem firstCells_of (hr : Rel N Keep Hide W0 β st h a w) {b : Option Addr} {Y : List Value} {n c k : Nat} (hl : Y.length = n * k) (hY : RdsO h b Y) : (Builtin.firstCells k n (.slice b n c)).run P w = .ok ⟨Y⟩ w := by
  cases b with
  | none => simp only [RdsO] at hY; subst hY; rfl
  | some p => simp only [RdsO] at hY; simp only [Builtin.firstCells]; exact hr.r.load_cells hY hl

/-- What a source gives. -/
theorem Src_out {x : FVal} {xv : Value} {k : Nat} {KS : List Value → Nat → Prop} (hk : Src st h x k KS) (hx : x.ok β xv) (hr : Rel N Keep Hide W0 β st h a w) :
    ∃ Y m, KS Y m ∧ Y.length = m * k ∧ Y.all one = true ∧ (Builtin.lenOf xv).run P w = .ok m w ∧ (∀ q, (Builtin.firstCells k m xv).run P { w with drawn := q } = .ok ⟨Y⟩ { w with drawn := q }) := by
  unfold Src at hk
  split at hk
  · rename_i s n
    simp only [FVal.ok] at hx
    subst hx
    split at hk
    · rename_i vs hs
      split at hk
      · rename_i hb h1
        have hb' := Nat.eq_of_beq_eq_true hb
        refine ⟨vs, n, hk, hb', h1, rfl, fun q => ?_⟩
        have hl := run_loadCells_list (P := P) { w with drawn := q } ⟨β s, 0, none⟩ vs (fun j v hv => by
          rw [addr_add rfl, (hr.drew q).load_priv hs]; simpa using hv)
        rw [hb'] at hl
        exact hl
      · exact hk.elim
    · exact hk.elim
  · rename_i b n c
    simp only [FVal.ok] at hx
    subst hx
    obtain ⟨Y, hl, hY, hk⟩ := hk
    refine ⟨Y, n, hk, hl, ?_, rfl, fun q => firstCells_of (hr.drew q) hl hY⟩
    cases b with
    | none => simp only [RdsO] at hY; subst hY; rfl
    | some p => exact hr.r.rds_one hY
  · rename_i s
    simp only [FVal.ok] at hx
    subst hx
    split at hk
    · rename_i hb
      have hb' := Nat.eq_of_beq_eq_true hb
      subst hb'
      refine ⟨_, s.size, hk, by simp, ?_, rfl, fun q => ?_⟩
      · rw [List.all_eq_true]; intro v hv; obtain ⟨b, _, rfl⟩ := List.mem_map.1 hv; rfl
      · have : s.extract 0 s.size = s := by
          apply ByteArray.ext
          simp
        simp only [Builtin.firstCells, this, Sem.run_pure]
        congr 1
        apply Array.ext'
        simp
    · exact hk.elim
  · exact hk.elim

theorem R.del (hr : R Keep Hide W0 h w) (b : Nat) : R Keep Hide W0 (h.del b) w :=
  ⟨hr.os, hr.tape, hr.output, hr.size, hr.keep, fun k hk => by
    have h1 := hr.hide k hk
    refine ⟨?_, h1.2⟩
    simp only [GH.del]
    split
    · rfl
    · exact h1.1, fun k o hk => by
    simp only [GH.del] at hk
    split at hk
    · exact absurd hk (by simp)
    · exact hr.objs k o hk⟩

theorem Rel.del (hr : Rel N Keep Hide W0 β st h a w) (b : Nat) : Rel N Keep Hide W0 β st (h.del b) a w :=
  hr.step (hr.r.del b) fun s vs hs => ⟨rfl, by
    simp only [GH.del]
    split
    · rfl
    · exact (hr.lo s vs hs).2.2.1⟩

/-- The run of an append that makes a new array. -/
theorem append_grow_run {sT xT T e : TypeId} {k bs n c m : Nat} {z : Value} {b : Option Addr} {X Y : List Value} {xv : Value} {xd : TypeDesc} (hu : P.underlying sT = some (.slice e)) (hxd : P.underlying xT = some xd) (hxi : notInt xd = true)
    (hS : sizeT P e = some k) (hB : bytesT P e = some bs) (hz : zeroT P e = some z) (hb1 : 1 ≤ bs) (hzs : z.cells.size = k) (hX : ∀ q, (Builtin.firstCells k n (.slice b n c)).run P { w with drawn := q } = .ok ⟨X⟩ { w with drawn := q })
    (hlen : (Builtin.lenOf xv).run P w = .ok m w) (hY : ∀ q, (Builtin.firstCells k m xv).run P { w with drawn := q } = .ok ⟨Y⟩ { w with drawn := q }) (hbd : (n + m) * bs ≤ 140737488355328) (hlt : c < n + m) :
    ∃ c', n + m ≤ c' ∧ (Builtin.append_ #[sT, xT] T #[.slice b n c, xv]).run P w = .ok (.slice (some ⟨w.heap.size, 0, none⟩) (n + m) c') (({ w with drawn := w.drawn + 1 } : World).alloc (.cells ⟨X ++ Y ++ (List.replicate (c' - (n + m)) z.cells.toList).flatten⟩ e)) := by
  obtain ⟨i, hi, hib⟩ := bytesT_out hB
  refine ⟨(Question.appendCap (n + m) c e).cut (w.tape w.drawn (.appendCap (n + m) c e)), by simp only [Question.cut]; omega, ?_⟩
  have h2 : ¬ (n + m ≤ c) := by omega
  have hfit := growslice_fits hlt hbd
  have h3 : ¬ (Builtin.nextslicecap (n + m) c * i.bytes > 2 ^ 48) := by rw [hib]; omega
  have h4 : ¬ (((n + m : Nat) : Int) > IntKind.i64.max ∧ (False ∨ i.bytes = 0)) := by
    rintro ⟨_, h⟩
    rcases h with h | h
    · exact h
    · omega
  have hrest : Builtin.zeroCells z.cells ((Question.appendCap (n + m) c e).cut (w.tape w.drawn (.appendCap (n + m) c e)) - (n + m)) = ⟨(List.replicate ((Question.appendCap (n + m) c e).cut (w.tape w.drawn (.appendCap (n + m) c e)) - (n + m)) z.cells.toList).flatten⟩ := by
    unfold Builtin.zeroCells
    by_cases h0 : ((Question.appendCap (n + m) c e).cut (w.tape w.drawn (.appendCap (n + m) c e)) - (n + m)) * z.cells.size = 0
    · rw [h0, map_range0]
      have : (List.replicate ((Question.appendCap (n + m) c e).cut (w.tape w.drawn (.appendCap (n + m) c e)) - (n + m)) z.cells.toList).flatten = [] := List.eq_nil_of_length_eq_zero (by simpa [List.length_flatten] using h0)
      rw [this]
    · exact zeros_eq rfl _ h0
  cases xd
  case int => exact absurd hxi (by simp [notInt])
  all_goals
    simp only [Builtin.append_, List.getElem?_toArray, List.getElem?_cons_zero, List.getElem?_cons_succ, Sem.run_bind, run_underlying hu, Result.andThen_ok, run_sizeOf_of hS, run_underlying hxd, Sem.run_pure, Bool.false_eq_true, if_false, hlen, if_neg h2,
      run_typeInfo_of hi, if_neg h3, if_neg h4, run_choose, Question.forced, run_askRoom, Bool.not_false, if_true, run_zero_of hz, hrest, newRow, run_newObj_alloc]
    rw [hX (w.drawn + 1)]
    simp only [Result.andThen_ok]
    rw [hY (w.drawn + 1)]
    simp

/-- The run of an append that finds room. -/
theorem append_fits_run {sT xT T e : TypeId} {k n c m : Nat} {b : Option Addr} {Y : List Value} {xv : Value} {xd : TypeDesc} {w' : World} (hu : P.underlying sT = some (.slice e)) (hxd : P.underlying xT = some xd) (hxi : notInt xd = true)
    (hS : sizeT P e = some k) (hlen : (Builtin.lenOf xv).run P w = .ok m w) (hY : (Builtin.firstCells k m xv).run P w = .ok ⟨Y⟩ w) (hle : n + m ≤ c)
    (hst : (match b with | none => pure () | some p => storeCells (p.add (n * k)) Y : Sem Unit).run P w = .ok () w') :
    (Builtin.append_ #[sT, xT] T #[.slice b n c, xv]).run P w = .ok (.slice b (n + m) c) w' := by
  cases xd
  case int => exact absurd hxi (by simp [notInt])
  all_goals
    simp only [Builtin.append_, List.getElem?_toArray, List.getElem?_cons_zero, List.getElem?_cons_succ, Sem.run_bind, run_underlying hu, Result.andThen_ok, run_sizeOf_of hS, run_underlying hxd, Sem.run_pure, Bool.false_eq_true, if_false, hlen, if_pos hle, Bool.not_false, if_true, hY]
    cases b with
    | none =>
      simp only [Sem.run_pure] at hst
      injection hst with _ hst
      subst hst
      simp only [Sem.run_pure]
    | some p =>
      simp only at hst
      simp only [Sem.run_bind, hst, Result.andThen_ok, Sem.run_pure]

set_option maxHeartbeats 1000000 in
theorem append_sound {c : Call} {sT xT e : TypeId} {s x : Operand} {b : Option Addr} {n cp k bs : Nat} {xv : FVal} {z : Value} {xd : TypeDesc} (ho : o.op = .call c) (hcal : c.callee = .builtin .append) (hat : c.argTypes.toList = [sT, xT]) (har : c.args.toList = [s, x])
    (he : elemT P sT = some e) (hs : st.ev s = some (.v (.slice b n cp))) (hx : st.ev x = some xv) (hxd : P.underlying xT = some xd) (hS : sizeT P e = some k) (hB : bytesT P e = some bs) (hz : zeroT P e = some z)
    (hb1 : Nat.ble 1 bs = true) (hzs : Nat.beq z.cells.size k = true) (hz1 : z.cells.toList.all one = true) (hxi : notInt xd = true)
    (hk : Src st h xv k fun Y m => AppK h b n cp k bs Y m fun a' c' h' => putD N st o.dst (.v (.slice a' (n + m) c')) h' K)
    (hr : Rel N Keep Hide W0 β st h a w) : Goes P N Keep Hide W0 β o a w K Q := by
  have hs' := hr.evv hs
  have hx' := hr.ev hx
  have hb1' := Nat.le_of_ble_eq_true hb1
  have hzs' := Nat.eq_of_beq_eq_true hzs
  obtain ⟨Y, m, hk, hYl, hY1, hlen, hYr⟩ := Src_out (P := P) hk hx' hr
  obtain ⟨cal, args, argTypes⟩ := c
  simp only at hcal hat har
  subst hcal
  have har' : args = #[s, x] := by apply Array.ext'; simpa using har
  have hat' : argTypes = #[sT, xT] := by apply Array.ext'; simpa using hat
  subst har' hat'
  obtain ⟨hbd, hk⟩ := hk
  have hrun : ∀ r w', (Builtin.append_ #[sT, xT] o.type #[.slice b n cp, a.eval x]).run P w = .ok r w' → (execOp a.eval o).run P w = .ok (.value r) w' := by
    intro r w' hr0
    simp [execOp, ho, resolve, hs', invoke, builtin, hr0]
  cases b with
  | none =>
    obtain ⟨rfl, rfl, hk0, hk1⟩ := hk
    by_cases hm : m = 0
    · subst hm
      have hY0 : Y = [] := List.eq_nil_of_length_eq_zero (by simpa using hYl)
      subst hY0
      refine goes_value (hrun (.slice none 0 0) w ?_) (putD_sound (hk0 rfl) hr rfl)
      exact append_fits_run (elemT_out he) hxd hxi hS hlen (hYr w.drawn) (Nat.le_refl _) rfl
    · obtain ⟨c', hc', hg⟩ := append_grow_run (P := P) (T := o.type) (b := none) (X := []) (elemT_out he) hxd hxi hS hB hz hb1' hzs' (n := 0) (c := 0) (fun q => rfl) hlen hYr hbd (by omega)
      have hk2 := hk1 (by omega) w.heap.size c' hr.r.fresh (by omega)
      refine goes_value (hrun _ _ hg) (putD_sound (β := β) hk2 ?_ rfl)
      refine (hr.drew (w.drawn + 1)).alloc _ ⟨_, _, _, heap_alloc_same _ _, fun i v hv _ => ?_, fun room hroom => ?_⟩
      · have hi := (List.getElem?_eq_some_iff.1 hv).1
        simp only [List.nil_append, Nat.zero_add, List.getElem?_toArray]
        rw [List.getElem?_append_left hi]; exact hv
      · simp only [Option.some.injEq] at hroom
        subst hroom
        have hge : m ≤ c' := by omega
        have e1 : m * k + (c' - m) * k = c' * k := by rw [← Nat.add_mul, Nat.add_sub_cancel' hge]
        have e2 : m * k ≤ c' * k := Nat.mul_le_mul_right _ hge
        refine ⟨trivial, rfl, ?_, by omega⟩
        simp [List.length_flatten, hzs', hYl]
        omega
  | some p =>
    obtain ⟨X, hXl, hX, hk⟩ := hk
    have hXr : ∀ q, (Builtin.firstCells k n (.slice (some p) n cp)).run P { w with drawn := q } = .ok ⟨X⟩ { w with drawn := q } := fun q => firstCells_of (c := cp) (hr.drew q) hXl hX
    have hX1 := hr.r.rds_one hX
    have hXY1 : (X ++ Y).all one = true := by rw [List.all_append, hX1, hY1]; rfl
    have hXYl : (X ++ Y).length = (n + m) * k := by rw [List.length_append, hXl, hYl, Nat.add_mul]
    -- the new array, whatever became of the old one
    have grow : cp < n + m → ∀ h' : GH, Rel N Keep Hide W0 β st h' a w →
        (∀ b c', h' b = none → n + m ≤ c' → putD N st o.dst (.v (.slice (some ⟨b, 0, none⟩) (n + m) c')) (h'.set b (.cells 0 (X ++ Y) (some (c' * k)))) K) → Goes P N Keep Hide W0 β o a w K Q := by
      intro hlt h' hr' hk
      obtain ⟨c', hc', hg⟩ := append_grow_run (P := P) (T := o.type) (elemT_out he) hxd hxi hS hB hz hb1' hzs' hXr hlen hYr hbd hlt
      have hk2 := hk w.heap.size c' hr'.r.fresh hc'
      refine goes_value (hrun _ _ hg) (putD_sound (β := β) hk2 ?_ rfl)
      refine (hr'.drew (w.drawn + 1)).alloc _ ⟨_, _, _, heap_alloc_same _ _, fun i v hv _ => ?_, fun room hroom => ?_⟩
      · have hi := (List.getElem?_eq_some_iff.1 hv).1
        simp only [Nat.zero_add, List.getElem?_toArray]
        rw [List.getElem?_append_left hi]; exact hv
      · simp only [Option.some.injEq] at hroom
        subst hroom
        have e1 : (n + m) * k + (c' - (n + m)) * k = c' * k := by rw [← Nat.add_mul, Nat.add_sub_cancel' hc']
        have e2 : (n + m) * k ≤ c' * k := Nat.mul_le_mul_right _ hc'
        refine ⟨trivial, rfl, ?_, by omega⟩
        have e3 : ((X ++ Y) ++ (List.replicate (c' - (n + m)) z.cells.toList).flatten).length = c' * k := by
          rw [List.length_append, hXYl]; simp [List.length_flatten, hzs']; omega
        simpa using e3
    rcases hk with ⟨base, vs, room, hb, hbase, hroom, hncp, hin⟩ | ⟨hlt, hk⟩
    · by_cases hlt : cp < n + m
      · refine grow hlt (h.del p.block) (hr.del p.block) fun b c' hb' hc' => hin b 0 c' (c' * k) hb' hc' (by omega)
      · -- in place
        obtain ⟨bb, off, sp⟩ := p
        have hsp := hX.1
        simp only at hsp hb hbase hroom hin
        subst hsp
        obtain ⟨c, e0, fz, h3, h4, h5⟩ := hr.r.objs _ _ hb
        obtain ⟨hfree, hfz, hroom', hle2⟩ := h5 room rfl
        subst hfz
        obtain ⟨cl⟩ := c
        have hcl : cl.length = room := by simpa using hroom'
        have hmul : (n + m) * k ≤ cp * k := Nat.mul_le_mul_right _ (by omega)
        have hnm : (n + m) * k = n * k + m * k := Nat.add_mul _ _ _
        obtain ⟨w', r1, r2, r3, r4, r5, r6, r7⟩ := run_store_cells (P := P) (off := off + n * k) h3 hY1 (by omega)
        have hk2 := hin bb off cp room (by simp [GH.del]) (by omega) (by omega)
        have hstore : (storeCells ((⟨bb, off, none⟩ : Addr).add (n * k)) Y).run P w = .ok () w' := by rw [addr_add rfl]; exact r1
        have e1 := hYr w.drawn
        refine goes_value (hrun (.slice (some ⟨bb, off, none⟩) (n + m) cp) w' ?_) (putD_sound (β := β) hk2 ?_ rfl)
        · have hle : n + m ≤ cp := by omega
          exact append_fits_run (elemT_out he) hxd hxi hS hlen e1 hle hstore
        · have hR : R Keep Hide W0 ((h.del bb).set bb (.cells off (X ++ Y) (some room))) w' := by
            have h0 := hr.r
            refine ⟨by rw [r2, h0.os], by rw [r3, h0.tape], by rw [r4, h0.output], by rw [r5]; exact h0.size, fun q hq => ?_, fun q hq => ?_, fun q ob hob => ?_⟩
            · rw [r6 q (fun e => hfree (e ▸ hq))]; exact h0.keep q hq
            · have h6 := h0.hide q hq
              have hne : q ≠ bb := fun e => by subst e; rw [h6.1] at hb; exact absurd hb (by simp)
              exact ⟨by simp only [GH.set, GH.del]; rw [if_neg hne, if_neg hne]; exact h6.1, h6.2.1, by rw [r6 q hne]; exact h6.2.2⟩
            · simp only [GH.set, GH.del] at hob
              by_cases hq : q = bb
              · subst hq
                rw [if_pos rfl, Option.some.injEq] at hob
                subst hob
                refine ⟨_, _, _, r7, fun i v hv _ => ?_, fun room' hr' => ?_⟩
                · simp only [List.getElem?_toArray]
                  rw [splice_get _ _ _ _ (by omega)]
                  by_cases hi : i < n * k
                  · rw [if_neg (by omega)]
                    rw [List.getElem?_append_left (by omega)] at hv
                    have hc := (h0.cell (hX.2 i v hv)).1
                    rw [cell_of h3] at hc
                    simpa using hc
                  · have hi2 : i < (X ++ Y).length := (List.getElem?_eq_some_iff.1 hv).1
                    rw [hXYl] at hi2
                    rw [if_pos (by omega)]
                    rw [List.getElem?_append_right (by omega), hXl] at hv
                    rw [show off + i - (off + n * k) = i - n * k by omega]
                    exact hv
                · simp only [Option.some.injEq] at hr'
                  subst hr'
                  exact ⟨hfree, rfl, by simp [splice_length, hcl], by omega⟩
              · rw [if_neg hq, if_neg hq] at hob
                exact (h0.objs q ob hob).same id (r6 q hq)
          refine hr.step hR fun s' vs' hs' => ?_
          have h1 := (hr.lo s' vs' hs').2.2.1
          have hne : β s' ≠ bb := fun e => by rw [e, hb] at h1; exact absurd h1 (by simp)
          exact ⟨r6 _ hne, by simp only [GH.set, GH.del]; rw [if_neg hne, if_neg hne]; exact h1⟩
    · exact grow hlt h hr hk
end Go.Gv
