/- The ghost machine is sound: the other operations. -/
import Derived.Test.YtjieepgapjbjlaaV4
namespace Go.Gv
set_option linter.unusedVariables false

variable {P : Program} {N : Nat} {hp : List Nat} {Keep Hide : Nat → Prop} {W0 : World} {β : Nat → Nat} {st : St} {h : GH} {a : Act} {w : World} {K : St → GH → Prop} {o : Oper} {Q : Exit → Act → World → Prop}

theorem elemT_out {t e : TypeId} (he : elemT P t = some e) : P.underlying t = some (.slice e) := by
  unfold elemT at he
  split at he
  · rename_i e' hu; simp only [Option.some.injEq] at he; subst he; exact hu
  · exact absurd he (by simp)

theorem bytesT_out {t : TypeId} {b : Nat} (he : bytesT P t = some b) : ∃ i, P.info? t = some i ∧ i.bytes = b := Option.map_eq_some_iff.1 he

theorem map_range0 {α : Type} (f : Nat → α) : (Array.range 0).map f = #[] := by apply Array.ext'; simp

theorem buildSlice_sound {t e : TypeId} {n k : Nat} {parts : Array (Nat × Operand)} {z : Value} {cs : Array Value} (ho : o.op = .buildSlice t n parts) (he : elemT P t = some e) (hS : sizeT P e = some k) (hz : zeroT P e = some z)
    (hkn : parts.toList.all (fun p => st.known p.2) = true) (hle : Nat.ble (n * k) 16777216 = true)
    (hfill : Instr.fill (fun i => some (i * k, k)) ((Array.range (n * k)).map (z.cells[· % z.cells.size]!)) (parts.toList.map fun p => (p.1, st.val p.2)) = some cs)
    (hk : newSl N hp st o.dst n cs.toList h K) (hr : Rel N Keep Hide W0 β st h a w) : Goes P N Keep Hide W0 β o a w K Q := by
  have hle' := Nat.le_of_ble_eq_true hle
  have hparts : (parts.map fun (i, x) => (i, a.eval x)).toList = parts.toList.map fun p => (p.1, st.val p.2) := by
    rw [Array.toList_map]
    refine List.map_congr_left fun p hp' => ?_
    have h1 := List.all_eq_true.1 hkn p hp'
    obtain ⟨i, x⟩ := p
    unfold St.known at h1
    unfold St.val
    dsimp only at h1 ⊢
    split at h1
    · rename_i v hv; rw [hr.evv hv]
    · exact absurd h1 (by simp)
  refine newSl_sound (e := e) hk hr ?_
  have hne : ¬ (n * k > 2 ^ 24) := by omega
  by_cases h0 : n * k = 0
  · have hfill' : Instr.fill (fun i => some (i * k, k)) ((Array.range (n * k)).map ((#[] : Array Value)[· % (#[] : Array Value).size]!)) (parts.toList.map fun p => (p.1, st.val p.2)) = some cs := by
      rw [h0, map_range0] at hfill ⊢; exact hfill
    simp only [execOp, ho, Instr.buildSlice, Sem.run_bind, run_underlying (elemT_out he), Result.andThen_ok, run_sizeOf_of hS, if_neg hne, if_pos h0, Sem.run_pure, hparts, hfill', newRow, run_newObj_alloc, Array.toArray_toList]
  · simp only [execOp, ho, Instr.buildSlice, Sem.run_bind, run_underlying (elemT_out he), Result.andThen_ok, run_sizeOf_of hS, if_neg hne, if_neg h0, Sem.run_pure, run_zero_of hz, hparts, hfill, newRow, run_newObj_alloc, Array.toArray_toList]

theorem zeros_eq {z : Value} {k : Nat} (hz : z.cells.size = k) (n : Nat) (hk0 : n * k ≠ 0) : (Array.range (n * k)).map (z.cells[· % z.cells.size]!) = (List.replicate n z.cells.toList).flatten.toArray := by
  subst hz
  apply Array.ext'
  simp only [Array.toList_map, Array.toList_range]
  have hkp : 0 < z.cells.size := Nat.pos_of_ne_zero fun e => hk0 (by rw [e, Nat.mul_zero])
  clear hk0
  induction n with
  | zero => simp
  | succ n ih =>
    rw [Nat.succ_mul, List.range_add, List.map_append, ih, List.replicate_succ', List.flatten_append]
    congr 1
    simp only [List.map_map, List.flatten_cons, List.flatten_nil, List.append_nil]
    apply List.ext_getElem?
    intro j
    simp only [List.getElem?_map]
    by_cases hj : j < z.cells.size
    · rw [List.getElem?_range hj, List.getElem?_eq_getElem (by simpa using hj)]
      simp only [Option.map_some, Function.comp_apply, Nat.mul_add_mod_self_right, Nat.mod_eq_of_lt hj]
      simp [hj]
    · rw [List.getElem?_eq_none (by simpa using hj), List.getElem?_eq_none (by simpa using hj)]
      rfl

theorem zeros_one {z : Value} (h1 : z.cells.toList.all one = true) (n : Nat) : ((List.replicate n z.cells.toList).flatten).all one = true := by
  rw [List.all_eq_true] at h1 ⊢
  intro v hv
  rw [List.mem_flatten] at hv
  obtain ⟨l, hl, hv⟩ := hv
  rw [List.mem_replicate] at hl
  exact h1 v (hl.2 ▸ hv)

theorem wrap_i64 {n : Int} (h0 : -9223372036854775808 ≤ n) (h1 : n ≤ 9223372036854775807) : IntKind.i64.wrap n = n := by
  unfold IntKind.wrap
  simp [IntKind.signed, IntKind.bits]
  split <;> omega

theorem makeSlice_sound {t e : TypeId} {lx cx : Operand} {k bs : Nat} {z : Value} {kl kc : IntKind} {l c : Int} (ho : o.op = .makeSlice t lx cx) (he : elemT P t = some e) (hS : sizeT P e = some k) (hz : zeroT P e = some z) (hB : bytesT P e = some bs)
    (hl : st.ev lx = some (.v (.int kl l))) (hc : st.ev cx = some (.v (.int kc c))) (hzs : Nat.beq z.cells.size k = true) (h1 : z.cells.toList.all one = true) (hb1 : Nat.ble 1 bs = true)
    (hk : 0 ≤ l ∧ l ≤ c ∧ c * (bs : Int) ≤ 140737488355328 ∧ ∀ b, h b = none → putD N st o.dst (.v (.slice (some ⟨b, 0, none⟩) l.toNat c.toNat)) (h.set b (.cells 0 (List.replicate c.toNat z.cells.toList).flatten (some (c.toNat * k)))) K)
    (hr : Rel N Keep Hide W0 β st h a w) : Goes P N Keep Hide W0 β o a w K Q := by
  have hl' := hr.evv hl
  have hc' := hr.evv hc
  obtain ⟨k0, k1, k2, hk⟩ := hk
  have hzs' := Nat.eq_of_beq_eq_true hzs
  have hbs := Nat.le_of_ble_eq_true hb1
  obtain ⟨i, hi, hib⟩ := bytesT_out hB
  have hcb : c ≤ 140737488355328 := by
    have : c * 1 ≤ c * (bs : Int) := Int.mul_le_mul_of_nonneg_left (by omega) (by omega)
    omega
  have hlen : ((List.replicate c.toNat z.cells.toList).flatten).length = c.toNat * k := by simp [List.length_flatten, hzs']
  have hw1 := wrap_i64 (n := l) (by omega) (by omega)
  have hw2 := wrap_i64 (n := c) (by omega) (by omega)
  have hmul : (bs : Int) * c ≤ 140737488355328 := by rw [Int.mul_comm]; exact k2
  refine goes_value (v := .slice (some ⟨w.heap.size, 0, none⟩) l.toNat c.toNat) (w' := w.alloc (.cells ⟨(List.replicate c.toNat z.cells.toList).flatten⟩ e)) ?_ ?_
  · have hcond : ¬ ((decide (c < 0) || decide ((bs : Int) * c > 2 ^ 48)) || decide (l < 0) || decide (l > c)) = true := by
      simp; omega
    have hcond2 : ((decide (c < 0) || decide ((i.bytes : Int) * c > 2 ^ 48)) || decide (l < 0) || decide (l > c)) = false := by
      rw [hib]; simpa using hcond
    by_cases h0 : c.toNat * k = 0
    · have e0 : ((Array.range (c.toNat * k)).map ((#[] : Array Value)[· % (#[] : Array Value).size]!)) = ⟨(List.replicate c.toNat z.cells.toList).flatten⟩ := by
        have : (List.replicate c.toNat z.cells.toList).flatten = [] := List.eq_nil_of_length_eq_zero (by rw [hlen, h0])
        rw [this, h0, map_range0]
      simp only [execOp, ho, Instr.makeSlice, Sem.run_bind, run_underlying (elemT_out he), Result.andThen_ok, hl', hc', asInt, asIntOf, Sem.run_pure, run_typeInfo_of hi, hw1, hw2, hcond2, Bool.false_eq_true, if_false, run_askRoom, run_sizeOf_of hS, if_pos h0, newRow, run_newObj_alloc, e0]
    · have e0 : ((Array.range (c.toNat * k)).map (z.cells[· % z.cells.size]!)) = ⟨(List.replicate c.toNat z.cells.toList).flatten⟩ := zeros_eq hzs' _ h0
      simp only [execOp, ho, Instr.makeSlice, Sem.run_bind, run_underlying (elemT_out he), Result.andThen_ok, hl', hc', asInt, asIntOf, Sem.run_pure, run_typeInfo_of hi, hw1, hw2, hcond2, Bool.false_eq_true, if_false, run_askRoom, run_sizeOf_of hS, if_neg h0, run_zero_of hz, newRow, run_newObj_alloc, e0]
  · have := hk w.heap.size hr.r.fresh
    have h2 := hr.alloc (.cells ⟨(List.replicate c.toNat z.cells.toList).flatten⟩ e) (ok_cells_new _ e)
    rw [hlen] at h2
    exact putD_sound this h2 rfl
end Go.Gv
