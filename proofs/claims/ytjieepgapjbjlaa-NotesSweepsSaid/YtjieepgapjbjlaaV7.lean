/- The ghost machine is sound: copy, maps, the rest; an operation, whatever it is. -/
import Derived.Test.YtjieepgapjbjlaaV6
namespace Go.Gv
set_option linter.unusedVariables false

variable {P : Program} {N : Nat} {hp : List Nat} {Keep Hide : Nat → Prop} {W0 : World} {β : Nat → Nat} {st : St} {h : GH} {a : Act} {w : World} {K : St → GH → Prop} {o : Oper} {Q : Exit → Act → World → Prop}

theorem copy_sound {c : Call} {dT xT e : TypeId} {d x : Operand} {b : Option Addr} {n cp k sn : Nat} {xv : FVal} (ho : o.op = .call c) (hcal : c.callee = .builtin .copy) (hat : c.argTypes.toList = [dT, xT]) (har : c.args.toList = [d, x])
    (he : elemT P dT = some e) (hd : st.ev d = some (.v (.slice b n cp))) (hx : st.ev x = some xv) (hS : sizeT P e = some k)
    (hsn : (∃ b' c', xv = .v (.slice b' sn c')) ∨ ∃ s, xv = .v (.string s) ∧ sn = s.size)
    (hk : copyVC st h b n k xv sn fun v h' => putD N st o.dst (.v v) h' K)
    (hr : Rel N Keep Hide W0 β st h a w) : Goes P N Keep Hide W0 β o a w K Q := by
  have hd' := hr.evv hd
  have hx' := hr.ev hx
  obtain ⟨cal, args, argTypes⟩ := c
  simp only at hcal hat har
  subst hcal
  have har' : args = #[d, x] := by apply Array.ext'; simpa using har
  have hat' : argTypes = #[dT, xT] := by apply Array.ext'; simpa using hat
  subst har' hat'
  obtain ⟨hk0, hk1⟩ := hk
  have hrun : ∀ r w', (Builtin.copy_ #[dT, xT] o.type #[.slice b n cp, a.eval x]).run P w = .ok r w' → (execOp a.eval o).run P w = .ok (.value r) w' := by
    intro r w' hr0
    simp [execOp, ho, resolve, hd', invoke, builtin, hr0]
  have hlen : (Builtin.lenOf (a.eval x)).run P w = .ok sn w := by
    rcases hsn with ⟨b', c', rfl⟩ | ⟨s, rfl, rfl⟩
    · simp only [FVal.ok] at hx'; rw [hx']; rfl
    · simp only [FVal.ok] at hx'; rw [hx']; rfl
  have hcopy : ∀ (Y : List Value) (w' : World), (Builtin.firstCells k (Nat.min sn n) (a.eval x)).run P w = .ok ⟨Y⟩ w → (match b with | none => pure () | some p => storeCells p Y : Sem Unit).run P w = .ok () w' →
      (Builtin.copy_ #[dT, xT] o.type #[.slice b n cp, a.eval x]).run P w = .ok (goInt (Nat.min sn n : Nat)) w' := by
    intro Y w' hf hst
    simp only [Builtin.copy_, List.getElem?_toArray, List.getElem?_cons_zero, List.getElem?_cons_succ, Sem.run_bind, run_underlying (elemT_out he), Result.andThen_ok, hlen, run_sizeOf_of hS, hf]
    cases b with
    | none =>
      simp only [Sem.run_pure] at hst
      injection hst with _ hst
      subst hst
      simp only [Sem.run_pure]
    | some p =>
      simp only at hst
      simp only [Sem.run_bind, hst, Result.andThen_ok, Sem.run_pure]
  by_cases h0 : Nat.min sn n = 0
  · refine goes_value (hrun _ w (hcopy [] w ?_ ?_)) ?_
    · rw [h0]
      rcases hsn with ⟨b', c', rfl⟩ | ⟨s, rfl, rfl⟩
      · simp only [FVal.ok] at hx'; rw [hx']
        cases b' with
        | none => rfl
        | some p => simp [Builtin.firstCells, loadCells, loadCellsFrom]
      · simp only [FVal.ok] at hx'; rw [hx']
        simp [Builtin.firstCells]
    · cases b <;> simp [storeCells]
    · rw [h0]; exact putD_sound (hk0 h0) hr rfl
  · obtain ⟨Y, hYl, hY, hk2⟩ := hk1 (by omega)
    cases b with
    | none => exact hk2.elim
    | some p =>
      have hf : (Builtin.firstCells k (Nat.min sn n) (a.eval x)).run P w = .ok ⟨Y⟩ w ∧ Y.all one = true := by
        rcases hsn with ⟨b', c', rfl⟩ | ⟨s, rfl, rfl⟩
        · simp only [FVal.ok] at hx'; rw [hx']
          simp only at hY
          cases b' with
          | none =>
            simp only [RdsO] at hY
            subst hY
            exact ⟨rfl, rfl⟩
          | some q =>
            simp only [RdsO] at hY
            exact ⟨by simp only [Builtin.firstCells]; exact hr.r.load_cells hY hYl, hr.r.rds_one hY⟩
        · simp only [FVal.ok] at hx'; rw [hx']
          simp only at hY
          obtain ⟨rfl, rfl⟩ := hY
          refine ⟨?_, ?_⟩
          · simp only [Builtin.firstCells, Sem.run_pure]
            congr 1
            apply Array.ext'
            simp
          · rw [List.all_eq_true]; intro v hv; obtain ⟨b, _, rfl⟩ := List.mem_map.1 hv; rfl
      obtain ⟨w', h', r1, hRel, hk3⟩ := Wr_sound (P := P) hk2 hf.2 hr
      exact goes_value (hrun _ w' (hcopy Y w' hf.1 r1)) (putD_sound hk3 hRel rfl)

/-! ### Maps -/

theorem R.raw (hr : R Keep Hide W0 h w) {b : Nat} {ob : Obj} (hb : h b = some (.raw ob)) : w.heap[b]? = some ob ∧ Obj.plain ob = true ∧ ¬ Keep b := by
  obtain ⟨h1, h2, h3⟩ := hr.objs b _ hb
  exact ⟨h3, h2, h1⟩

theorem run_getObj_raw {b : Nat} {ob : Obj} (hb : w.heap[b]? = some ob) (hp : Obj.plain ob = true) : (getObj b).run P w = .ok ob w := by
  cases ob <;> simp [Obj.plain] at hp <;> simp [getObj, Sem.run, hb]

theorem run_setObj_raw {b : Nat} {ob ob' : Obj} (hb : w.heap[b]? = some ob) (hp : Obj.plain ob = true) : (setObj b ob').run P w = .ok () { w with heap := w.heap.setIfInBounds b ob' } := by
  cases ob <;> simp [Obj.plain] at hp <;> simp [setObj, Sem.run, hb]

theorem Rel.setRaw (hr : Rel N Keep Hide W0 β st h a w) {b : Nat} {ob ob' : Obj} (hb : h b = some (.raw ob)) (hp' : Obj.plain ob' = true) : Rel N Keep Hide W0 β st (h.set b (.raw ob')) a { w with heap := w.heap.setIfInBounds b ob' } := by
  obtain ⟨h1, h2, h3⟩ := hr.r.raw hb
  have hlt := hr.r.lt hb
  have hother : ∀ k, k ≠ b → (w.heap.setIfInBounds b ob')[k]? = w.heap[k]? := fun k hk => Array.getElem?_setIfInBounds_ne (fun e => hk e.symm)
  have hR : R Keep Hide W0 (h.set b (.raw ob')) { w with heap := w.heap.setIfInBounds b ob' } := by
    have h0 := hr.r
    refine ⟨h0.os, h0.tape, h0.output, by simpa using h0.size, fun k hk => ?_, fun k hk => ?_, fun k o hk => ?_⟩
    · have hne : k ≠ b := fun e => h3 (e ▸ hk)
      show k < _ ∧ (w.heap.setIfInBounds b ob')[k]? = _
      rw [hother k hne]; exact h0.keep k hk
    · have h6 := h0.hide k hk
      have hne : k ≠ b := fun e => by subst e; rw [h6.1] at hb; exact absurd hb (by simp)
      refine ⟨by simp only [GH.set]; rw [if_neg hne]; exact h6.1, h6.2.1, ?_⟩
      show (w.heap.setIfInBounds b ob')[k]? = _
      rw [hother k hne]; exact h6.2.2
    · simp only [GH.set] at hk
      by_cases hkb : k = b
      · subst hkb
        rw [if_pos rfl, Option.some.injEq] at hk
        subst hk
        exact ⟨h3, hp', by show (w.heap.setIfInBounds k ob')[k]? = _; simp [hlt]⟩
      · rw [if_neg hkb] at hk
        exact (h0.objs k o hk).same id (hother k hkb)
  exact hr.of_heap hb hR hother

theorem newRaw_sound {ob : Obj} {v : Nat → Value} (hk : NewRaw h ob fun b h' => putD N st o.dst (.v (v b)) h' K) (hp : Obj.plain ob = true) (hr : Rel N Keep Hide W0 β st h a w)
    (hrun : (execOp a.eval o).run P w = .ok (.value (v w.heap.size)) (w.alloc ob)) : Goes P N Keep Hide W0 β o a w K Q :=
  goes_value hrun (putD_sound (hk w.heap.size hr.r.fresh) (hr.alloc ob (newRaw_ok ob hp)) rfl)

theorem sameNow_eq {P : Program} {kt : TypeId} {d : TypeDesc} (hu : P.underlying kt = some d) {k e : Value} {b b' : Bool} {q : Nat} (h1 : Instr.sameNow d k e = some b) (h2 : eqB P (q + 1) kt k e = some b') : b = b' := by
  unfold Instr.sameNow at h1
  simp only [eqB, hu] at h2
  split at h1
  · simp only at h2
    split at h1
    · rename_i hk
      subst hk
      simp at h1 h2
      rw [← h1, ← h2]
    · exact absurd h1 (by simp)
  · simp at h1 h2
    rw [← h1, ← h2]
  · simp at h1 h2
    rw [← h1, ← h2]
  · exact absurd h1 (by simp)

theorem findNow_eq {P : Program} {kt : TypeId} {d : TypeDesc} (hu : P.underlying kt = some d) {k : Value} : ∀ (es : List MapEntry) (i : Nat) {r r' : Option (Nat × Value)}, Instr.findNow d k es i = some r → findE P kt k es i = some r' → r = r'
  | [], i, r, r', h1, h2 => by simp [Instr.findNow, findE] at h1 h2; rw [← h1, ← h2]
  | e :: es, i, r, r', h1, h2 => by
    simp only [Instr.findNow] at h1
    simp only [findE] at h2
    split at h1
    · rename_i hs
      split at h2
      · simp at h1 h2; rw [← h1, ← h2]
      · rename_i he; exact absurd (sameNow_eq (q := 9999) hu hs he) (by simp)
      · exact absurd h2 (by simp)
    · rename_i hs
      split at h2
      · rename_i he; exact absurd (sameNow_eq (q := 9999) hu hs he) (by simp)
      · exact findNow_eq hu es (i + 1) h1 h2
      · exact absurd h2 (by simp)
    · exact absurd h1 (by simp)

theorem findAsking_run {P : Program} {kt : TypeId} {k : Value} (w : World) : ∀ (es : List MapEntry) (i : Nat) {r : Option (Nat × Value)}, findE P kt k es i = some r → (Instr.findAsking kt k es i).run P w = .ok r w
  | [], i, r, h => by simp [findE] at h; subst h; rfl
  | e :: es, i, r, h => by
    simp only [findE] at h
    simp only [Instr.findAsking, Sem.run_bind]
    split at h
    · rename_i he
      have := eqB_run w _ _ _ _ _ he
      simp only [Op.equal, Op.maxDepth, this, Result.andThen_ok, if_true, Sem.run_pure]
      simp at h
      rw [h]
    · rename_i he
      have := eqB_run w _ _ _ _ _ he
      simp only [Op.equal, Op.maxDepth, this, Result.andThen_ok, Bool.false_eq_true, if_false]
      exact findAsking_run w es (i + 1) h
    · exact absurd h (by simp)

theorem findKey_run {P : Program} {kt : TypeId} {d : TypeDesc} (hu : P.underlying kt = some d) {k : Value} (w : World) {es : List MapEntry} {r : Option (Nat × Value)} (h : findE P kt k es 0 = some r) : (Instr.findKey kt k es).run P w = .ok r w := by
  simp only [Instr.findKey, Sem.run_bind, run_underlying hu, Result.andThen_ok]
  split
  · rename_i r' hr'
    rw [findNow_eq hu es 0 hr' h]
    rfl
  · exact findAsking_run w es 0 h

theorem ckKey_run {P : Program} {kt : TypeId} {k : Value} (h : ckKey P kt k = true) (b : Bool) (w : World) : (Instr.checkKey b 10000 kt k).run P w = .ok () w := by
  unfold ckKey at h
  split at h
  · rename_i h1 h2
    cases b
    · exact pev_run _ h2 w
    · exact pev_run _ h1 w
  · exact absurd h (by simp)

theorem checkKey_none {P : Program} {kt : TypeId} {k : Value} (hu : P.underlying kt = none) (n : Nat) (w : World) : (Instr.checkKey true (n + 1) kt k).run P w = .halt (.stuck "no such type") w := by
  simp [Instr.checkKey, underlying, hu]

theorem ckKey_under {P : Program} {kt : TypeId} {k : Value} (h : ckKey P kt k = true) : ∃ d, P.underlying kt = some d := by
  cases hu : P.underlying kt with
  | some d => exact ⟨d, rfl⟩
  | none =>
    have h1 := ckKey_run h true (default : World)
    rw [checkKey_none hu 9999] at h1
    exact absurd h1 (by simp)

theorem Lk_run {kt et : TypeId} {m : Option Nat} {k v : Value} {b ok : Bool} {t : TypeId} (hl : Lk P h kt et m k v b) (hu : P.underlying t = some (.map kt et)) (hck : ckKey P kt k = true) (hr : R Keep Hide W0 h w) :
    (Instr.lookup t (.map m) k ok).run P w = .ok (if ok then .tuple #[v, .bool b] else v) w := by
  obtain ⟨d, hd⟩ := ckKey_under hck
  unfold Lk at hl
  cases m with
  | none =>
    obtain ⟨rfl, hz⟩ := hl
    have hf := findKey_run hd w (es := []) (k := k) (r := none) rfl
    simp [Instr.lookup, run_underlying hu, ckKey_run hck, hf, run_zero_of hz]
  | some r =>
    obtain ⟨es, clock, hb, res, hres, hl⟩ := hl
    obtain ⟨h1, h2, _⟩ := hr.raw hb
    have hf := findKey_run hd w hres
    simp only [Instr.lookup, Sem.run_bind, run_underlying hu, Result.andThen_ok, run_getObj_raw h1 h2, Sem.run_pure, ckKey_run hck, hf]
    split at hl
    · obtain ⟨rfl, rfl⟩ := hl
      simp
    · obtain ⟨hz, rfl⟩ := hl
      simp [run_zero_of hz]

theorem sameBits_refl {k : Value} (hk : plainK k = true) : Instr.sameBits 10000 k k = true := by
  cases k with
  | int j x => simp [Instr.sameBits]
  | bool b => simp [Instr.sameBits]
  | string s => simp [Instr.sameBits, ba_beq]
  | agg cs =>
    simp only [plainK] at hk
    rw [List.all_eq_true] at hk
    simp only [Instr.sameBits, beq_self_eq_true, Bool.true_and, List.all_eq_true]
    rintro ⟨x, y⟩ hxy
    obtain ⟨i, hi⟩ := List.getElem?_of_mem hxy
    rw [List.getElem?_zip_eq_some] at hi
    have e1 : x = y := by have := hi.1.symm.trans hi.2; simpa using this
    subst e1
    have hx := hk x (List.mem_of_getElem? hi.1)
    cases x <;> simp at hx <;> simp [Instr.sameBits, ba_beq]
  | _ => simp [plainK] at hk

theorem MUp_run {kt et : TypeId} {m : Option Nat} {k v : Value} {t : TypeId} {KH : GH → Prop} (hk : MUp P h kt m k v KH) (hu : P.underlying t = some (.map kt et)) (hck : ckKey P kt k = true) (hpk : plainK k = true) (hr : Rel N Keep Hide W0 β st h a w) :
    ∃ w' h', (Instr.mapUpdate t (.map m) k v).run P w = .ok () w' ∧ Rel N Keep Hide W0 β st h' a w' ∧ KH h' := by
  obtain ⟨d, hd⟩ := ckKey_under hck
  unfold MUp at hk
  cases m with
  | none => exact hk.elim
  | some r =>
    obtain ⟨es, clock, hb, res, hres, hk⟩ := hk
    obtain ⟨h1, h2, _⟩ := hr.r.raw hb
    have hf := findKey_run hd w hres
    split at hk
    · rename_i i u
      obtain ⟨hki, hk⟩ := hk
      refine ⟨_, _, ?_, hr.setRaw hb rfl, hk⟩
      simp only [Instr.mapUpdate, Sem.run_bind, run_underlying hu, Result.andThen_ok, run_getObj_raw h1 h2, ckKey_run hck, hf, hki, Option.getD_some, Instr.keyThatStays, sameBits_refl hpk, if_true, Sem.run_pure, run_setObj_raw h1 h2]
    · refine ⟨_, _, ?_, hr.setRaw hb rfl, hk⟩
      simp only [Instr.mapUpdate, Sem.run_bind, run_underlying hu, Result.andThen_ok, run_getObj_raw h1 h2, ckKey_run hck, hf, run_setObj_raw h1 h2]

theorem setIf_self {α : Type} (l : Array α) (i : Nat) (x : α) (h : l[i]? = some x) : l.setIfInBounds i x = l := by
  apply Array.ext'
  simp only [Array.toList_setIfInBounds]
  apply List.ext_getElem?
  intro j
  rw [List.getElem?_set]
  split
  · rename_i hij; subst hij
    have : i < l.size := (Array.getElem?_eq_some_iff.1 h).1
    have e1 : l[i] = x := by have := Array.getElem?_eq_getElem this; rw [h] at this; simpa using this.symm
    simp [this, e1]
  · rfl

theorem MDel_run {kt et : TypeId} {m : Option Nat} {k : Value} {t T : TypeId} {ats : Array TypeId} {KH : GH → Prop} (hk : MDel P h kt m k KH) (hu : P.underlying t = some (.map kt et)) (hat : ats[0]? = some t) (hck : ckKey P kt k = true) (hr : Rel N Keep Hide W0 β st h a w) :
    ∃ w' h', (Builtin.delete_ ats T #[.map m, k]).run P w = .ok (.tuple #[]) w' ∧ Rel N Keep Hide W0 β st h' a w' ∧ KH h' := by
  obtain ⟨d, hd⟩ := ckKey_under hck
  unfold MDel at hk
  cases m with
  | none =>
    refine ⟨w, h, ?_, hr, hk⟩
    simp [Builtin.delete_, hat, run_underlying hu, ckKey_run hck]
  | some r =>
    obtain ⟨es, clock, hb, res, hres, hk⟩ := hk
    obtain ⟨h1, h2, _⟩ := hr.r.raw hb
    have hf := findKey_run hd w hres
    split at hk
    · rename_i i u
      refine ⟨_, _, ?_, hr.setRaw hb rfl, hk⟩
      simp [Builtin.delete_, hat, run_underlying hu, ckKey_run hck, run_getObj_raw h1 h2, hf, run_setObj_raw h1 h2]
    · refine ⟨w, h, ?_, hr, hk⟩
      have e1 : ({ w with heap := w.heap.setIfInBounds r (.map es clock) } : World) = w := by rw [setIf_self _ _ _ h1]
      simp [Builtin.delete_, hat, run_underlying hu, ckKey_run hck, run_getObj_raw h1 h2, hf, run_setObj_raw h1 h2, e1]

theorem MNext_run {t : TypeId} {b : Nat} {KN : Value → GH → Prop} (hk : MNext P h t b KN) (hr : Rel N Keep Hide W0 β st h a w) {p : Addr} (hp : p.off = 0) (hpb : p.block = b) :
    ∃ v w' h', (Instr.next (.pointer (some p)) false t).run P w = .ok v w' ∧ Rel N Keep Hide W0 β st h' a w' ∧ KN v h' := by
  obtain ⟨pb, po, ps⟩ := p
  simp only at hp hpb
  subst hp hpb
  obtain ⟨m, since, seen, last, hb, hk⟩ := hk
  obtain ⟨h1, h2, _⟩ := hr.r.raw hb
  cases m with
  | none =>
    refine ⟨_, w, h, ?_, hr, hk⟩
    simp [Instr.next, run_getObj_raw h1 h2]
  | some r =>
    obtain ⟨es, clock, hm, rfl, rfl, hborn, hk0, hk1⟩ := hk
    obtain ⟨g1, g2, _⟩ := hr.r.raw hm
    have hcond : (!seen.isEmpty && !es.isEmpty && es.all (fun e => decide (e.born ≥ last))) = false := by
      by_cases he : es.isEmpty = true
      · simp [he]
      · have : es.all (fun e => decide (e.born ≥ last)) = false := by
          rw [Array.all_eq_false]
          have hlt : 0 < es.size := by
            rcases Nat.eq_zero_or_pos es.size with h0 | h0
            · simp [Array.isEmpty, h0] at he
            · exact h0
          refine ⟨0, hlt, ?_⟩
          have := hborn es[0] (by simp)
          simp; omega
        simp [this]
    have hold : (es.filter fun e => !seen.contains e.born).filter (fun e => decide (e.born < last)) = es.filter fun e => !seen.contains e.born := by
      apply Array.ext'
      simp only [Array.toList_filter]
      rw [List.filter_eq_self]
      intro e he
      have := hborn e (List.mem_filter.1 he).1
      simpa using this
    have hnew : (es.filter fun e => !seen.contains e.born).filter (fun e => decide (e.born ≥ last)) = #[] := by
      apply Array.ext'
      simp only [Array.toList_filter]
      rw [List.filter_eq_nil_iff]
      intro e he
      have := hborn e (List.mem_filter.1 he).1
      simp; omega
    generalize hL : (es.filter fun e => !seen.contains e.born) = left at *
    by_cases h0 : left.toList = []
    · have hl0 : left = #[] := by apply Array.ext'; simpa using h0
      refine ⟨_, w, h, ?_, hr, hk0 h0⟩
      simp only [Instr.next, Sem.run_bind, run_getObj_raw h1 h2, Result.andThen_ok, run_getObj_raw g1 g2, hcond, Bool.false_eq_true, if_false, hL, hl0]
      simp [Question.forced]
    · have hne : left.isEmpty = false := by
        rw [Bool.eq_false_iff]
        intro he
        exact h0 (by simpa using he)
      have hpos : 0 < left.size := by
        rcases Nat.eq_zero_or_pos left.size with h3 | h3
        · exact absurd (by simpa using h3) h0
        · exact h3
      -- whichever is picked
      have pick : ∀ (i n : Nat), i < left.size → ∃ v w' h', ((match ((left.map some) : Array (Option MapEntry))[i]? with
            | some (some e) => (do setObj pb (.mapIter (some r) last (seen.push e.born) last); pure (.tuple #[.bool true, e.key, e.val]) : Sem Value)
            | some none => pure (.tuple #[.bool false])
            | none => stuck "Next: no such candidate") : Sem Value).run P { w with drawn := n } = .ok v w' ∧ Rel N Keep Hide W0 β st h' a w' ∧ KN v h' := by
        intro i n hi
        have hk2 := hk1 left[i] (by simp)
        have hr' := (hr.drew n).setRaw (ob' := .mapIter (some r) last (seen.push left[i].born) last) hb rfl
        refine ⟨_, _, _, ?_, hr', hk2⟩
        have h1' : ({ w with drawn := n } : World).heap[pb]? = some (.mapIter (some r) last seen last) := h1
        simp [hi, run_setObj_raw h1' h2]
      have hcut : ∃ i n, i < left.size ∧ (choose (.mapNext left.size)).run P w = .ok i { w with drawn := n } := by
        rw [run_choose]
        by_cases hs : left.size ≤ 1
        · exact ⟨0, w.drawn, hpos, by simp [Question.forced, hs]⟩
        · exact ⟨_, w.drawn + 1, Nat.mod_lt (w.tape w.drawn (.mapNext left.size)) hpos, by simp [Question.forced, hs, Question.cut]⟩
      obtain ⟨i, n, hi, hch⟩ := hcut
      obtain ⟨v, w', h', hrun, hrel, hkn⟩ := pick i n hi
      refine ⟨v, w', h', ?_, hrel, hkn⟩
      simp only [Instr.next, Sem.run_bind, run_getObj_raw h1 h2, Result.andThen_ok, run_getObj_raw g1 g2, hcond, Bool.false_eq_true, if_false, hL, hold, hnew, hne, Array.append_empty, Array.empty_append, Array.size_map, hch]
      exact hrun

theorem MEntry_run {t : TypeId} {b : Nat} {KN : Value → Prop} (hk : MEntry P h t b KN) (hr : Rel N Keep Hide W0 β st h a w) {p : Addr} (hp : p.off = 0) (hpb : p.block = b) :
    ∃ v, (Instr.entry (.pointer (some p))).run P w = .ok v w ∧ KN v := by
  obtain ⟨pb, po, ps⟩ := p
  simp only at hp hpb
  subst hp hpb
  obtain ⟨r, since, seen, stepped, es, clock, stamp, e, hb, hm, rfl, hst, hf, hk⟩ := hk
  obtain ⟨h1, h2, _⟩ := hr.r.raw hb
  obtain ⟨g1, g2, _⟩ := hr.r.raw hm
  have hk' : KN (.tuple ⟨[e.key, e.val]⟩) := by
    split at hk
    · obtain ⟨k, hk⟩ := exT1_out hk
      obtain ⟨v, hk⟩ := exT1_out hk
      obtain ⟨rfl, rfl, hk⟩ := hk
      exact hk
    · exact hk
  refine ⟨_, ?_, hk'⟩
  simp [Instr.entry, run_getObj_raw h1 h2, hst, run_getObj_raw g1 g2, hf]
end Go.Gv
