/- The ghost machine is sound: an operation, whatever it is; a region in the text's order. -/
import Derived.Test.YtjieepgapjbjlaaV7
namespace Go.Gv
set_option linter.unusedVariables false

variable {P : Program} {N : Nat} {hp : List Nat} {Keep Hide : Nat → Prop} {W0 : World} {β : Nat → Nat} {st : St} {h : GH} {a : Act} {w : World} {K : St → GH → Prop} {o : Oper} {Q : Exit → Act → World → Prop}

theorem zeroT_cells {t : TypeId} {z : Value} (hz : zeroT P t = some z) : (Instr.alloc t true (.tuple #[])).run P w = .ok (.pointer (some ⟨w.heap.size, 0, none⟩)) (w.alloc (.cells z.cells t)) := by
  simp [Instr.alloc, run_zero_of hz, newVar, newRow]

theorem conv_str_sound {s d e : TypeId} {x : Operand} {b : Option Addr} {n c : Nat} {bs : List UInt8} (ho : o.op = .convert s d x) (hs : P.underlying s = some (.slice e)) (hd : P.underlying d = some .string) (he : P.underlying e = some (.int .u8)) (hx : st.ev x = some (.v (.slice b n c)))
    (hl : bs.length = n) (hrd : RdsO h b (bs.map fun b => .int .u8 b.toNat)) (hk : putD N st o.dst (.v (.string ⟨bs.toArray⟩)) h K) (hr : Rel N Keep Hide W0 β st h a w) : Goes P N Keep Hide W0 β o a w K Q := by
  have hx' := hr.evv hx
  refine goes_value (w' := w) ?_ (putD_sound hk hr rfl)
  have e0 : (Conv.bytesToString (.slice b n c)).run P w = .ok (.string ⟨bs.toArray⟩) w := by
    cases b with
    | none =>
      simp only [RdsO, List.map_eq_nil_iff] at hrd
      subst hrd
      rfl
    | some p =>
      simp only [RdsO] at hrd
      have hl2 := hr.r.load_cells (P := P) hrd (n := n) (by simpa using hl)
      simp only [Conv.bytesToString, Sem.run_bind, hl2, Result.andThen_ok]
      have key : ∀ (bs : List UInt8) (s0 : ByteArray), (forIn (m := Sem) (bs.map fun b => Value.int .u8 b.toNat) s0 fun c s => do
          match c with
          | .int .u8 n => pure (ForInStep.yield (s.push (UInt8.ofNat n.toNat)))
          | _ => do
            stuck "bytesToString: byte expected"
            pure (ForInStep.yield s)).run P w = .ok ⟨s0.data ++ bs.toArray⟩ w := by
        intro bs
        induction bs with
        | nil => intro s0; simp
        | cons y ys ih =>
          intro s0
          simp only [List.map_cons, List.forIn_cons, Sem.run_bind, Sem.run_pure, Result.andThen_ok]
          rw [ih (s0.push (UInt8.ofNat (y.toNat : Int).toNat))]
          congr 2
          simp
      have h5 := key bs ByteArray.empty
      rw [← Array.forIn_toList]
      refine (congrArg (fun r => Result.andThen r fun a w' => (pure (Value.string a) : Sem Value).run P w') h5).trans ?_
      simp only [Result.andThen_ok, Sem.run_pure]
      congr 3
      simp
  simp only [execOp, ho, hx', convert, Sem.run_bind, run_underlying hs, run_underlying hd, run_underlying he, Result.andThen_ok, e0, Sem.run_pure]

theorem Rel.knows (hr : Rel N Keep Hide W0 β st h a w) : Knows β st a := fun x v hx => hr.ev hx

theorem Rel.fact (hr : Rel N Keep Hide W0 β st h a w) {f : Fact} (hf : f.ok st h) : f.holds β w := by
  cases f with
  | none => trivial
  | heap p vs => exact hr.r.rds hf
  | priv s vs => exact fun off => hr.load_priv hf off

theorem op_sound (hk : opVC P N hp o st h K) (hr : Rel N Keep Hide W0 β st h a w) : Goes P N Keep Hide W0 β o a w K Q := by
  unfold opVC at hk
  split at hk
  · obtain ⟨fv, fact, v, hk, hv, hf, hrun⟩ := val_sound hk hr.knows
    exact goes_value (hrun w (hr.fact hf)) (putD_sound hk hr hv)
  · split at hk
    case h_1 t ho =>
      split at hk
      · rename_i z hz
        refine newV_sound (e := t) hk hr ?_
        have := zeroT_cells (P := P) (w := w) hz
        simp only [execOp, ho, Sem.run_bind, this, Result.andThen_ok, Sem.run_pure, Array.toArray_toList]
      · exact hk.elim
    case h_2 t x ho =>
      split at hk
      · rename_i v hv
        refine newV_sound (e := t) hk hr ?_
        simp [execOp, ho, hr.evv hv, Instr.box, newVar, newRow]
      · exact hk.elim
    case h_3 t x y ho =>
      split at hk
      · rename_i yv hy
        split at hk
        · rename_i n hS
          split at hk
          · rename_i hn h1
            exact store_sound ho hy hS hn h1 hr hk
          · exact hk.elim
        · exact hk.elim
      · exact hk.elim
    case h_4 t n parts ho =>
      split at hk
      · rename_i e he
        split at hk
        · rename_i k z hS hz hkn
          split at hk
          · rename_i cs hle hfill
            exact buildSlice_sound ho he hS hz hkn hle hfill hk hr
          · exact hk.elim
        · exact hk.elim
      · exact hk.elim
    case h_5 t lx cx ho =>
      split at hk
      · rename_i e he
        split at hk
        · rename_i k z bs kl l kc c hS hz hB hl hc
          split at hk
          · rename_i h1 h2 h3
            exact makeSlice_sound ho he hS hz hB hl hc h1 h2 h3 hk hr
          · exact hk.elim
        · exact hk.elim
      · exact hk.elim
    case h_6 t r ho =>
      split at hk
      · exact newRaw_sound (v := fun b => .map (some b)) hk rfl hr (by simp [execOp, ho, Instr.makeMap])
      · rename_i x
        split at hk
        · rename_i kd i kt et hx hu
          exact newRaw_sound (v := fun b => .map (some b)) hk rfl hr (by simp [execOp, ho, Instr.makeMap, hr.evv hx, run_underlying hu, asInt, asIntOf])
        · exact hk.elim
    case h_7 t x ix ok ho =>
      split at hk
      · rename_i kt et m k hu hx hi
        split at hk
        · rename_i hck
          obtain ⟨v, b, hl, hk⟩ := exT1_out hk
          have := Lk_run (ok := true) hl hu hck hr.r
          exact goes_value (w' := w) (by simp only [execOp, ho, hr.evv hx, hr.evv hi, Sem.run_bind, this, Result.andThen_ok, Sem.run_pure]; rfl) (putD_sound hk hr rfl)
        · rename_i hck
          obtain ⟨v, ⟨b, hl⟩, hk⟩ := exT1_out hk
          have := Lk_run (ok := false) hl hu hck hr.r
          exact goes_value (w' := w) (by simp only [execOp, ho, hr.evv hx, hr.evv hi, Sem.run_bind, this, Result.andThen_ok, Sem.run_pure]; rfl) (putD_sound hk hr rfl)
        · exact hk.elim
      · exact hk.elim
    case h_8 t m k x ho =>
      split at hk
      · rename_i kt et m k x hu hm hk' hx
        split at hk
        · rename_i hck hpk
          obtain ⟨w', h', hrun, hrel, hk⟩ := MUp_run hk hu hck hpk hr
          exact goes_skip (w' := w') (by simp only [execOp, ho, hr.evv hm, hr.evv hk', hr.evv hx, Sem.run_bind, hrun, Result.andThen_ok, Sem.run_pure]) (putD_sound hk hrel rfl)
        · exact hk.elim
      · exact hk.elim
    case h_9 t m k x ho =>
      split at hk
      · rename_i kt et m k x hu hm hk' hx
        split at hk
        · rename_i hck hpk
          obtain ⟨w', h', hrun, hrel, hk⟩ := MUp_run hk hu hck hpk hr
          exact goes_skip (w' := w') (by simp only [execOp, ho, hr.evv hm, hr.evv hk', hr.evv hx, Sem.run_bind, hrun, Result.andThen_ok, Sem.run_pure]) (putD_sound hk hrel rfl)
        · exact hk.elim
      · exact hk.elim
    case h_10 t x ho =>
      split at hk
      · rename_i kt et m hu hx
        unfold MRange at hk
        split at hk
        · exact newRaw_sound (v := fun b => .pointer (some ⟨b, 0, none⟩)) hk rfl hr (by simp [execOp, ho, Instr.range, hr.evv hx, run_underlying hu])
        · rename_i r
          obtain ⟨es, clock, hb, hk⟩ := hk
          obtain ⟨h1, h2, _⟩ := hr.r.raw hb
          exact newRaw_sound (v := fun b => .pointer (some ⟨b, 0, none⟩)) hk rfl hr (by simp [execOp, ho, Instr.range, hr.evv hx, run_underlying hu, run_getObj_raw h1 h2])
      · exact hk.elim
    case h_11 it str ho =>
      split at hk
      · rename_i px hx
        cases px with
        | none => exact hk.elim
        | some p =>
        obtain ⟨hk1, hk2⟩ := (show p.off = 0 ∧ _ from hk)
        obtain ⟨v, w', h', hrun, hrel, hk⟩ := MNext_run hk2 hr hk1 rfl
        exact goes_value (w' := w') (by simp only [execOp, ho, hr.evv hx, Sem.run_bind, hrun, Result.andThen_ok, Sem.run_pure]) (putD_sound hk hrel rfl)
      · exact hk.elim
    case h_12 it ho =>
      split at hk
      · rename_i px hx
        cases px with
        | none => exact hk.elim
        | some p =>
        obtain ⟨hk1, hk2⟩ := (show p.off = 0 ∧ _ from hk)
        obtain ⟨v, hrun, hk⟩ := MEntry_run hk2 hr hk1 rfl
        exact goes_value (w' := w) (by simp only [execOp, ho, hr.evv hx, Sem.run_bind, hrun, Result.andThen_ok, Sem.run_pure]) (putD_sound hk hr rfl)
      · exact hk.elim
    case h_13 s d x ho =>
      split at hk
      · rename_i e b n c hs hd hx
        split at hk
        · rename_i he
          obtain ⟨bs, hl, hrd, hk⟩ := hk
          exact conv_str_sound ho hs hd he hx hl hrd hk hr
        · exact hk.elim
      · exact gen_sound hk hr
    case h_14 c ho =>
      split at hk
      · rename_i hcal
        split at hk
        · rename_i sT xT s x hat har
          split at hk
          · rename_i e b n cp xv xd he hs hx hxd
            split at hk
            · rename_i k bs z hS hB hz
              split at hk
              · rename_i h1 h2 h3 h4
                exact append_sound ho hcal hat har he hs hx hxd hS hB hz h1 h2 h3 h4 hk hr
              · exact hk.elim
            · exact hk.elim
          · exact hk.elim
        · exact hk.elim
      · rename_i hcal
        split at hk
        · rename_i dT xT d x hat har
          split at hk
          · rename_i e b n cp xv he hd hx
            split at hk
            · rename_i k b' sn c' hS
              exact copy_sound ho hcal hat har he hd hx hS (.inl ⟨_, _, rfl⟩) hk hr
            · rename_i k s hS
              exact copy_sound ho hcal hat har he hd hx hS (.inr ⟨_, rfl, rfl⟩) hk hr
            · exact hk.elim
          · exact hk.elim
        · exact hk.elim
      · rename_i hcal
        split at hk
        · rename_i x har
          split at hk
          · rename_i m hx
            split at hk
            · rename_i t hat
              split at hk
              · rename_i kt et hu
                obtain ⟨n, hn, hk⟩ := hk
                obtain ⟨cal, args, argTypes⟩ := c
                simp only at hcal hat har
                subst hcal
                have har' : args = #[x] := by apply Array.ext'; simpa using har
                have hat' : argTypes = #[t] := by apply Array.ext'; simpa using hat
                subst har' hat'
                unfold MLen at hn
                refine goes_value (w' := w) ?_ (putD_sound hk hr rfl)
                cases m with
                | none => simp only at hn; subst hn; simp [execOp, ho, resolve, invoke, builtin, Builtin.len_, hr.evv hx, run_underlying hu]
                | some r =>
                  obtain ⟨es, clock, hb, rfl⟩ := hn
                  obtain ⟨h1, h2, _⟩ := hr.r.raw hb
                  simp [execOp, ho, resolve, invoke, builtin, Builtin.len_, hr.evv hx, run_underlying hu, run_getObj_raw h1 h2]
              · exact hk.elim
            · exact hk.elim
          · exact gen_sound hk hr
        · exact hk.elim
      · rename_i hcal
        split at hk
        · rename_i t ts m k hat har
          split at hk
          · rename_i kt et m' k' hu hm hk'
            split at hk
            · rename_i hck
              obtain ⟨cal, args, argTypes⟩ := c
              simp only at hcal hat har
              subst hcal
              have har' : args = #[m, k] := by apply Array.ext'; simpa using har
              subst har'
              have hat' : argTypes[0]? = some t := by rw [← Array.getElem?_toList, hat]; rfl
              obtain ⟨w', h', hrun, hrel, hk⟩ := MDel_run (T := o.type) hk hu hat' hck hr
              refine goes_value (w' := w') ?_ (putD_sound hk hrel rfl)
              simp [execOp, ho, resolve, invoke, builtin, hr.evv hm, hr.evv hk', hrun]
            · exact hk.elim
          · exact hk.elim
        · exact hk.elim
      · exact gen_sound hk hr
    case h_15 => exact gen_sound hk hr
end Go.Gv
