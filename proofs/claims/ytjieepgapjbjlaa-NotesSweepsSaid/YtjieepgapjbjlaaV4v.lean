/- The ghost machine is sound: the operations that yield a value and change nothing. -/
import Derived.Test.YtjieepgapjbjlaaV3
namespace Go.Gv
set_option linter.unusedVariables false

variable {P : Program} {β : Nat → Nat} {st : St} {h : GH} {a : Act} {o : Oper} {KV : FVal → Fact → Prop}

/-- What the world holds of it. -/
def Fact.holds (β : Nat → Nat) : Fact → World → Prop
  | .none, _ => True
  | .heap p vs, w => ∀ j v, vs[j]? = some v → w.cell? (p.add j) = some v
  | .priv s vs, w => ∀ off, w.cell? ⟨β s, off, Option.none⟩ = vs[off]?

/-- What the ghost state holds of it. -/
def Fact.ok (st : St) (h : GH) : Fact → Prop
  | .none => True
  | .heap p vs => Rds h p vs
  | .priv s vs => look s st.l = some vs

def Knows (β : Nat → Nat) (st : St) (a : Act) : Prop := ∀ x v, st.ev x = some v → v.ok β (a.eval x)

/-- The value comes in every world that holds the fact. -/
def Val (P : Program) (β : Nat → Nat) (o : Oper) (st : St) (h : GH) (a : Act) (KV : FVal → Fact → Prop) : Prop :=
  ∃ fv fact v, KV fv fact ∧ fv.ok β v ∧ fact.ok st h ∧ ∀ w, fact.holds β w → (execOp a.eval o).run P w = .ok (.value v) w

theorem val_pure {fv : FVal} {v : Value} (hk : KV fv .none) (hv : fv.ok β v) (hrun : ∀ w, (execOp a.eval o).run P w = .ok (.value v) w) : Val P β o st h a KV :=
  ⟨fv, .none, v, hk, hv, trivial, fun w _ => hrun w⟩

theorem Knows.evv (hn : Knows β st a) {x : Operand} {v : Value} (hx : st.ev x = some (.v v)) : a.eval x = v := hn x _ hx
theorem Knows.evl (hn : Knows β st a) {x : Operand} {s off : Nat} (hx : st.ev x = some (.loc s off)) : a.eval x = .pointer (some ⟨β s, off, none⟩) := hn x _ hx

theorem knows_val (hn : Knows β st a) (hk : o.op.operands.toList.all st.known = true) (hs : isSelect o.op = false) : execOp a.eval o = execOp st.val o := by
  refine execOp_congr o (fun cs b e => by rw [e] at hs; simp [isSelect] at hs) fun x hx => ?_
  have h1 := List.all_eq_true.1 hk x (by simpa using hx)
  unfold St.known at h1
  unfold St.val
  split at h1
  · rename_i v hv
    exact hn.evv hv
  · exact absurd h1 (by simp)

theorem genV_sound (hk : genV P o st KV) (hn : Knows β st a) : Val P β o st h a KV := by
  unfold genV at hk
  split at hk
  · rename_i hs hall
    split at hk
    · rename_i v hv
      refine val_pure hk rfl fun w => ?_
      rw [knows_val hn hall hs]; exact pev_run _ hv w
    · exact hk.elim
  · exact hk.elim

theorem field_val {s : TypeId} {x : Operand} {i n : Nat} (ho : o.op = .fieldAddr s x i) (hf : fieldOff P s i = some n)
    {p : Addr} (hx : a.eval x = .pointer (some p)) {v : FVal} (hv : v.ok β (.pointer (some (p.add n)))) (hk : KV v .none) : Val P β o st h a KV := by
  unfold fieldOff at hf
  split at hf
  · rename_i fs hu
    split at hf
    · rename_i f hfi
      split at hf
      · rename_i m hS
        split at hf
        · exact absurd hf (by simp)
        · rename_i hm
          simp only [Option.some.injEq] at hf
          subst hf
          have hm' : m ≠ 0 := fun e => by subst e; simp at hm
          refine val_pure (v := .pointer (some (p.add f.offset))) hk hv fun w => ?_
          simp [execOp, ho, hx, Instr.fieldAt, run_underlying hu, hfi, Instr.sureAddr, fieldPlace, run_sizeOf_of hS, hm']
      · exact absurd hf (by simp)
    · exact absurd hf (by simp)
  · exact absurd hf (by simp)

theorem loc_add {β : Nat → Nat} {s off n : Nat} : (⟨β s, off, none⟩ : Addr).add n = ⟨β s, off + n, none⟩ := addr_add rfl n

theorem bnd_run {w : World} {x : Operand} {y : Nat} {code : BoundsCode} {k : IntKind} {i : Int} (hx : a.eval x = .int k i) (h0 : 0 ≤ i) (h1 : i ≤ (y : Int)) : (Instr.sliceBound (a.eval x) y code).run P w = .ok i.toNat w := by
  rw [hx]
  simp [Instr.sliceBound, asIntOf, h0, h1]

theorem bndO_out {x : Option Operand} {dflt lim : Nat} {KN : Nat → Prop} (hk : bndO st x dflt lim KN) (hn : Knows β st a) :
    ∃ n, KN n ∧ (match x with | none => n = dflt | some x => ∃ k i, a.eval x = .int k i ∧ 0 ≤ i ∧ i ≤ (lim : Int) ∧ n = i.toNat) := by
  unfold bndO at hk
  cases x with
  | none => exact ⟨dflt, hk, rfl⟩
  | some x =>
    dsimp only at hk ⊢
    split at hk
    · rename_i v hv
      unfold bnd at hk
      split at hk
      · rename_i heq; exact absurd heq (by simp)
      · rename_i k i heq
        simp only [Option.some.injEq] at heq
        subst heq
        exact ⟨_, hk.2.2, k, i, hn.evv hv, hk.1, hk.2.1, rfl⟩
      · exact hk.elim
    · exact hk.elim

theorem slice_str_val {t : TypeId} {x : Operand} {lo hi : Option Operand} {s : ByteArray} (ho : o.op = .slice t x lo hi none) (hu : P.underlying t = some .string) (hx : st.ev x = some (.v (.string s)))
    (hk : bndO st hi s.size s.size fun hh => bndO st lo 0 hh fun l => KV (.v (.string (s.extract l hh))) .none) (hn : Knows β st a) : Val P β o st h a KV := by
  have hx' := hn.evv hx
  obtain ⟨hh, hk, h1⟩ := bndO_out hk hn
  obtain ⟨l, hk, h2⟩ := bndO_out hk hn
  refine val_pure (v := .string (s.extract l hh)) hk rfl fun w => ?_
  cases hi with
  | none =>
    simp only at h1; subst h1
    cases lo with
    | none => simp only at h2; subst h2; simp [execOp, ho, hx', Instr.sliceAt, run_underlying hu, Instr.slice, Instr.sliceBounds]
    | some y => obtain ⟨k, i, e1, e2, e3, rfl⟩ := h2; simp [execOp, ho, hx', Instr.sliceAt, run_underlying hu, Instr.slice, Instr.sliceBounds, bnd_run e1 e2 e3]
  | some z =>
    obtain ⟨k, i, e1, e2, e3, rfl⟩ := h1
    cases lo with
    | none => simp only at h2; subst h2; simp [execOp, ho, hx', Instr.sliceAt, run_underlying hu, Instr.slice, Instr.sliceBounds, bnd_run e1 e2 e3]
    | some y => obtain ⟨k', i', f1, f2, f3, rfl⟩ := h2; simp [execOp, ho, hx', Instr.sliceAt, run_underlying hu, Instr.slice, Instr.sliceBounds, bnd_run e1 e2 e3, bnd_run f1 f2 f3]

theorem sliceBounds_out {lo hi mx : Option Operand} {b : Bool} {n c : Nat} {KN : Nat → Nat → Nat → Prop} (hmx : mx.isSome = true → hi.isSome = true) (hk : bndO st mx c c fun m => bndO st hi n m fun hh => bndO st lo 0 hh fun l => KN m hh l) (hn : Knows β st a) :
    ∃ m hh l, KN m hh l ∧ (∀ w, (Instr.sliceBounds b n c (lo.map a.eval) (hi.map a.eval) (mx.map a.eval)).run P w = .ok (l, hh, m) w) ∧ (lo = none → l = 0) := by
  obtain ⟨m, hk, h0⟩ := bndO_out hk hn
  obtain ⟨hh, hk, h1⟩ := bndO_out hk hn
  obtain ⟨l, hk, h2⟩ := bndO_out hk hn
  refine ⟨m, hh, l, hk, fun w => ?_, fun e => by subst e; exact h2⟩
  cases mx with
  | none =>
    simp only at h0; subst h0
    cases hi with
    | none =>
      simp only at h1; subst h1
      cases lo with
      | none => simp only at h2; subst h2; simp [Instr.sliceBounds]
      | some y => obtain ⟨k, i, e1, e2, e3, rfl⟩ := h2; simp [Instr.sliceBounds, bnd_run e1 e2 e3]
    | some z =>
      obtain ⟨k, i, e1, e2, e3, rfl⟩ := h1
      cases lo with
      | none => simp only at h2; subst h2; simp [Instr.sliceBounds, bnd_run e1 e2 e3]
      | some y => obtain ⟨k', i', f1, f2, f3, rfl⟩ := h2; simp [Instr.sliceBounds, bnd_run e1 e2 e3, bnd_run f1 f2 f3]
  | some q =>
    obtain ⟨k0, i0, d1, d2, d3, rfl⟩ := h0
    cases hi with
    | none => exact absurd (hmx rfl) (by simp)
    | some z =>
      obtain ⟨k, i, e1, e2, e3, rfl⟩ := h1
      cases lo with
      | none => simp only at h2; subst h2; simp [Instr.sliceBounds, bnd_run e1 e2 e3, bnd_run d1 d2 d3]
      | some y => obtain ⟨k', i', f1, f2, f3, rfl⟩ := h2; simp [Instr.sliceBounds, bnd_run e1 e2 e3, bnd_run f1 f2 f3, bnd_run d1 d2 d3]

theorem adr_eq {lo : Option Operand} {b : Option Addr} {l m k : Nat} (hl : lo = none → l = 0) : adr lo b l m k = (if m = l then b else b.map (·.add (l * k))) := by
  cases lo with
  | some _ => rfl
  | none =>
    have := hl rfl
    subst this
    simp only [adr, Nat.zero_mul]
    split
    · rfl
    · cases b <;> simp [Addr.add]

theorem slice_sl_val {t e : TypeId} {x : Operand} {lo hi mx : Option Operand} {b : Option Addr} {n c k : Nat} (ho : o.op = .slice t x lo hi mx) (hmx : mx.isSome = true → hi.isSome = true) (hu : P.underlying t = some (.slice e)) (hS : sizeT P e = some k) (hx : st.ev x = some (.v (.slice b n c)))
    (hk : bndO st mx c c fun m => bndO st hi n m fun hh => bndO st lo 0 hh fun l => KV (.v (.slice (adr lo b l m k) (hh - l) (m - l))) .none) (hn : Knows β st a) : Val P β o st h a KV := by
  have hx' := hn.evv hx
  obtain ⟨m, hh, l, hk, hrun, hl⟩ := sliceBounds_out (P := P) (b := true) hmx hk hn
  refine val_pure (v := .slice (adr lo b l m k) (hh - l) (m - l)) hk rfl fun w => ?_
  simp [execOp, ho, hx', Instr.sliceAt, run_underlying hu, Instr.slice, hrun, run_sizeOf_of hS, adr_eq hl]

theorem slice_arr_val {t e : TypeId} {x : Operand} {lo hi mx : Option Operand} {p : Addr} {n k : Nat} (ho : o.op = .slice t x lo hi mx) (hmx : mx.isSome = true → hi.isSome = true) (hu : P.underlying t = some (.array n e)) (hS : sizeT P e = some k) (hx : st.ev x = some (.v (.pointer (some p))))
    (hk : bndO st mx n n fun m => bndO st hi n m fun hh => bndO st lo 0 hh fun l => KV (.v (.slice (adr lo (some p) l m k) (hh - l) (m - l))) .none) (hn : Knows β st a) : Val P β o st h a KV := by
  have hx' := hn.evv hx
  obtain ⟨m, hh, l, hk, hrun, hl⟩ := sliceBounds_out (P := P) (b := false) hmx hk hn
  refine val_pure (v := .slice (adr lo (some p) l m k) (hh - l) (m - l)) hk rfl fun w => ?_
  have h3 : adr lo (some p) l m k = some (if m = l then p else p.add (l * k)) := by rw [adr_eq hl]; split <;> rfl
  simp [execOp, ho, hx', Instr.sliceAt, run_underlying hu, Instr.sureAddr, hrun, run_sizeOf_of hS, h3]

theorem indexAddr_slice_val {t e : TypeId} {x ix : Operand} {b : Option Addr} {n c k : Nat} {kd : IntKind} {i : Int} (ho : o.op = .indexAddr t x ix) (hu : P.underlying t = some (.slice e)) (hS : sizeT P e = some k)
    (hx : st.ev x = some (.v (.slice b n c))) (hi : st.ev ix = some (.v (.int kd i)))
    (hk : 0 ≤ i ∧ i < (n : Int) ∧ nn b fun p => KV (.v (.pointer (some (p.add (i.toNat * k))))) .none) (hn : Knows β st a) : Val P β o st h a KV := by
  have hx' := hn.evv hx
  have hi' := hn.evv hi
  obtain ⟨h0, h1, hk⟩ := hk
  cases b with
  | none => exact hk.elim
  | some p =>
    refine val_pure (v := .pointer (some (p.add (i.toNat * k)))) hk rfl fun w => ?_
    simp [execOp, ho, hx', hi', Instr.indexAt, asIntOf, run_underlying hu, h0, h1, run_sizeOf_of hS]

theorem indexAddr_arr_val {t e : TypeId} {x ix : Operand} {p : Addr} {n k : Nat} {kd : IntKind} {i : Int} (ho : o.op = .indexAddr t x ix) (hu : P.underlying t = some (.array n e)) (hS : sizeT P e = some k)
    (hx : a.eval x = .pointer (some p)) (hi : st.ev ix = some (.v (.int kd i))) (h0 : 0 ≤ i) (h1 : i < (n : Int)) {v : FVal} (hv : v.ok β (.pointer (some (p.add (i.toNat * k)))))
    (hk : KV v .none) (hn : Knows β st a) : Val P β o st h a KV := by
  have hi' := hn.evv hi
  refine val_pure (v := .pointer (some (p.add (i.toNat * k)))) hk hv fun w => ?_
  simp [execOp, ho, hx, hi', Instr.indexAt, asIntOf, run_underlying hu, Instr.sureAddr, h0, h1, run_sizeOf_of hS]

theorem index_str_val {t : TypeId} {x ix : Operand} {s : ByteArray} {kd : IntKind} {i : Int} (ho : o.op = .index t x ix) (hu : P.underlying t = some .string)
    (hx : st.ev x = some (.v (.string s))) (hi : st.ev ix = some (.v (.int kd i))) (hk : 0 ≤ i ∧ i < (s.size : Int) ∧ KV (.v (.int .u8 (bt s i))) .none) (hn : Knows β st a) : Val P β o st h a KV := by
  have hx' := hn.evv hx
  have hi' := hn.evv hi
  obtain ⟨h0, h1, hk⟩ := hk
  refine val_pure (v := .int .u8 (bt s i)) hk rfl fun w => ?_
  have hlt : i.toNat < s.size := by omega
  have e1 : s[i.toNat]? = some s[i.toNat] := by simp [hlt]
  have e2 : bt s i = ((s[i.toNat]).toNat : Int) := by
    unfold bt
    have : s.data.toList.getD i.toNat 0 = s[i.toNat] := by
      rw [List.getD, List.getElem?_eq_getElem (by simpa using hlt)]
      rfl
    rw [this]
  simp [execOp, ho, hx', hi', Instr.index, asIntOf, run_underlying hu, h0, e1, e2]

theorem load_priv_val {t : TypeId} {x : Operand} {s off : Nat} {vs : List Value} (ho : o.op = .load t x) (hx : st.ev x = some (.loc s off)) (hs : look s st.l = some vs)
    (hk : ldL P t vs off fun v => KV (.v v) (.priv s vs)) (hn : Knows β st a) : Val P β o st h a KV := by
  have hx' := hn.evl hx
  unfold ldL at hk
  split at hk
  · rename_i n hA hS
    split at hk
    · rename_i hb
      have hle := Nat.le_of_ble_eq_true hb
      refine ⟨_, .priv s vs, .agg ⟨(vs.drop off).take n⟩, hk, rfl, hs, fun w hw => ?_⟩
      have hl := run_loadCells_list (P := P) w ⟨β s, off, none⟩ ((vs.drop off).take n) (fun j v hv => by
        rw [addr_add rfl]
        rw [hw]
        rw [List.getElem?_take] at hv
        split at hv
        · rw [List.getElem?_drop] at hv; exact hv
        · exact absurd hv (by simp))
      have hlen : ((vs.drop off).take n).length = n := by simp; omega
      rw [hlen] at hl
      simp [execOp, ho, hx', Instr.loadAt, Instr.sureAddr, loadVar, run_isAgg_of hA, run_sizeOf_of hS, hl]
    · exact hk.elim
  · rename_i n hA hS
    split at hk
    · rename_i v hv
      refine ⟨_, .priv s vs, v, hk, rfl, hs, fun w hw => ?_⟩
      have hl := hw off
      rw [hv] at hl
      simp [execOp, ho, hx', Instr.loadAt, Instr.sureAddr, loadVar, run_isAgg_of hA, hl]
    · exact hk.elim
  · exact hk.elim

theorem load_heap_val {t : TypeId} {x : Operand} {p : Addr} (ho : o.op = .load t x) (hx : st.ev x = some (.v (.pointer (some p))))
    (hk : ldH P t h p fun v vs => KV (.v v) (.heap p vs)) (hn : Knows β st a) : Val P β o st h a KV := by
  have hx' := hn.evv hx
  unfold ldH at hk
  split at hk
  · rename_i n hA hS
    have key : ∀ vs : List Value, vs.length = n → Rds h p vs → KV (.v (.agg ⟨vs⟩)) (.heap p vs) → Val P β o st h a KV := fun vs hlen hrd hk => by
      refine ⟨_, _, .agg ⟨vs⟩, hk, rfl, hrd, fun w hw => ?_⟩
      have hl := run_loadCells_list (P := P) w p _ hw
      rw [hlen] at hl
      simp [execOp, ho, hx', Instr.loadAt, Instr.sureAddr, loadVar, run_isAgg_of hA, run_sizeOf_of hS, hl]
    split at hk
    · split at hk
      · rename_i hb
        obtain ⟨vs, ⟨hrd, hk⟩, hlen, _⟩ := exC_out hk
        exact key vs (hlen.trans (Nat.eq_of_beq_eq_true hb)) hrd hk
      · exact hk.elim
    · obtain ⟨vs, hlen, hrd, hk⟩ := hk
      exact key vs hlen hrd hk
  · rename_i n hA hS
    obtain ⟨v, hrd, hk⟩ := exT1_out hk
    refine ⟨_, _, v, hk, rfl, hrd, fun w hw => ?_⟩
    have hc := hw 0 v rfl
    have hp : p.add 0 = p := by simp [Addr.add]
    rw [hp] at hc
    simp [execOp, ho, hx', Instr.loadAt, Instr.sureAddr, loadVar, run_isAgg_of hA, hc]
  · exact hk.elim

theorem binOp_eql {t : TypeId} {x y : Value} (hok : eqOk x y = true) : binOp .eql t x y = (do pure (.bool (← Op.equal t x y))) := by
  cases x <;> cases y <;> first | rfl | (exact absurd hok (by simp [eqOk]))

theorem binOp_neq {t : TypeId} {x y : Value} (hok : eqOk x y = true) : binOp .neq t x y = (do pure (.bool (!(← Op.equal t x y)))) := by
  cases x <;> cases y <;> first | rfl | (exact absurd hok (by simp [eqOk]))

theorem eq_val {neg : Bool} {t u : TypeId} {x y : Operand} (ho : o.op = .binOp (match neg with | true => .neq | false => .eql) t x y u) (hk : eqV P o neg t x y st KV) (hn : Knows β st a) : Val P β o st h a KV := by
  unfold eqV at hk
  split at hk
  · exact genV_sound hk hn
  · exact genV_sound hk hn
  · rename_i va vb _ _ hx hy
    have hx' := hn.evv hx
    have hy' := hn.evv hy
    split at hk
    · rename_i g hg hok
      split at hk
      · rename_i r hq
        refine val_pure hk rfl fun w => ?_
        have e1 : (Op.equal t va vb).run P w = .ok r w := eqB_run w _ _ _ _ _ hq
        have e2 := pev_run _ hg w
        cases neg with
        | true => simp only [execOp, ho, hx', hy', Sem.run_bind, e2, Result.andThen_ok, binOp_neq hok, e1, Sem.run_pure]
        | false => simp only [execOp, ho, hx', hy', Sem.run_bind, e2, Result.andThen_ok, binOp_eql hok, e1, Sem.run_pure]
      · exact hk.elim
    · exact hk.elim
  · exact hk.elim

theorem guard_other {op : BinOp} {t : TypeId} {x y : Operand} {a b : Value} (h : isEqOp op = false) (w : World) : (eqGuard op t x y a b).run P w = .ok () w := by
  unfold eqGuard
  cases op <;> simp [isEqOp] at h <;> rfl

theorem bin_val {op : BinOp} {t u : TypeId} {x y : Operand} {vx vy v : Value} (ho : o.op = .binOp op t x y u) (hx : st.ev x = some (.v vx)) (hy : st.ev y = some (.v vy)) (hg : isEqOp op = false)
    (hrun : ∀ w, (binOp op t vx vy).run P w = .ok v w) (hk : KV (.v v) .none) (hn : Knows β st a) : Val P β o st h a KV := by
  refine val_pure hk rfl fun w => ?_
  simp only [execOp, ho, hn.evv hx, hn.evv hy, Sem.run_bind, guard_other hg, Result.andThen_ok, hrun, Sem.run_pure]

theorem mxOk_spec {mx hi : Option Operand} (h : mxOk mx hi = true) : mx.isSome = true → hi.isSome = true := by
  cases mx <;> cases hi <;> simp [mxOk] at h ⊢

theorem val_sound (hk : valV P o st h KV) (hn : Knows β st a) : Val P β o st h a KV := by
  unfold valV at hk
  split at hk
  case h_1 x ho =>
    split at hk
    · rename_i v hv
      exact val_pure hk (hn x v hv) fun w => by simp [execOp, ho]
    · exact hk.elim
  case h_2 x ho =>
    split at hk
    · rename_i v hv
      exact val_pure hk (hn x v hv) fun w => by simp [execOp, ho]
    · exact hk.elim
  case h_3 c x y ho =>
    split at hk
    · rename_i t hc
      have hc' := hn.evv hc
      split at hk
      · split at hk
        · rename_i v hv
          exact val_pure hk (hn x v hv) fun w => by simp [execOp, ho, hc', asBool]
        · exact hk.elim
      · split at hk
        · rename_i v hv
          exact val_pure hk (hn y v hv) fun w => by simp [execOp, ho, hc', asBool]
        · exact hk.elim
    · exact hk.elim
  case h_4 t x ho =>
    split at hk
    · rename_i s off hx
      split at hk
      · rename_i vs hs
        exact load_priv_val ho hx hs hk hn
      · exact hk.elim
    · rename_i p hx
      exact load_heap_val ho hx hk hn
    · exact hk.elim
  case h_5 x ho =>
    split at hk
    · rename_i s off hx
      exact val_pure (v := .pointer (some ⟨β s, off, none⟩)) hk rfl fun w => by simp [execOp, ho, hn.evl hx]
    · rename_i q hx
      cases q with
      | none => exact hk.elim
      | some p => exact val_pure (v := .pointer (some p)) hk rfl fun w => by simp [execOp, ho, hn.evv hx]
    · exact genV_sound hk hn
  case h_6 s x i ho =>
    split at hk
    · exact hk.elim
    · rename_i n hf
      split at hk
      · rename_i s' off hx
        exact field_val ho hf (hn.evl hx) (v := .loc s' (off + n)) (by rw [loc_add]; rfl) hk
      · rename_i p hx
        exact field_val ho hf (hn.evv hx) (v := .v _) rfl hk
      · exact hk.elim
  case h_7 t x ix ho =>
    split at hk
    · rename_i e b n c kd i hu hx hi
      split at hk
      · rename_i k hS
        exact indexAddr_slice_val ho hu hS hx hi hk hn
      · exact hk.elim
    · rename_i n e s off kd i hu hx hi
      split at hk
      · rename_i k hS
        exact indexAddr_arr_val ho hu hS (hn.evl hx) hi hk.1 hk.2.1 (v := .loc s (off + i.toNat * k)) (by rw [loc_add]; rfl) hk.2.2 hn
      · exact hk.elim
    · rename_i n e p kd i hu hx hi
      split at hk
      · rename_i k hS
        exact indexAddr_arr_val ho hu hS (hn.evv hx) hi hk.1 hk.2.1 (v := .v _) rfl hk.2.2 hn
      · exact hk.elim
    · exact hk.elim
  case h_8 t x lo hi mx ho =>
    split at hk
    · rename_i s hmx hu hx
      split at hk
      · exact slice_str_val ho hu hx hk hn
      · exact hk.elim
    · rename_i e b n c hmx hu hx
      split at hk
      · rename_i k hS
        exact slice_sl_val ho (mxOk_spec hmx) hu hS hx hk hn
      · exact hk.elim
    · rename_i n e p hmx hu hx
      split at hk
      · rename_i k hS
        exact slice_arr_val ho (mxOk_spec hmx) hu hS hx hk hn
      · exact hk.elim
    · exact hk.elim
  case h_9 t x ix ho =>
    split at hk
    · rename_i s kd i hu hx hi
      exact index_str_val ho hu hx hi hk hn
    · exact hk.elim
  case h_10 op t x y u ho =>
    split at hk
    · exact eq_val (neg := false) ho hk hn
    · exact eq_val (neg := true) ho hk hn
    · split at hk
      · rename_i k va k' vb hx hy
        split at hk
        · rename_i hkk
          have hkk' := of_decide_eq_true hkk
          subst hkk'
          obtain ⟨hne, hk⟩ := hk
          exact bin_val ho hx hy rfl (fun w => by simp [binOp, Op.intDiv, hne]) hk hn
        · exact hk.elim
      · exact hk.elim
    · split at hk
      · rename_i k va k' vb hx hy
        split at hk
        · rename_i hkk
          have hkk' := of_decide_eq_true hkk
          subst hkk'
          obtain ⟨hne, hk⟩ := hk
          exact bin_val ho hx hy rfl (fun w => by simp [binOp, Op.intDiv, hne]) hk hn
        · exact hk.elim
      · exact hk.elim
    · split at hk
      · rename_i k va k' vb hx hy
        obtain ⟨hne, hk⟩ := hk
        exact bin_val ho hx hy rfl (fun w => by simp [binOp, Op.shift, Int.not_lt.2 hne]) hk hn
      · exact hk.elim
    · split at hk
      · rename_i k va k' vb hx hy
        obtain ⟨hne, hk⟩ := hk
        exact bin_val ho hx hy rfl (fun w => by simp [binOp, Op.shift, Int.not_lt.2 hne]) hk hn
      · exact hk.elim
    · split at hk
      · rename_i va vb hx hy
        obtain ⟨hne, hk⟩ := hk
        have e1 : ¬ (((va.size + vb.size : Nat) : Int) > IntKind.i64.max) := by
          have : IntKind.i64.max = 9223372036854775807 := by decide
          rw [this]; omega
        exact bin_val ho hx hy rfl (fun w => by simp only [binOp, Op.stringOp, if_neg e1, Sem.run_pure]) hk hn
      · exact genV_sound hk hn
    · exact genV_sound hk hn
  case h_11 => exact genV_sound hk hn
end Go.Gv
