/- The ghost machine is sound: a body, a call. -/
import Derived.Test.YtjieepgapjbjlaaV9
namespace Go.Gv
set_option linter.unusedVariables false

variable {P : Program} {N : Nat} {hp : List Nat} {Keep Hide : Nat → Prop} {W0 : World} {β : Nat → Nat} {st : St} {h : GH} {a : Act} {w : World}

theorem Sh.dec_out : ∀ {s : Sh} {v : Value} {K : s.ty → Prop}, s.dec v K → ∃ x, s.enc x = v ∧ K x
  | .int k, v, K, hk => by
    cases v <;> simp only [Sh.dec] at hk
    split at hk
    · rename_i h; have := of_decide_eq_true h; subst this; exact ⟨_, rfl, hk⟩
    · exact hk.elim
  | .bool, v, K, hk => by cases v <;> simp only [Sh.dec] at hk; exact ⟨_, rfl, hk⟩
  | .str, v, K, hk => by cases v <;> simp only [Sh.dec] at hk; exact ⟨_, rfl, hk⟩
  | .ptr, v, K, hk => by cases v <;> simp only [Sh.dec] at hk; exact ⟨_, rfl, hk⟩
  | .slice, v, K, hk => by cases v <;> simp only [Sh.dec] at hk; exact ⟨_, rfl, hk⟩
  | .map, v, K, hk => by cases v <;> simp only [Sh.dec] at hk; exact ⟨_, rfl, hk⟩
  | .any, v, K, hk => ⟨v, rfl, hk⟩

theorem decs_out : ∀ {l : List Sh} {vs : List Value} {K : Tup l → Prop}, decs l vs K → ∃ t, encs l t = vs ∧ K t
  | [], [], K, hk => ⟨(), rfl, hk⟩
  | [], _ :: _, K, hk => hk.elim
  | _ :: _, [], K, hk => hk.elim
  | s :: r, v :: vs, K, hk => by
    obtain ⟨x, hx, hk⟩ := Sh.dec_out hk
    obtain ⟨t, ht, hk⟩ := decs_out hk
    exact ⟨(x, t), by simp only [encs]; rw [hx, ht], hk⟩

theorem getVals_len : ∀ {l : List (Nat × Sh)} {vs : List Value}, getVals st l = some vs → vs.length = l.length
  | [], vs, h => by simp [getVals] at h; subst h; rfl
  | (t, s) :: r, vs, h => by
    simp only [getVals] at h
    split at h
    · split at h
      · rename_i us hus
        simp only [Option.some.injEq] at h
        subst h
        simp [getVals_len hus]
      · exact absurd h (by simp)
    · exact absurd h (by simp)

theorem look_putVals : ∀ {l : List (Nat × Sh)} {vs us : List Value}, getVals st l = some vs → ∀ t x, look t (putVals l (vs ++ us)) = some x → look t st.f = some x
  | [], vs, us, h, t, x, hx => by simp [putVals, look] at hx
  | (t0, s) :: r, vs, us, h, t, x, hx => by
    simp only [getVals] at h
    split at h
    · rename_i v hv
      split at h
      · rename_i vs' hvs
        simp only [Option.some.injEq] at h
        subst h
        simp only [List.cons_append, putVals, look] at hx
        split at hx
        · rename_i hb
          have := Nat.eq_of_beq_eq_true hb
          subst this
          simp only [Option.some.injEq] at hx
          subst hx
          exact hv
        · exact look_putVals hvs t x hx
      · exact absurd h (by simp)
    · exact absurd h (by simp)

theorem look_putLocs : ∀ {l : List (Nat × Nat × Nat)}, hasLocs st l = true → ∀ t x, look t (putLocs l) = some x → look t st.f = some x
  | [], h, t, x, hx => by simp [putLocs, look] at hx
  | (t0, s, off) :: r, h, t, x, hx => by
    simp only [hasLocs] at h
    split at h
    · rename_i s' off' hv
      split at h
      · rename_i h1 h2
        have e1 := Nat.eq_of_beq_eq_true h1
        have e2 := Nat.eq_of_beq_eq_true h2
        subst e1 e2
        simp only [putLocs, look] at hx
        split at hx
        · rename_i hb
          have := Nat.eq_of_beq_eq_true hb
          subst this
          simp only [Option.some.injEq] at hx
          subst hx
          exact hv
        · exact look_putLocs h t x hx
      · exact absurd h (by simp)
    · exact absurd h (by simp)

theorem look_appF {t : Nat} {x : FVal} : ∀ {l l' : List (Nat × FVal)}, look t (appF l l') = some x → look t l = some x ∨ look t l' = some x
  | [], l', h => .inr h
  | (k, y) :: r, l', h => by
    simp only [appF, look] at h ⊢
    split at h
    · exact .inl (by assumption)
    · exact look_appF h

theorem look_putBlks : ∀ {l : List (Nat × List Sh)} {us : List Value}, getBlks st l = some us → ∀ s vs, look s (putBlks l us) = some vs → look s st.l = some vs
  | [], us, h, s, vs, hx => by simp [putBlks, look] at hx
  | (s0, sh) :: r, us, h, s, vs, hx => by
    simp only [getBlks] at h
    split at h
    · rename_i us0 hus
      split at h
      · rename_i vs' hb hvs
        have hlen := Nat.eq_of_beq_eq_true hb
        simp only [Option.some.injEq] at h
        subst h
        simp only [putBlks, look] at hx
        rw [← hlen, List.take_left, List.drop_left] at hx
        split at hx
        · rename_i hbb
          have := Nat.eq_of_beq_eq_true hbb
          subst this
          simp only [Option.some.injEq] at hx
          subst hx
          exact hus
        · exact look_putBlks hvs s vs hx
      · exact absurd h (by simp)
    · exact absurd h (by simp)

theorem pack_sound {lv : Lv} {K : Tup lv.shapes → Prop} (hk : pack lv st K) (hr : Rel N Keep Hide W0 β st h a w) : ∃ t, K t ∧ Rel N Keep Hide W0 β (unpack lv t) h a w := by
  unfold pack at hk
  split at hk
  · rename_i vs us hvs hus hlocs
    obtain ⟨t, ht, hk⟩ := decs_out hk
    refine ⟨t, hk, hr.weak (fun u x hx => ?_) (fun s us' hs => ?_)⟩
    · simp only [unpack, ht] at hx
      rcases look_appF hx with hx | hx
      · exact hr.fr u x (look_putVals hvs u x hx)
      · exact hr.fr u x (look_putLocs hlocs u x hx)
    · simp only [unpack, ht] at hs
      rw [← getVals_len hvs, List.drop_left] at hs
      exact look_putBlks hus s us' hs
  · exact hk.elim

/-- A loop, its measure said of something beside the frame. -/
theorem wp_loop_ghost {G : Type} {c : Code} {Q : Exit → Act → World → Prop} (I : G → Act → World → Prop) (m : G → Nat) {g0 : G} (h0 : I g0 a w)
    (round : ∀ g a w, I g a w → c.wp P (Exit.then (fun a' w' => ∃ g', I g' a' w' ∧ m g' < m g) Q) a w) : (Code.loop c).wp P Q a w := by
  intro b k cs
  have key : ∀ n g a w, m g = n → I g a w →
      ∃ e a' w', Q e a' w' ∧ Arrives P (lone (b.at a (.code c :: .inLoop c :: k)) cs w) b k cs e a' w' := by
    intro n
    induction n using Nat.strongRecOn with
    | _ n ih =>
      intro g a w hn hI
      obtain ⟨e, a₁, w₁, hq, harr⟩ := round g a w hI b (.inLoop c :: k) cs
      cases e with
      | normal =>
        obtain ⟨g', hI₁, hlt⟩ := hq
        obtain ⟨e₂, a₂, w₂, hq₂, harr₂⟩ := ih (m g') (hn ▸ hlt) g' a₁ w₁ rfl hI₁
        exact ⟨e₂, a₂, w₂, hq₂, .of_steps (Steps.trans harr (.one step_inLoop)) harr₂⟩
      | exit id => exact ⟨_, a₁, w₁, hq, .pass (x := .inLoop c) rfl (fun _ _ => .inl (by simp)) harr⟩
      | goto l => exact ⟨_, a₁, w₁, hq, .pass (x := .inLoop c) rfl (fun _ _ => .inl (by simp)) harr⟩
      | ret => exact ⟨_, a₁, w₁, hq, .pass (x := .inLoop c) rfl (fun _ _ => .inl (by simp)) harr⟩
      | panic ch => exact ⟨_, a₁, w₁, hq, .pass (x := .inLoop c) rfl (fun _ _ => .inl (by simp)) harr⟩
      | outgrown => exact ⟨_, a₁, w₁, hq, .pass (x := .inLoop c) rfl (fun _ _ => .inl (by simp)) harr⟩
  obtain ⟨e, a', w', hq, harr⟩ := key _ g0 a w rfl h0
  exact ⟨e, a', w', hq, .of_steps (.one step_loop) harr⟩

/-- What holds behind a piece of code, by its way out. -/
def Out (N : Nat) (Keep Hide : Nat → Prop) (W0 : World) (Q : Exit → St → GH → Prop) (e : Exit) (a : Act) (w : World) : Prop := ∃ β st h, Rel N Keep Hide W0 β st h a w ∧ Q e st h

theorem code_sound (hm : P.follows .mixedOrders = true) : ∀ (c : Code) (an : Ann) (Q : Exit → St → GH → Prop) (β : Nat → Nat) (st : St) (h : GH) (a : Act) (w : World),
    codeVC P N hp c an Q st h → Rel N Keep Hide W0 β st h a w → c.wp P (Out N Keep Hide W0 Q) a w
  | .skip, an, Q, β, st, h, a, w, hk, hr => wp_skip ⟨β, st, h, hr, hk⟩
  | .region id ops draw, an, Q, β, st, h, a, w, hk, hr => by
    simp only [codeVC] at hk
    cases draw with
    | false =>
      simp only at hk
      exact wp_region (reg_sound (K := fun st h => Q .normal st h) (fun a w hb => hb) _ β st h a w hk hr)
    | true =>
      simp only at hk
      split at hk
      · rename_i hns
        have h1 := draw_sound (K := fun st h => Q .normal st h) hns ops.size (Array.replicate ops.size false) [] [] [] β st h a { w with drawn := w.drawn + 1 } hk (hr.drew _) (fun f hf => by simp at hf) (fun q hq => by simp at hq)
        have h2 : (Code.region id ops true).wp P (NormalOnly (Behind N Keep Hide W0 fun st h => Q .normal st h)) a w := wp_region_any hm (wpAny_of_D _ _ _ _ _ h1)
        refine wp_mono h2 fun e a' w' hq => ?_
        cases e <;> first | exact hq | exact hq.elim
      · exact hk.elim
  | .seq x y, an, Q, β, st, h, a, w, hk, hr => by
    cases an with
    | seq ax ay =>
      simp only [codeVC] at hk
      refine wp_seq (wp_mono (code_sound hm x ax _ β st h a w hk hr) fun e a' w' hq => ?_)
      obtain ⟨β', st', h', hr', hq⟩ := hq
      cases e with
      | normal => exact code_sound hm y ay Q β' st' h' a' w' hq hr'
      | _ => exact ⟨β', st', h', hr', hq⟩
    | join lv ax ay =>
      simp only [codeVC] at hk
      refine wp_seq (wp_mono (code_sound hm x ax _ β st h a w hk hr) fun e a' w' hq => ?_)
      obtain ⟨β', st', h', hr', hq⟩ := hq
      cases e with
      | normal =>
        obtain ⟨t, ht, hr''⟩ := pack_sound hq hr'
        exact code_sound hm y ay Q β' _ h' a' w' ht hr''
      | _ => exact ⟨β', st', h', hr', hq⟩
    | _ => simp only [codeVC] at hk
  | .cond c x y, an, Q, β, st, h, a, w, hk, hr => by
    cases an with
    | cond ax ay =>
      simp only [codeVC] at hk
      split at hk
      · rename_i b hb
        rw [br_iff] at hk
        have hev := hr.evv hb
        cases b with
        | true => exact wp_cond_true hev (code_sound hm x ax Q β st h a w (hk.1 rfl) hr)
        | false => exact wp_cond_false hev (code_sound hm y ay Q β st h a w (hk.2 rfl) hr)
      · exact hk.elim
    | _ => simp only [codeVC] at hk
  | .block id c, an, Q, β, st, h, a, w, hk, hr => by
    cases an with
    | one ax =>
      simp only [codeVC] at hk
      refine wp_block (wp_mono (code_sound hm c ax _ β st h a w hk hr) fun e a' w' hq => ?_)
      obtain ⟨β', st', h', hr', hq⟩ := hq
      cases e with
      | exit id' =>
        simp only at hq
        show (if id' = id then _ else _)
        split at hq
        · rename_i hb
          rw [if_pos (Nat.eq_of_beq_eq_true hb)]
          exact ⟨β', st', h', hr', hq⟩
        · rename_i hb
          rw [if_neg (Nat.ne_of_beq_eq_false hb)]
          exact ⟨β', st', h', hr', hq⟩
      | _ => exact ⟨β', st', h', hr', hq⟩
    | _ => simp only [codeVC] at hk
  | .loop c, an, Q, β, st, h, a, w, hk, hr => by
    cases an with
    | loop lv ax =>
      simp only [codeVC] at hk
      obtain ⟨I, m, hstart, hround⟩ := hk
      obtain ⟨t0, ht0, hr0⟩ := pack_sound hstart hr
      refine wp_loop_ghost (G := Tup lv.shapes × GH) (fun g a w => I g.1 g.2 ∧ ∃ β, Rel N Keep Hide W0 β (unpack lv g.1) g.2 a w) (fun g => m g.1 g.2) (g0 := (t0, h)) ⟨ht0, β, hr0⟩ ?_
      rintro ⟨t, h1⟩ a1 w1 ⟨hI, β1, hr1⟩
      refine wp_mono (code_sound hm c ax _ β1 _ h1 a1 w1 (hround t h1 hI) hr1) fun e a' w' hq => ?_
      obtain ⟨β', st', h', hr', hq⟩ := hq
      cases e with
      | normal =>
        obtain ⟨t', ⟨hI', hlt⟩, hr''⟩ := pack_sound hq hr'
        exact ⟨(t', h'), ⟨hI', β', hr''⟩, hlt⟩
      | _ => exact ⟨β', st', h', hr', hq⟩
    | _ => simp only [codeVC] at hk
  | .exit id, an, Q, β, st, h, a, w, hk, hr => wp_exit ⟨β, st, h, hr, by simpa only [codeVC] using hk⟩
  | .ret, an, Q, β, st, h, a, w, hk, hr => wp_ret ⟨β, st, h, hr, by simpa only [codeVC] using hk⟩
  | .rangeFunc .., an, Q, β, st, h, a, w, hk, hr => by simp only [codeVC] at hk
  | .scope .., an, Q, β, st, h, a, w, hk, hr => by simp only [codeVC] at hk
  | .label .., an, Q, β, st, h, a, w, hk, hr => by simp only [codeVC] at hk
  | .goto .., an, Q, β, st, h, a, w, hk, hr => by simp only [codeVC] at hk
  | .refuse .., an, Q, β, st, h, a, w, hk, hr => by simp only [codeVC] at hk

theorem res_sound (hr : Rel N Keep Hide W0 β st h a w) : ∀ (l : List ResultVar) {K : List Value → Prop}, resVC P st h l K → ∃ vs, K vs ∧
    (l.mapM (m := Sem) fun
      | .tmp t => pure (a.tmps.getD t undef)
      | .cell x t => do loadVar t (← asAddr (a.tmps.getD x undef))).run P w = .ok vs w
  | [], K, hk => ⟨[], hk, rfl⟩
  | .tmp t :: r, K, hk => by
    simp only [resVC] at hk
    split at hk
    · rename_i v hv
      obtain ⟨vs, hK, hrun⟩ := res_sound hr r hk
      have h1 : a.tmps.getD t undef = v := hr.fr t _ hv
      exact ⟨v :: vs, hK, by simp only [List.mapM_cons, Sem.run_bind, Sem.run_pure, Result.andThen_ok, h1, hrun]⟩
    · exact hk.elim
  | .cell x t :: r, K, hk => by
    simp only [resVC] at hk
    split at hk
    · rename_i s off hx
      have h1 : a.tmps.getD x undef = .pointer (some ⟨β s, off, none⟩) := hr.fr x _ hx
      split at hk
      · rename_i us hus
        obtain ⟨fv, fact, v, hk, hv, hf, hrun0⟩ := load_priv_val (P := P) (h := h) (a := a) (o := { (default : Oper) with op := .load t (.tmp x) }) (KV := fun fv _ => match fv with | .v v => resVC P st h r fun vs => K (v :: vs) | _ => False) rfl (x := .tmp x) hx hus hk hr.knows
        cases fv with
        | v y =>
          simp only [FVal.ok] at hv
          subst hv
          obtain ⟨vs, hK, hrun⟩ := res_sound hr r hk
          have h2 := hrun0 w (hr.fact hf)
          have h3 : (loadVar t ⟨β s, off, none⟩).run P w = .ok v w := by
            have e1 : a.eval (.tmp x) = .pointer (some ⟨β s, off, none⟩) := h1
            simp only [execOp, e1, Instr.loadAt, Instr.sureAddr, Sem.run_bind, Sem.run_pure, Result.andThen_ok] at h2
            generalize hq : (loadVar t ⟨β s, off, none⟩).run P w = q at h2
            cases q with
            | ok y w' => simp only [Result.andThen_ok] at h2; injection h2 with h2 h2'; injection h2 with h2; subst h2 h2'; rfl
            | halt y w' => simp at h2
          have h4 : (asAddr (a.tmps.getD x undef)).run P w = .ok ⟨β s, off, none⟩ w := by rw [h1]; rfl
          exact ⟨v :: vs, hK, by simp only [List.mapM_cons, Sem.run_bind, Sem.run_pure, Result.andThen_ok, h4, h3, hrun]⟩
        | _ => exact hk.elim
      · exact hk.elim
    · rename_i p hx
      have h1 : a.tmps.getD x undef = .pointer (some p) := hr.fr x _ hx
      obtain ⟨fv, fact, v, hk, hv, hf, hrun0⟩ := load_heap_val (P := P) (st := st) (a := a) (o := { (default : Oper) with op := .load t (.tmp x) }) (KV := fun fv _ => match fv with | .v v => resVC P st h r fun vs => K (v :: vs) | _ => False) rfl (x := .tmp x) hx hk hr.knows
      cases fv with
      | v y =>
        simp only [FVal.ok] at hv
        subst hv
        obtain ⟨vs, hK, hrun⟩ := res_sound hr r hk
        have h2 := hrun0 w (hr.fact hf)
        have h3 : (loadVar t p).run P w = .ok v w := by
          have e1 : a.eval (.tmp x) = .pointer (some p) := h1
          simp only [execOp, e1, Instr.loadAt, Instr.sureAddr, Sem.run_bind, Sem.run_pure, Result.andThen_ok] at h2
          generalize hq : (loadVar t p).run P w = q at h2
          cases q with
          | ok y w' => simp only [Result.andThen_ok] at h2; injection h2 with h2 h2'; injection h2 with h2; subst h2 h2'; rfl
          | halt y w' => simp at h2
        have h4 : (asAddr (a.tmps.getD x undef)).run P w = .ok p w := by rw [h1]; rfl
        exact ⟨v :: vs, hK, by simp only [List.mapM_cons, Sem.run_bind, Sem.run_pure, Result.andThen_ok, h4, h3, hrun]⟩
      | _ => exact hk.elim
    · exact hk.elim

theorem look_initF {t : Nat} {x : FVal} : ∀ {args : List Value} {n : Nat}, look t (initF n args) = some x → ∃ v, x = .v v ∧ n ≤ t ∧ args[t - n]? = some v
  | [], n, h => by simp [initF, look] at h
  | v :: vs, n, h => by
    simp only [initF, look] at h
    split at h
    · rename_i hb
      have := Nat.eq_of_beq_eq_true hb
      subst this
      simp only [Option.some.injEq] at h
      exact ⟨v, h.symm, Nat.le_refl _, by simp⟩
    · obtain ⟨u, h1, h2, h3⟩ := look_initF h
      exact ⟨u, h1, by omega, by rw [show t - n = (t - (n + 1)) + 1 by omega]; simpa using h3⟩

/-- A function's contract, out of its body. -/
theorem GC_of {f : FuncId} {fn : Func} {an : Ann} {args : List Value} {K : Value → GH → Prop} (hm : P.follows .mixedOrders = true) (hf : P.funcs[f]? = some fn) (hk : fnVC P fn hp an args h K) : GC P f args h K := by
  unfold fnVC at hk
  split at hk
  · rename_i c hb hle
    have hle' := Nat.le_of_ble_eq_true hle
    intro Keep Hide W0 w hR
    refine calls_of_wp hf hb ?_
    have hrel : Rel fn.ntmps Keep Hide W0 (fun _ => 0) ⟨initF 0 args, []⟩ h { tmps := args.toArray ++ Array.replicate (fn.ntmps - args.toArray.size) undef, defers := [] } w := by
      refine ⟨hR, by simp; omega, rfl, fun t x hx => ?_, fun s vs hs => by simp [look] at hs, fun s s' vs vs' hs => by simp [look] at hs⟩
      obtain ⟨v, rfl, _, hv⟩ := look_initF hx
      rw [Nat.sub_zero] at hv
      have hlt : t < args.length := (List.getElem?_eq_some_iff.1 hv).1
      have e1 : (args.toArray ++ Array.replicate (fn.ntmps - args.toArray.size) undef)[t]? = some v := by
        rw [Array.getElem?_append_left (by simpa using hlt)]
        simpa using hv
      have e2 : (args.toArray ++ Array.replicate (fn.ntmps - args.toArray.size) undef).getD t undef = v := by
        have hlt2 : t < (args.toArray ++ Array.replicate (fn.ntmps - args.toArray.size) undef).size := by simp; omega
        rw [Array.getElem?_eq_getElem hlt2] at e1
        simp only [Array.getD, hlt2, dite_true]
        exact Option.some.inj e1
      exact e2
    refine wp_mono (code_sound hm c an _ _ _ h _ w hk hrel) fun e a' w' hq => ?_
    obtain ⟨β', st', h', hr', hq⟩ := hq
    have fin : resVC P st' h' fn.results.toList (fun vs => K (oneOf vs) h') → a'.defers = [] ∧ ∃ v, (results fn a'.tmps).run P w' = .ok v w' ∧ (∃ v1 h1, Ending.returned v = .returned v1 ∧ R Keep Hide W0 h1 w' ∧ K v1 h1) := by
      intro hres
      obtain ⟨vs, hK, hrun⟩ := res_sound hr' _ hres
      refine ⟨hr'.df, oneOf vs, ?_, _, h', rfl, hr'.r, hK⟩
      unfold results
      rw [Array.mapM_eq_mapM_toList]
      simp only [Sem.run_bind, Sem.run_map]
      refine (congrArg (fun r => Result.andThen (Result.andThen r fun a w' => Result.ok a.toArray w') fun vs w' => (pure (if h : vs.size = 1 then vs[0] else .tuple vs) : Sem Value).run P w') hrun).trans ?_
      simp only [Result.andThen_ok, Sem.run_pure]
      congr 1
      split
      · rename_i hsz
        have hl : vs.length = 1 := by simpa using hsz
        obtain ⟨v, rfl⟩ := List.length_eq_one_iff.1 hl
        rfl
      · rename_i hsz
        unfold oneOf
        split
        · exact absurd rfl hsz
        · rfl
    cases e with
    | normal => exact fin hq
    | ret => exact fin hq
    | _ => exact hq.elim
  · exact hk.elim
end Go.Gv
