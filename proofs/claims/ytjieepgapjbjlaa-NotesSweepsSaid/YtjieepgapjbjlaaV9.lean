/- The ghost machine is sound: regions. -/
import Derived.Test.YtjieepgapjbjlaaV8
namespace Go.Gv
set_option linter.unusedVariables false

variable {P : Program} {N : Nat} {hp : List Nat} {Keep Hide : Nat → Prop} {W0 : World} {β : Nat → Nat} {st : St} {h : GH} {a : Act} {w : World} {K : St → GH → Prop} {o : Oper} {ops : Array Oper}

/-- What holds behind a region or a piece of code. -/
def Behind (N : Nat) (Keep Hide : Nat → Prop) (W0 : World) (K : St → GH → Prop) (a : Act) (w : World) : Prop := ∃ β st h, Rel N Keep Hide W0 β st h a w ∧ K st h

theorem Rel.weak (hr : Rel N Keep Hide W0 β st h a w) {st' : St} (hf : ∀ t x, look t st'.f = some x → x.ok β (a.tmps.getD t undef)) (hl : ∀ s vs, look s st'.l = some vs → look s st.l = some vs) : Rel N Keep Hide W0 β st' h a w :=
  ⟨hr.r, hr.sz, hr.df, hf, fun s vs hs => hr.lo s vs (hl s vs hs), fun s s' vs vs' h1 h2 he => hr.inj s s' vs vs' (hl _ _ h1) (hl _ _ h2) he⟩

theorem Rel.same (hr : Rel N Keep Hide W0 β st h a w) {d : Nat} {v v' : Value} (hd : look d st.f = some (.v v)) (he : v = v') : Rel N Keep Hide W0 β { st with f := upd d (.v v') st.f } h a w :=
  hr.weak (fun t x hx => by
    rw [look_upd] at hx
    by_cases ht : t = d
    · subst ht
      rw [if_pos rfl, Option.some.injEq] at hx
      subst hx he
      exact hr.fr t _ hd
    · rw [if_neg ht] at hx
      exact hr.fr t x hx) (fun s vs hs => hs)

theorem yielded_of (hr : Rel N Keep Hide W0 β st h a w) {j d : Nat} (hj : (ops[j]?).bind (·.dst) = some d) {v : Value} (hd : look d st.f = some (.v v)) :
    yielded ops a.tmps j = (match v with | .bool b => some b | _ => none) := by
  have h1 : a.tmps.getD d undef = v := hr.fr d _ hd
  unfold yielded
  rw [hj]
  simp only [Option.bind_some]
  rcases Nat.lt_or_ge d a.tmps.size with hlt | hge
  · have : a.tmps[d]? = some v := by
      rw [Array.getElem?_eq_getElem hlt]
      have : a.tmps.getD d undef = a.tmps[d] := by simp [hlt]
      rw [← h1, this]
    rw [this]
    cases v <;> rfl
  · have : a.tmps.getD d undef = undef := by simp [Array.getElem?_eq_none hge]
    rw [this] at h1
    subst h1
    rw [Array.getElem?_eq_none hge]
    rfl

/-- A guard parts the ways as the machine does. -/
theorem guard_sound {yes no : St → Prop} (hk : guardVC ops o st yes no) (hr : Rel N Keep Hide W0 β st h a w) :
    ∃ st', st'.l = st.l ∧ Rel N Keep Hide W0 β st' h a w ∧ ((Region.wanted o (yielded ops a.tmps) = true ∧ yes st') ∨ (Region.wanted o (yielded ops a.tmps) = false ∧ no st')) := by
  unfold guardVC at hk
  unfold Region.wanted
  split at hk
  · rename_i hg
    exact ⟨st, rfl, hr, .inl ⟨by rw [hg], hk⟩⟩
  · rename_i j want hg
    rw [hg]
    split at hk
    · exact hk.elim
    · rename_i d hd
      split at hk
      · rename_i b hb
        have hy := yielded_of hr hd hb
        simp only at hy
        simp only [hy]
        cases want with
        | true =>
          simp only at hk
          rw [br_iff] at hk
          cases b with
          | true => exact ⟨{ st with f := upd d (.v (.bool true)) st.f }, rfl, hr.same hb rfl, .inl ⟨rfl, hk.1 rfl⟩⟩
          | false => exact ⟨{ st with f := upd d (.v (.bool false)) st.f }, rfl, hr.same hb rfl, .inr ⟨rfl, hk.2 rfl⟩⟩
        | false =>
          simp only at hk
          rw [br_iff] at hk
          cases b with
          | true => exact ⟨{ st with f := upd d (.v (.bool true)) st.f }, rfl, hr.same hb rfl, .inr ⟨rfl, hk.1 rfl⟩⟩
          | false => exact ⟨{ st with f := upd d (.v (.bool false)) st.f }, rfl, hr.same hb rfl, .inl ⟨rfl, hk.2 rfl⟩⟩
      · rename_i vs hb
        have hy := yielded_of hr hd hb
        simp only at hy
        simp only [hy]
        exact ⟨st, rfl, hr, .inr ⟨by simp, hk⟩⟩
      · exact hk.elim

theorem reg_sound {Q : Exit → Act → World → Prop} (hQ : ∀ a w, Behind N Keep Hide W0 K a w → Q .normal a w) : ∀ (l : List Nat) (β : Nat → Nat) (st : St) (h : GH) (a : Act) (w : World),
    regVC P N hp ops l st h K → Rel N Keep Hide W0 β st h a w → wpOps P ops Q l a w
  | [], β, st, h, a, w, hk, hr => hQ a w ⟨β, st, h, hr, hk⟩
  | i :: r, β, st, h, a, w, hk, hr => by
    rw [wpOps_cons]
    unfold wpOp
    simp only [regVC] at hk
    split at hk
    · rename_i hi
      simp only [hi]
      exact reg_sound hQ r β st h a w hk hr
    · rename_i o hi
      simp only [hi]
      obtain ⟨st', hl, hr', hcase⟩ := guard_sound hk hr
      rcases hcase with ⟨hw, hk⟩ | ⟨hw, hk⟩
      · rw [if_pos hw]
        refine .inl ?_
        have := op_sound (Q := Q) hk hr'
        refine Oper.wp_mono (fun a' w' hp => ?_) this
        obtain ⟨β', st'', h'', hr'', hk'', _⟩ := hp
        exact reg_sound hQ r β' st'' h'' a' w' hk'' hr''
      · rw [if_neg (by rw [hw]; simp)]
        obtain ⟨β', st'', h'', hr'', hk'', _⟩ := putD_sound hk hr' (x := .v undef) (v := undef) rfl
        exact reg_sound hQ r β' st'' h'' _ _ hk'' hr''

/-! ### A region whose order is open -/

theorem liveB_iff {eff : List Nat} {i : Nat} : liveB ops eff i = true ↔ Live ops eff i := by
  refine ⟨liveB_spec, fun h => ?_⟩
  unfold liveB
  rw [List.all_eq_true]
  intro j hj
  split
  · rename_i oj hoj
    rw [List.all_eq_true]
    intro e he
    have := h j oj hj hoj e (by simpa using he)
    cases hb : Region.binds .any e with
    | false => rfl
    | true =>
      have h1 := this hb
      have : Nat.beq e.on i = false := by
        cases hq : Nat.beq e.on i with
        | true => exact absurd (Nat.eq_of_beq_eq_true hq) h1
        | false => rfl
      simp [this]
  · rfl

theorem askFacts_out {j : Nat} : ∀ {F : List (Nat × Fact)} {K : Prop}, askFacts ops j st h F K → K ∧ ∀ f ∈ keepFacts ops j F, f.2.ok st h
  | [], K, hk => ⟨hk, fun f hf => by simp [keepFacts] at hf⟩
  | (i, f) :: r, K, hk => by
    simp only [askFacts] at hk
    simp only [keepFacts]
    split at hk
    · cases f with
      | none =>
        obtain ⟨h1, h2⟩ := askFacts_out hk
        exact ⟨h1, fun f hf => by
          rcases List.mem_cons.1 hf with rfl | hf
          · trivial
          · exact h2 f hf⟩
      | heap p vs =>
        obtain ⟨h1, h2⟩ := askFacts_out hk.2
        exact ⟨h1, fun f hf => by
          rcases List.mem_cons.1 hf with rfl | hf
          · exact hk.1
          · exact h2 f hf⟩
      | priv s vs =>
        obtain ⟨h1, h2⟩ := askFacts_out hk.2
        exact ⟨h1, fun f hf => by
          rcases List.mem_cons.1 hf with rfl | hf
          · exact hk.1
          · exact h2 f hf⟩
    · exact askFacts_out hk

theorem mem_keepFacts {j : Nat} {f : Nat × Fact} : ∀ {F : List (Nat × Fact)}, f ∈ keepFacts ops j F ↔ f ∈ F ∧ liveB ops [j] f.1 = true
  | [] => by simp [keepFacts]
  | (i, g) :: r => by
    simp only [keepFacts]
    split
    · rename_i hl
      rw [List.mem_cons, List.mem_cons, mem_keepFacts]
      constructor
      · rintro (rfl | ⟨h1, h2⟩)
        · exact ⟨.inl rfl, hl⟩
        · exact ⟨.inr h1, h2⟩
      · rintro ⟨rfl | h1, h2⟩
        · exact .inl rfl
        · exact .inr ⟨h1, h2⟩
    · rename_i hl
      rw [mem_keepFacts, List.mem_cons]
      constructor
      · rintro ⟨h1, h2⟩
        exact ⟨.inr h1, h2⟩
      · rintro ⟨rfl | h1, h2⟩
        · rw [hl] at h2; exact absurd h2 (by simp)
        · exact ⟨h1, h2⟩

theorem noPriv_spec {d : Option Tmp} {i s : Nat} {vs : List Value} : ∀ {F : List (Nat × Fact)}, noPriv d F = true → (i, Fact.priv s vs) ∈ F → d ≠ some s
  | [], _, hm => by simp at hm
  | (j, g) :: r, hn, hm => by
    rcases List.mem_cons.1 hm with he | hm
    · simp only [Prod.mk.injEq] at he
      obtain ⟨rfl, rfl⟩ := he
      simp only [noPriv] at hn
      split at hn
      · rename_i t
        split at hn
        · exact absurd hn (by simp)
        · rename_i hb
          intro e
          simp only [Option.some.injEq] at e
          subst e
          simp at hb
      · simp
    · refine noPriv_spec (F := r) ?_ hm
      cases g <;> simp only [noPriv] at hn
      · exact hn
      · exact hn
      · split at hn
        · split at hn
          · exact absurd hn (by simp)
          · exact hn
        · exact hn

theorem Fact.holds_eq {f : Fact} {β' : Nat → Nat} (h : ∀ s vs, f = .priv s vs → β' s = β s) (w : World) : f.holds β' w ↔ f.holds β w := by
  cases f with
  | none => exact Iff.rfl
  | heap p vs => exact Iff.rfl
  | priv s vs => simp only [Fact.holds, h s vs rfl]

/-- The ghost facts cover the world's. -/
def Cover (ops : Array Oper) (β : Nat → Nat) (F : List (Nat × Fact)) (Fw : List (Nat × (World → Prop))) (eff : List Nat) : Prop :=
  ∀ q ∈ Fw, Live ops eff q.1 → ∃ f, (q.1, f) ∈ F ∧ ∀ w, f.holds β w → q.2 w

theorem Cover.stand {F : List (Nat × Fact)} {Fw : List (Nat × (World → Prop))} {eff : List Nat} (hc : Cover ops β F Fw eff) (hF : ∀ f ∈ F, f.2.ok st h) (hr : Rel N Keep Hide W0 β st h a w) : Stand ops Fw eff w := fun q hq hl => by
  obtain ⟨f, hf, hw⟩ := hc q hq hl
  exact hw w (hr.fact (hF _ hf))

theorem putD_out {d : Option Tmp} {x : FVal} {v : Value} (hk : putD N st d x h K) (hr : Rel N Keep Hide W0 β st h a w) (hx : x.ok β v) : ∃ st', st'.l = st.l ∧ Rel N Keep Hide W0 β st' h (a.put d v) w ∧ K st' h := by
  unfold putD at hk
  cases d with
  | none => exact ⟨st, rfl, hr, hk⟩
  | some t =>
    dsimp only at hk
    split at hk
    · rename_i hb
      have ht : t < N := by simpa [Nat.blt_eq] using hb
      exact ⟨{ st with f := upd t x st.f }, rfl, hr.put ht hx, hk⟩
    · exact hk.elim

theorem Fact.ok_l {f : Fact} {st st' : St} (he : st'.l = st.l) (hf : f.ok st h) : f.ok st' h := by
  cases f with
  | none => trivial
  | heap p vs => exact hf
  | priv s vs => simp only [Fact.ok] at hf ⊢; rw [he]; exact hf

theorem firstTake_out {listed : Array Bool} {eff : List Nat} {i : Nat} : ∀ {l : List Nat}, firstTake ops listed eff l = some i → i ∈ l ∧ isTake ops listed eff i = true
  | [], hk => by simp [firstTake] at hk
  | j :: r, hk => by
    simp only [firstTake] at hk
    split at hk
    · rename_i hj
      simp only [Option.some.injEq] at hk
      subst hk
      exact ⟨List.mem_cons_self .., hj⟩
    · obtain ⟨h1, h2⟩ := firstTake_out hk
      exact ⟨List.mem_cons_of_mem _ h1, h2⟩

theorem allVC_out {B : Nat → Prop} : ∀ {l : List Nat}, allVC B l → ∀ i ∈ l, B i
  | [], _, i, hi => by simp at hi
  | [j], hk, i, hi => by
    have : i = j := by simpa using hi
    subst this
    exact hk
  | j :: k :: r, hk, i, hi => by
    rcases List.mem_cons.1 hi with rfl | hi
    · exact hk.1
    · exact allVC_out hk.2 i hi

def NormalOnly (K : Act → World → Prop) : Exit → Act → World → Prop
  | .normal, a, w => K a w
  | _, _, _ => False

theorem draw_sound (hns : Region.noSelect ops = true) : ∀ (fuel : Nat) (listed : Array Bool) (eff : List Nat) (F : List (Nat × Fact)) (Fw : List (Nat × (World → Prop))) (β : Nat → Nat) (st : St) (h : GH) (a : Act) (w : World),
    drawVC P N hp ops fuel listed eff F st h K → Rel N Keep Hide W0 β st h a w → (∀ f ∈ F, f.2.ok st h) → Cover ops β F Fw eff → wpAnyD P ops (NormalOnly (Behind N Keep Hide W0 K)) Fw fuel listed eff a w := by
  intro fuel
  induction fuel with
  | zero =>
    intro listed eff F Fw β st h a w hk hr hF hc
    simp only [drawVC] at hk
    split at hk
    · rename_i hrd
      exact ⟨hrd, β, st, h, hr, hk⟩
    · exact hk.elim
  | succ fuel ih =>
    intro listed eff F Fw β st h a w hk hr hF hc
    simp only [drawVC] at hk
    split at hk
    · rename_i hrd
      exact wpAnyD_done hrd ⟨β, st, h, hr, hk⟩ _
    · rename_i r rs hrd
      split at hk
      · rename_i i hft
        obtain ⟨hmem, htake⟩ := firstTake_out hft
        split at hk
        · exact hk.elim
        · rename_i o hi
          have hfree : Region.free .any ops listed i = true ∧ liveB ops eff i = true := by
            unfold isTake at htake
            rw [hi] at htake
            simp only [Bool.and_eq_true] at htake
            exact ⟨htake.1.2, htake.2⟩
          have hready : i ∈ Region.ready .any ops listed := by rw [hrd]; exact hmem
          obtain ⟨st', hl', hr', hcase⟩ := guard_sound hk hr
          have hF' : ∀ f ∈ F, f.2.ok st' h := fun f hf => Fact.ok_l hl' (hF f hf)
          rcases hcase with ⟨hw, hk⟩ | ⟨hw, hk⟩
          · obtain ⟨fv, fact, v, hk, hv, hfok, hrun⟩ := val_sound hk hr'.knows
            obtain ⟨st'', hl'', hr'', hk⟩ := putD_out hk hr' hv
            refine wpAnyD_take (oi := o) (v := v) (φ := fact.holds β) hi hns hfree.1 hready hfree.2 (fun _ _ _ h => h) (.inl ⟨hw, hrun⟩) (hr'.fact hfok) (hc.stand hF' hr') ?_
            refine ih _ _ _ _ β st'' h _ w hk hr'' (fun f hf => ?_) (fun q hq hlive => ?_)
            · rcases List.mem_cons.1 hf with rfl | hf
              · exact Fact.ok_l hl'' hfok
              · exact Fact.ok_l hl'' (hF' f hf)
            · rcases List.mem_cons.1 hq with rfl | hq
              · exact ⟨fact, List.mem_cons_self .., fun w hw => hw⟩
              · obtain ⟨f, hf, hh⟩ := hc q hq hlive
                exact ⟨f, List.mem_cons_of_mem _ hf, hh⟩
          · obtain ⟨st'', hl'', hr'', hk⟩ := putD_out hk hr' (x := .v undef) (v := undef) rfl
            refine wpAnyD_take (oi := o) (v := undef) (φ := fun _ => True) hi hns hfree.1 hready hfree.2 (fun _ _ _ h => h) (.inr ⟨hw, rfl⟩) trivial (hc.stand hF' hr') ?_
            refine ih _ _ _ _ β st'' h _ w hk hr'' (fun f hf => ?_) (fun q hq hlive => ?_)
            · rcases List.mem_cons.1 hf with rfl | hf
              · trivial
              · exact Fact.ok_l hl'' (hF' f hf)
            · rcases List.mem_cons.1 hq with rfl | hq
              · exact ⟨.none, List.mem_cons_self .., fun w hw => trivial⟩
              · obtain ⟨f, hf, hh⟩ := hc q hq hlive
                exact ⟨f, List.mem_cons_of_mem _ hf, hh⟩
      · rename_i hft
        refine ⟨fun he => (by rw [hrd] at he; cases he), fun i hi => ?_⟩
        rw [hrd] at hi
        have hk := allVC_out hk i hi
        unfold wpOp
        split at hk
        · exact hk.elim
        · rename_i o ho
          simp only [ho]
          split at hk
          · rename_i hnp
            obtain ⟨st', hl', hr', hcase⟩ := guard_sound hk hr
            have hF' : ∀ f ∈ F, f.2.ok st' h := fun f hf => Fact.ok_l hl' (hF f hf)
            have cover : ∀ β' : Nat → Nat, (∀ s, o.dst ≠ some s → β' s = β s) → Cover ops β' (keepFacts ops i F) Fw (i :: eff) := fun β' hβ q hq hlive => by
              obtain ⟨f, hf, hh⟩ := hc q hq (hlive.mono fun j hj => List.mem_cons_of_mem _ hj)
              refine ⟨f, mem_keepFacts.2 ⟨hf, liveB_iff.2 (hlive.mono fun j hj => ?_)⟩, fun w hw => hh w ((Fact.holds_eq (fun s vs he => ?_) w).1 hw)⟩
              · have : j = i := by simpa using hj
                subst this
                exact List.mem_cons_self ..
              · subst he
                exact hβ s (noPriv_spec hnp hf)
            rcases hcase with ⟨hw, hk⟩ | ⟨hw, hk⟩
            · rw [if_pos hw]
              refine .inl (Oper.wp_mono (fun a' w' hp => ?_) (op_sound (Q := NormalOnly (Behind N Keep Hide W0 K)) hk hr'))
              obtain ⟨β', st'', h'', hr'', hk'', hβ⟩ := hp
              obtain ⟨hk3, hfacts⟩ := askFacts_out hk''
              have hcov := cover β' hβ
              exact ⟨hcov.stand hfacts hr'', ih _ _ _ _ β' st'' h'' a' w' hk3 hr'' hfacts hcov⟩
            · rw [if_neg (by rw [hw]; simp)]
              obtain ⟨st'', hl'', hr'', hk⟩ := putD_out hk hr' (x := .v undef) (v := undef) rfl
              have hcov := cover β (fun _ _ => rfl)
              have hfacts : ∀ f ∈ keepFacts ops i F, f.2.ok st'' h := fun f hf => Fact.ok_l hl'' (hF' f (mem_keepFacts.1 hf).1)
              exact ⟨hcov.stand hfacts hr'', ih _ _ _ _ β st'' h _ _ hk hr'' hfacts hcov⟩
          · exact hk.elim
end Go.Gv
