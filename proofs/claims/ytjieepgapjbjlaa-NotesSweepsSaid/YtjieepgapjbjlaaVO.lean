/- Orders: an operation may be taken first where its fact stays till it is carried out. -/
import Derived.OrdersHeld
namespace Go.Gv
set_option linter.unusedVariables false
section
variable {P : Program} {ops : Array Oper} {Q : Exit → Act → World → Prop}

/-- Nothing that has been carried out waits for operation i. -/
def Live (ops : Array Oper) (eff : List Nat) (i : Nat) : Prop := ∀ j oj, j ∈ eff → ops[j]? = some oj → ∀ e ∈ oj.after, Region.binds .any e = true → e.on ≠ i

/-- The facts that are still wanted hold. -/
def Stand (ops : Array Oper) (F : List (Nat × (World → Prop))) (eff : List Nat) (w : World) : Prop := ∀ f ∈ F, Live ops eff f.1 → f.2 w

theorem Live.mono {eff eff' : List Nat} {i : Nat} (h : Live ops eff' i) (hs : ∀ j ∈ eff, j ∈ eff') : Live ops eff i := fun j oj hj => h j oj (hs j hj)

def wpAnyD (P : Program) (ops : Array Oper) (Q : Exit → Act → World → Prop) (F : List (Nat × (World → Prop))) : Nat → Array Bool → List Nat → Act → World → Prop
  | 0, listed, _, a, w => Region.ready .any ops listed = [] ∧ Q .normal a w
  | fuel + 1, listed, eff, a, w =>
    (Region.ready .any ops listed = [] → Q .normal a w) ∧
    ∀ i ∈ Region.ready .any ops listed, wpOp P ops Q i (fun a' w' => Stand ops F (i :: eff) w' ∧ wpAnyD P ops Q F fuel (listed.setIfInBounds i true) (i :: eff) a' w') a w

theorem wpAny_of_D {F : List (Nat × (World → Prop))} : ∀ (fuel : Nat) (listed : Array Bool) (eff : List Nat) (a : Act) (w : World), wpAnyD P ops Q F fuel listed eff a w → wpAny P .any ops Q fuel listed a w
  | 0, _, _, _, _, h => h
  | fuel + 1, _, _, _, _, h => ⟨h.1, fun i hi => wpOp_mono (fun a' w' h' => wpAny_of_D fuel _ _ a' w' h'.2) (h.2 i hi)⟩

theorem wpAnyD_mono {F : List (Nat × (World → Prop))} : ∀ (fuel : Nat) (listed : Array Bool) (eff eff' : List Nat) (a : Act) (w : World), (∀ j ∈ eff, j ∈ eff') → wpAnyD P ops Q F fuel listed eff a w → wpAnyD P ops Q F fuel listed eff' a w
  | 0, _, _, _, _, _, _, h => h
  | fuel + 1, _, eff, eff', _, _, hs, h => ⟨h.1, fun i hi => wpOp_mono (fun a' w' h' => ⟨fun f hf hl => h'.1 f hf (hl.mono fun j hj => by
      rcases List.mem_cons.1 hj with rfl | hj
      · exact List.mem_cons_self ..
      · exact List.mem_cons_of_mem _ (hs j hj)), wpAnyD_mono fuel _ _ _ a' w' (fun j hj => by
      rcases List.mem_cons.1 hj with rfl | hj
      · exact List.mem_cons_self ..
      · exact List.mem_cons_of_mem _ (hs j hj)) h'.2⟩) (h.2 i hi)⟩

/-- Operation i, that may come up now, is taken first: its value comes as long as its fact φ holds. -/
theorem wpAnyD_first {i : Nat} {oi : Oper} {v : Value} {φ : World → Prop} {F : List (Nat × (World → Prop))} (hi : ops[i]? = some oi) (hsel : ∀ (j : Nat) (o : Oper) cs b, ops[j]? = some o → o.op ≠ .select cs b)
    (hQ : ∀ c a w, Q (.panic c) (a.put oi.dst v) w → Q (.panic c) a w) :
    ∀ (fuel : Nat) (listed : Array Bool) (eff : List Nat) (a : Act) (w : World),
      (∀ j oj, ops[j]? = some oj → j ≠ i → listed.getD j true = false → (∀ e ∈ oj.after, Region.binds .any e = true → e.on ≠ i) → oi.apart ops oj = true) →
      i ∈ Region.ready .any ops listed → Live ops eff i → YieldsIf P ops φ oi v a → φ w → Stand ops F eff w →
      wpAnyD P ops Q ((i, φ) :: F) fuel (listed.setIfInBounds i true) eff (a.put oi.dst v) w → wpAnyD P ops Q F (fuel + 1) listed eff a w := by
  -- the same with one fact less
  have drop : ∀ (fuel : Nat) (listed : Array Bool) (eff : List Nat) (a : Act) (w : World), wpAnyD P ops Q ((i, φ) :: F) fuel listed eff a w → wpAnyD P ops Q F fuel listed eff a w := by
    intro fuel
    induction fuel with
    | zero => intro listed eff a w h; exact h
    | succ fuel ih =>
      intro listed eff a w h
      exact ⟨h.1, fun j hj => wpOp_mono (fun a' w' h' => ⟨fun f hf hl => h'.1 f (List.mem_cons_of_mem _ hf) hl, ih _ _ a' w' h'.2⟩) (h.2 j hj)⟩
  intro fuel
  induction fuel with
  | zero =>
    intro listed eff a w _ hr hl hy hS hF H
    refine ⟨fun h => (by rw [h] at hr; cases hr), fun j hj => ?_⟩
    by_cases hji : j = i
    · subst hji
      exact hy.wpOp hi hS ⟨fun f hf hl' => hF f hf (hl'.mono fun k hk => List.mem_cons_of_mem _ hk), H⟩
    · have := ready_mono hj hji
      rw [H.1] at this
      cases this
  | succ fuel ih =>
    intro listed eff a w hfree hr hl hy hS hF H
    refine ⟨fun h => (by rw [h] at hr; cases hr), fun j hj => ?_⟩
    by_cases hji : j = i
    · subst hji
      exact hy.wpOp hi hS ⟨fun f hf hl' => hF f hf (hl'.mono fun k hk => List.mem_cons_of_mem _ hk), wpAnyD_mono _ _ _ _ _ _ (fun k hk => List.mem_cons_of_mem _ hk) (drop _ _ _ _ _ H)⟩
    · have h1 := H.2 j (ready_mono hj hji)
      obtain ⟨hjun, oj, hoj, hall⟩ := mem_ready.1 hj
      have hnot : ∀ e ∈ oj.after, Region.binds .any e = true → e.on ≠ i := fun e he hb heq => by
        have h1 := hall e he hb
        have h0 := (mem_ready.1 hr).1
        rw [heq] at h1
        rcases Nat.lt_or_ge i listed.size with h' | h'
        · simp [h'] at h0 h1; rw [h0] at h1; cases h1
        · simp [Array.getElem?_eq_none h'] at h1
      have hl2 : Live ops (j :: eff) i := fun k ok hk => by
        rcases List.mem_cons.1 hk with rfl | hk
        · intro hok e he hb
          have : ok = oj := by rw [hoj] at hok; exact (Option.some.inj hok).symm
          subst this
          exact hnot e he hb
        · exact hl k ok hk
      have h2 := wpOp_putIf hoj (hfree j oj hoj hji hjun hnot) (fun cs b => hsel i oi cs b hi) (fun cs b => hsel j oj cs b hoj) hQ hy h1
      have hfree' : ∀ k ok, ops[k]? = some ok → k ≠ i → (listed.setIfInBounds j true).getD k true = false →
          (∀ e ∈ ok.after, Region.binds .any e = true → e.on ≠ i) → oi.apart ops ok = true := fun k ok hk hki hun hno => by
        refine hfree k ok hk hki ?_ hno
        by_cases hjk : j = k
        · subst hjk; exact hjun
        · rw [getD_set_ne true hjk] at hun; exact hun
      refine wpOp_mono (fun a' w' h3 => ?_) h2
      obtain ⟨hy', hst, hrest⟩ := h3
      have hφ : φ w' := hst (i, φ) (List.mem_cons_self ..) hl2
      have hF' : Stand ops F (j :: eff) w' := fun f hf hl' => hst f (List.mem_cons_of_mem _ hf) hl'
      refine ⟨hF', ih (listed.setIfInBounds j true) (j :: eff) a' w' hfree' (ready_mono hr (Ne.symm hji)) hl2 hy' hφ hF' ?_⟩
      rw [Array.setIfInBounds_comm _ _ hji]
      exact hrest

def liveB (ops : Array Oper) (eff : List Nat) (i : Nat) : Bool := eff.all fun j => match ops[j]? with
  | some oj => oj.after.toList.all fun e => !(Region.binds .any e && Nat.beq e.on i)
  | none => true

theorem liveB_spec {eff : List Nat} {i : Nat} (h : liveB ops eff i = true) : Live ops eff i := fun j oj hj hoj e he hb heq => by
  have h1 := List.all_eq_true.1 h j hj
  rw [hoj] at h1
  have h2 := List.all_eq_true.1 h1 e (by simpa using he)
  simp [hb, heq] at h2

theorem wpAnyD_take {i : Nat} {oi : Oper} {v : Value} {φ : World → Prop} {F : List (Nat × (World → Prop))} {fuel : Nat} {listed : Array Bool} {eff : List Nat} {a : Act} {w : World} (hi : ops[i]? = some oi)
    (hs : Region.noSelect ops = true) (hf : Region.free .any ops listed i = true) (hr : i ∈ Region.ready .any ops listed) (hl : liveB ops eff i = true)
    (hQ : ∀ c a w, Q (.panic c) (a.put oi.dst v) w → Q (.panic c) a w) (hy : YieldsIf P ops φ oi v a) (hφ : φ w) (hF : Stand ops F eff w)
    (h : wpAnyD P ops Q ((i, φ) :: F) fuel (listed.setIfInBounds i true) eff (a.put oi.dst v) w) : wpAnyD P ops Q F (fuel + 1) listed eff a w :=
  wpAnyD_first hi (Region.noSelect_spec hs) hQ fuel listed eff a w (Region.free_spec hi hf) hr (liveB_spec hl) hy hφ hF h

theorem wpAnyD_done {F : List (Nat × (World → Prop))} {listed : Array Bool} {eff : List Nat} {a : Act} {w : World} (hr : Region.ready .any ops listed = []) (h : Q .normal a w) : ∀ fuel, wpAnyD P ops Q F fuel listed eff a w
  | 0 => ⟨hr, h⟩
  | _ + 1 => ⟨fun _ => h, by rw [hr]; simp⟩
end
end Go.Gv
