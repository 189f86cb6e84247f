/- The ghost machine's operations: what each asks, and what it comes to. -/
import Derived.Test.YtjieepgapjbjlaaV0
namespace Go.Gv
set_option linter.unusedVariables false

/-- A test that is parted. -/
def br (b : Bool) (A B : Prop) : Prop :=
  match b with
  | true => A
  | false => B

theorem br_iff {b : Bool} {A B : Prop} : br b A B ↔ (b = true → A) ∧ (b = false → B) := by cases b <;> simp [br]

/-- A pointer that is not nil. -/
def nn (a : Option Addr) (K : Addr → Prop) : Prop :=
  match a with
  | some p => K p
  | none => False

def putD (N : Nat) (st : St) (d : Option Tmp) (v : FVal) (h : GH) (K : St → GH → Prop) : Prop :=
  match d with
  | none => K st h
  | some t => match Nat.blt t N with
    | true => K { st with f := upd t v st.f } h
    | false => False

def nth (vs : List Value) : Nat → Option Value := fun i => vs[i]?

def isAggT (P : Program) (t : TypeId) : Option Bool :=
  match P.underlying t with
  | some (.struct _) => some true
  | some (.array _ _) => some true
  | some _ => some false
  | none => none

/-- A value of the type out of a private block. -/
def ldL (P : Program) (t : TypeId) (vs : List Value) (off : Nat) (K : Value → Prop) : Prop :=
  match isAggT P t, sizeT P t with
  | some true, some n => match Nat.ble (off + n) vs.length with
    | true => K (.agg ⟨(vs.drop off).take n⟩)
    | false => False
  | some false, some _ => match vs[off]? with
    | some v => K v
    | none => False
  | _, _ => False

/-- A value of the type out of the ghost heap. -/
def ldH (P : Program) (t : TypeId) (h : GH) (p : Addr) (K : Value → List Value → Prop) : Prop :=
  match isAggT P t, sizeT P t with
  | some true, some n => match shapes P 20 t with
    | some sh => match Nat.beq sh.length n with
      | true => exC sh fun vs => Rds h p vs ∧ K (.agg ⟨vs⟩) vs
      | false => False
    | none => ∃ vs : List Value, vs.length = n ∧ Rds h p vs ∧ K (.agg ⟨vs⟩) vs
  | some false, some _ => exT1 P t fun v => Rds h p [v] ∧ K v [v]
  | _, _ => False

def fieldOff (P : Program) (s : TypeId) (i : Nat) : Option Nat :=
  match P.underlying s with
  | some (.struct fs) => match fs[i]? with
    | some f => match sizeT P f.type with
      | some n => match Nat.beq n 0 with
        | true => none
        | false => some f.offset
      | none => none
    | none => none
  | _ => none

/-- A new variable: of the heap where its slot is listed, else private. -/
def newV (N : Nat) (hp : List Nat) (st : St) (d : Option Tmp) (cells : List Value) (h : GH) (K : St → GH → Prop) : Prop :=
  match d with
  | none => False
  | some t => match hp.any (Nat.beq t) with
    | true => match cells.all one with
      | true => New h cells fun b h' => putD N st d (.v (.pointer (some ⟨b, 0, none⟩))) h' K
      | false => False
    | false => match Nat.blt t N with
      | true => K { f := upd t (.loc t 0) (unloc t st.f), l := upd t cells st.l } h
      | false => False

def newSl (N : Nat) (hp : List Nat) (st : St) (d : Option Tmp) (n : Nat) (cells : List Value) (h : GH) (K : St → GH → Prop) : Prop :=
  match d with
  | none => False
  | some t => match hp.any (Nat.beq t) with
    | true => match cells.all one with
      | true => New h cells fun b h' => putD N st d (.v (.slice (some ⟨b, 0, none⟩) n n)) h' K
      | false => False
    | false => match Nat.blt t N with
      | true => K { f := upd t (.lsl t n) (unloc t st.f), l := upd t cells st.l } h
      | false => False

/-! ### Equality -/

def isNilV : Value → Option Bool
  | .pointer a => some a.isNone
  | .slice a _ _ => some a.isNone
  | .map r => some r.isNone
  | .nilFunc => some true
  | .func .. => some false
  | .nilIface => some true
  | .iface .. => some false
  | _ => none

/-- The value of a type out of a row of cells. -/
def partB (P : Program) (t : TypeId) (cs : Array Value) (off : Nat) : Option Value := pev P (part t cs off)

def eqFields (E : TypeId → Value → Value → Option Bool) (P : Program) (xs ys : Array Value) : List Field → Option Bool
  | [] => some true
  | f :: fs => match decide (f.name = "_") with
    | true => none
    | false => match partB P f.type xs f.offset, partB P f.type ys f.offset with
      | some x, some y => match E f.type x y with
        | some b => match fs with
          | [] => some b
          | _ :: _ => match eqFields E P xs ys fs with
            | some b' => some (b && b')
            | none => none
        | none => none
      | _, _ => none

def eqB (P : Program) : Nat → TypeId → Value → Value → Option Bool
  | 0, _, _, _ => none
  | d + 1, t, x, y => match P.underlying t with
    | some .bool => match x, y with
      | .bool a, .bool b => some (a == b)
      | _, _ => none
    | some (.int _) => match x, y with
      | .int k a, .int k' b => match decide (k = k') with
        | true => some (a == b)
        | false => none
      | _, _ => none
    | some .string => match x, y with
      | .string a, .string b => some (a == b)
      | _, _ => none
    | some (.pointer _) => match y with
      | .pointer none => match x with
        | .pointer a => some a.isNone
        | _ => none
      | .pointer (some _) => match x with
        | .pointer none => some false
        | _ => none
      | _ => none
    | some (.slice _) => match y with
      | .slice none _ _ => match x with
        | .slice a _ _ => some a.isNone
        | _ => none
      | _ => none
    | some (.map _ _) => match y with
      | .map none => match x with
        | .map a => some a.isNone
        | _ => none
      | _ => none
    | some (.func _ _ _) => match y with
      | .nilFunc => match x with
        | .nilFunc => some true
        | .func _ _ _ => some false
        | _ => none
      | _ => none
    | some (.interface _) => match y with
      | .nilIface => match x with
        | .nilIface => some true
        | .iface _ _ => some false
        | _ => none
      | .iface ty vy => match x with
        | .nilIface => some false
        | .iface tx vx => match Nat.beq tx ty with
          | true => match (P.info? tx).map (·.comparable) with
            | some true => eqB P d tx vx vy
            | _ => none
          | false => some false
        | _ => none
      | _ => none
    | some (.struct fs) => match x, y with
      | .agg xs, .agg ys => match P.stoodInHeld t with
        | true => none
        | false => eqFields (eqB P d) P xs ys fs.toList
      | _, _ => none
    | _ => none

theorem pev_part {P : Program} {t : TypeId} {cs : Array Value} {off : Nat} {v : Value} (h : partB P t cs off = some v) (w : World) : (part t cs off).run P w = .ok v w := pev_run _ h w

theorem eqFields_run {P : Program} {E : TypeId → Value → Value → Option Bool} {d : Nat} (w : World) (hE : ∀ t x y b, E t x y = some b → (Op.equalIn d t x y).run P w = .ok b w) (xs ys : Array Value) :
    ∀ (fs : List Field) (b : Bool), eqFields E P xs ys fs = some b →
      (ForIn.forIn (m := Sem) fs ((none, ()) : Option Bool × Unit) fun f r => do
        if f.name ≠ "_" then
          if !(← Op.equalIn d f.type (← part f.type xs f.offset) (← part f.type ys f.offset)) then pure (ForInStep.done (some false, ()))
          else pure (ForInStep.yield (none, ()))
        else pure (ForInStep.yield (none, ()))).run P w = .ok (if b then (none, ()) else (some false, ())) w
  | [], b, h => by
    simp only [eqFields, Option.some.injEq] at h
    subst h
    simp
  | f :: fs, b, h => by
    simp only [eqFields] at h
    split at h
    · exact absurd h (by simp)
    · rename_i hn
      have hn' : f.name ≠ "_" := by simpa using hn
      split at h
      · rename_i x y hx hy
        split at h
        · rename_i b0 hb0
          have r0 := hE _ _ _ _ hb0
          simp only [List.forIn_cons, hn', ne_eq, not_false_eq_true, if_true, Sem.run_bind, pev_part hx w, pev_part hy w, Result.andThen_ok, r0]
          cases b0 with
          | false =>
            have : b = false := by
              split at h
              · simpa using h.symm
              · split at h
                · simpa using h.symm
                · exact absurd h (by simp)
            subst this
            simp
          | true =>
            simp only [Bool.not_true, Bool.false_eq_true, if_false, Sem.run_pure, Result.andThen_ok]
            split at h
            · simp only [Option.some.injEq] at h
              subst h
              simp
            · split at h
              · rename_i b' hb'
                simp only [Bool.true_and, Option.some.injEq] at h
                subst h
                exact eqFields_run w hE xs ys _ b' hb'
              · exact absurd h (by simp)
        · exact absurd h (by simp)
      · exact absurd h (by simp)

theorem eqB_run {P : Program} (w : World) : ∀ (d : Nat) (t : TypeId) (x y : Value) (b : Bool), eqB P d t x y = some b → (Op.equalIn d t x y).run P w = .ok b w
  | 0, _, _, _, _, h => by simp [eqB] at h
  | d + 1, t, x, y, b, h => by
    simp only [eqB] at h
    unfold Op.equalIn
    split at h
    · rename_i hu
      split at h
      · simp only [Option.some.injEq] at h; subst h; simp [run_underlying hu]
      · exact absurd h (by simp)
    · rename_i hu
      split at h
      · split at h
        · rename_i hk
          have hk' := of_decide_eq_true hk
          simp only [Option.some.injEq] at h; subst h; simp [run_underlying hu, hk']
        · exact absurd h (by simp)
      · exact absurd h (by simp)
    · rename_i hu
      split at h
      · simp only [Option.some.injEq] at h; subst h; simp [run_underlying hu]
      · exact absurd h (by simp)
    · rename_i hu
      split at h
      · split at h
        · rename_i a
          simp only [Option.some.injEq] at h; subst h
          cases a <;> simp [run_underlying hu]
        · exact absurd h (by simp)
      · split at h
        · simp only [Option.some.injEq] at h; subst h; simp [run_underlying hu]
        · exact absurd h (by simp)
      · exact absurd h (by simp)
    · rename_i hu
      split at h
      · split at h
        · rename_i a _ _
          simp only [Option.some.injEq] at h; subst h
          cases a <;> simp [run_underlying hu]
        · exact absurd h (by simp)
      · exact absurd h (by simp)
    · rename_i hu
      split at h
      · split at h
        · rename_i a
          simp only [Option.some.injEq] at h; subst h
          cases a <;> simp [run_underlying hu]
        · exact absurd h (by simp)
      · exact absurd h (by simp)
    · rename_i hu
      split at h
      · split at h
        · simp only [Option.some.injEq] at h; subst h; simp [run_underlying hu]
        · simp only [Option.some.injEq] at h; subst h; simp [run_underlying hu]
        · exact absurd h (by simp)
      · exact absurd h (by simp)
    · rename_i hu
      split at h
      · split at h
        · simp only [Option.some.injEq] at h; subst h; simp [run_underlying hu]
        · simp only [Option.some.injEq] at h; subst h; simp [run_underlying hu]
        · exact absurd h (by simp)
      · split at h
        · simp only [Option.some.injEq] at h; subst h; simp [run_underlying hu]
        · split at h
          · rename_i hb
            have := Nat.eq_of_beq_eq_true hb
            subst this
            split at h
            · rename_i hc
              obtain ⟨i, hi, hi2⟩ := Option.map_eq_some_iff.1 hc
              have ih := eqB_run w d _ _ _ _ h
              simp [run_underlying hu, typeInfo, hi, hi2, ih]
            · exact absurd h (by simp)
          · rename_i hb
            simp only [Option.some.injEq] at h; subst h
            have hne := Nat.ne_of_beq_eq_false hb
            simp [run_underlying hu, hne]
        · exact absurd h (by simp)
      · exact absurd h (by simp)
    · rename_i fs hu
      split at h
      · split at h
        · exact absurd h (by simp)
        · rename_i hs
          have hf := eqFields_run (d := d) w (fun t x y b hb => eqB_run w d t x y b hb) _ _ _ _ h
          simp only [run_underlying hu, Sem.run_bind, Result.andThen_ok, run_program, hs, Bool.false_eq_true, if_false]
          rw [← Array.forIn_toList, hf]
          cases b <;> rfl
      · exact absurd h (by simp)
    · exact absurd h (by simp)
end Go.Gv
