/- The words of the ghost machine: what the ghost state is, and how a world holds it. -/
import Derived.Calls
import Derived.OrdersHeld
import Derived.KernelRfl
import Derived.Laws.CopyRow
import Derived.Laws.Cells
import Derived.Laws.NewFold
import Derived.Shelf.Abstract
namespace Go.Gv
set_option linter.unusedVariables false

/-- What a computation comes to that looks at the program alone. -/
def pev (P : Program) {α : Type} : Sem α → Option α
  | .pure a => some a
  | .program k => pev P (k P)
  | .mark _ k => pev P k
  | _ => none

theorem pev_run {P : Program} {α : Type} (s : Sem α) : ∀ {a : α}, pev P s = some a → ∀ w, s.run P w = .ok a w := by
  induction s with
  | pure a => intro b h w; simp only [pev, Option.some.injEq] at h; subst h; rfl
  | program k ih => intro b h w; simp only [pev] at h; simp only [Sem.run]; exact ih P h w
  | mark m k ih => intro b h w; simp only [pev] at h; simp only [Sem.run]; exact ih h w
  | _ => intro b h; simp [pev] at h

theorem ba_beq (a b : ByteArray) : (a == b) = decide (a = b) := by
  obtain ⟨x⟩ := a
  obtain ⟨y⟩ := b
  show (x == y) = _
  by_cases h : x = y <;> simp [h]

/-- What a slot holds: a value, or a pointer into a private block (named by the slot that made it). -/
inductive FVal where
  | v (x : Value)
  | loc (s off : Nat)
  | lsl (s n : Nat)

def look {α : Type} (t : Nat) : List (Nat × α) → Option α
  | [] => none
  | (k, x) :: l => match Nat.beq k t with
    | true => some x
    | false => look t l

def del {α : Type} (t : Nat) : List (Nat × α) → List (Nat × α)
  | [] => []
  | (k, x) :: l => match Nat.beq k t with
    | true => del t l
    | false => (k, x) :: del t l

def upd {α : Type} (t : Nat) (x : α) (l : List (Nat × α)) : List (Nat × α) := (t, x) :: del t l

theorem look_del {α : Type} (t u : Nat) (l : List (Nat × α)) : look u (del t l) = if u = t then none else look u l := by
  induction l with
  | nil => simp [del, look]
  | cons p l ih =>
    obtain ⟨k, x⟩ := p
    simp only [del, look]
    cases hk : Nat.beq k t with
    | true =>
      have hkt := Nat.eq_of_beq_eq_true hk
      subst hkt
      simp only [ih]
      by_cases hu : u = k
      · simp [hu]
      · have : Nat.beq k u = false := by
          cases hb : Nat.beq k u with
          | true => exact absurd (Nat.eq_of_beq_eq_true hb).symm hu
          | false => rfl
        simp [hu, this]
    | false =>
      simp only [look, ih]
      by_cases hu : u = t
      · subst hu
        simp [hk]
      · simp [hu]

theorem look_upd {α : Type} (t u : Nat) (x : α) (l : List (Nat × α)) : look u (upd t x l) = if u = t then some x else look u l := by
  simp only [upd, look, look_del]
  cases h : Nat.beq t u with
  | true => have := Nat.eq_of_beq_eq_true h; simp [this]
  | false => have : ¬ u = t := fun e => by subst e; simp at h
             simp [this]

/-- Does it point into the private block of slot 's'? -/
def FVal.at (s : Nat) : FVal → Bool
  | .v _ => false
  | .loc s' _ => Nat.beq s' s
  | .lsl s' _ => Nat.beq s' s

/-- No pointer into the private block of slot 's' is left. -/
def unloc (s : Nat) : List (Nat × FVal) → List (Nat × FVal)
  | [] => []
  | (k, x) :: l => match x.at s with
    | true => del k (unloc s l)
    | false => (k, x) :: unloc s l

theorem look_unloc {s u : Nat} : ∀ {l : List (Nat × FVal)} {x : FVal}, look u (unloc s l) = some x → x.at s = false ∧ look u l = some x
  | [], x, h => by simp [unloc, look] at h
  | (k, y) :: l, x, h => by
    simp only [unloc] at h
    cases hy : y.at s with
    | true =>
      rw [hy] at h
      simp only [look_del] at h
      by_cases hu : u = k
      · simp [hu] at h
      · rw [if_neg hu] at h
        obtain ⟨h1, h2⟩ := look_unloc h
        refine ⟨h1, ?_⟩
        have : Nat.beq k u = false := by
          cases hb : Nat.beq k u with
          | true => exact absurd (Nat.eq_of_beq_eq_true hb).symm hu
          | false => rfl
        simp only [look, this]
        exact h2
    | false =>
      rw [hy] at h
      simp only [look] at h ⊢
      cases hk : Nat.beq k u with
      | true => rw [hk] at h; simp only [Option.some.injEq] at h; subst h; exact ⟨hy, rfl⟩
      | false => rw [hk] at h; exact look_unloc h

/-- The ghost frame: what is known of the slots, and the private blocks. -/
structure St where
  f : List (Nat × FVal)
  l : List (Nat × List Value)

def St.ev (st : St) : Operand → Option FVal
  | .tmp t => look t st.f
  | .const v => some (.v v)
  | .func f => some (.v (.func (.func f) #[] #[]))
  | .global _ => none

def St.known (st : St) (x : Operand) : Bool :=
  match st.ev x with
  | some (.v _) => true
  | _ => false

def St.val (st : St) (x : Operand) : Value :=
  match st.ev x with
  | some (.v y) => y
  | _ => undef

/-! ### The ghost heap: a part of the memory -/

inductive GObj where
  | cells (base : Nat) (vs : List Value) (own : Option Nat)
  | raw (o : Obj)

abbrev GH := Nat → Option GObj
def GH.set (h : GH) (b : Nat) (o : GObj) : GH := fun k => if k = b then some o else h k
def GH.del (h : GH) (b : Nat) : GH := fun k => if k = b then none else h k

def GH.le (h h' : GH) : Prop := ∀ b o, h b = some o → h' b = some o

/-- A value that one cell holds. -/
def one : Value → Bool
  | .agg _ | .tuple _ => false
  | _ => true

/-- What a cell holds. (Something that no cell of a program holds is not told.) -/
def GH.cell (h : GH) (b off : Nat) : Option Value :=
  match h b with
  | some (.cells base vs _) => if base ≤ off then (vs[off - base]?).filter one else none
  | _ => none

theorem one_eq (v : Value) : one v = v.oneCell' := by cases v <;> rfl

/-- The cells from p on read so. -/
def Rds (h : GH) (p : Addr) (vs : List Value) : Prop := p.spot = none ∧ ∀ i v, vs[i]? = some v → h.cell p.block (p.off + i) = some v

def splice : List Value → Nat → List Value → List Value
  | vs, _, [] => vs
  | vs, i, y :: ys => splice (vs.set i y) (i + 1) ys

/-- A store. -/
def Wr (h : GH) (p : Addr) (ys : List Value) (K : GH → Prop) : Prop :=
  p.spot = none ∧ ∃ base vs room, h p.block = some (.cells base vs (some room)) ∧ base ≤ p.off ∧ p.off - base + ys.length ≤ vs.length ∧
    K (h.set p.block (.cells base (splice vs (p.off - base) ys) (some room)))

/-- A new block of cells. -/
def New (h : GH) (cells : List Value) (K : Nat → GH → Prop) : Prop := ∀ b, h b = none → K b (h.set b (.cells 0 cells (some cells.length)))

/-- A new block that holds no cells. -/
def NewRaw (h : GH) (o : Obj) (K : Nat → GH → Prop) : Prop := ∀ b, h b = none → K b (h.set b (.raw o))

def Obj.plain : Obj → Bool
  | .map .. | .mapIter .. | .stringIter .. => true
  | _ => false

def GObj.ok (free : Prop) (b : Nat) (w : World) : GObj → Prop
  | .cells base vs own => ∃ c e fz, w.heap[b]? = some (.cells c e fz) ∧ (∀ i v, vs[i]? = some v → one v = true → c[base + i]? = some v) ∧
      (∀ room, own = some room → free ∧ fz = (0, 0) ∧ c.size = room ∧ base + vs.length ≤ room)
  | .raw o => free ∧ Obj.plain o = true ∧ w.heap[b]? = some o

/-- The world 'w' holds the ghost heap 'h'; the blocks of 'Keep' and of 'Hide' are as they were in 'W0', those of 'Hide' are no part of it. -/
structure R (Keep Hide : Nat → Prop) (W0 : World) (h : GH) (w : World) : Prop where
  os : w.os = W0.os
  tape : w.tape = W0.tape
  output : w.output = W0.output
  size : W0.heap.size ≤ w.heap.size
  keep : ∀ k, Keep k → k < W0.heap.size ∧ w.heap[k]? = W0.heap[k]?
  hide : ∀ k, Hide k → h k = none ∧ k < W0.heap.size ∧ w.heap[k]? = W0.heap[k]?
  objs : ∀ b o, h b = some o → GObj.ok (¬ Keep b) b w o

/-- The contract of a call. -/
def GC (P : Program) (f : FuncId) (args : List Value) (h : GH) (K : Value → GH → Prop) : Prop :=
  ∀ (Keep Hide : Nat → Prop) (W0 w : World), R Keep Hide W0 h w → Calls P f args.toArray w fun e w' => ∃ v h', e = .returned v ∧ R Keep Hide W0 h' w' ∧ K v h'

theorem GC.mono {P : Program} {f : FuncId} {args : List Value} {h : GH} {K K' : Value → GH → Prop} (hc : GC P f args h K) (hk : ∀ v h', K v h' → K' v h') : GC P f args h K' :=
  fun Keep Hide W0 w hr => (hc Keep Hide W0 w hr).mono fun e w' ⟨v, h', he, hr', k⟩ => ⟨v, h', he, hr', hk _ _ k⟩

/-! ### The values' shapes -/

inductive Sh where
  | int (k : IntKind) | bool | str | ptr | slice | map | any
  deriving Inhabited

def Sh.one : TypeDesc → Option Sh
  | .int k => some (.int k)
  | .bool => some .bool
  | .string => some .str
  | .pointer _ => some .ptr
  | .slice _ => some .slice
  | .map _ _ => some .map
  | .func .. | .interface _ | .chan .. => some .any
  | _ => none

/-- The cells of a type, one behind the other; none where there is an array. -/
def shapes (P : Program) : Nat → TypeId → Option (List Sh)
  | 0, _ => none
  | n + 1, t => match P.underlying t with
    | some (.struct fs) => fs.toList.foldr (fun f acc => match shapes P n f.type, acc with | some a, some b => some (a ++ b) | _, _ => none) (some [])
    | some d => (Sh.one d).map fun s => [s]
    | none => none

def exC : List Sh → (List Value → Prop) → Prop
  | [], K => K []
  | .int k :: r, K => ∃ n : Int, exC r fun vs => K (.int k n :: vs)
  | .bool :: r, K => ∃ b : Bool, exC r fun vs => K (.bool b :: vs)
  | .str :: r, K => ∃ s : ByteArray, exC r fun vs => K (.string s :: vs)
  | .ptr :: r, K => ∃ a : Option Addr, exC r fun vs => K (.pointer a :: vs)
  | .slice :: r, K => ∃ (a : Option Addr) (n c : Nat), exC r fun vs => K (.slice a n c :: vs)
  | .map :: r, K => ∃ a : Option Nat, exC r fun vs => K (.map a :: vs)
  | .any :: r, K => ∃ v : Value, one v = true ∧ exC r fun vs => K (v :: vs)

theorem exC_out : ∀ {l : List Sh} {K : List Value → Prop}, exC l K → ∃ vs, K vs ∧ vs.length = l.length ∧ vs.all one = true
  | [], K, h => ⟨[], h, rfl, rfl⟩
  | .int k :: r, K, ⟨n, h⟩ => by obtain ⟨vs, h1, h2, h3⟩ := exC_out h; exact ⟨_, h1, by simp [h2], by simp [one, h3]⟩
  | .bool :: r, K, ⟨n, h⟩ => by obtain ⟨vs, h1, h2, h3⟩ := exC_out h; exact ⟨_, h1, by simp [h2], by simp [one, h3]⟩
  | .str :: r, K, ⟨n, h⟩ => by obtain ⟨vs, h1, h2, h3⟩ := exC_out h; exact ⟨_, h1, by simp [h2], by simp [one, h3]⟩
  | .ptr :: r, K, ⟨n, h⟩ => by obtain ⟨vs, h1, h2, h3⟩ := exC_out h; exact ⟨_, h1, by simp [h2], by simp [one, h3]⟩
  | .slice :: r, K, ⟨_, _, _, h⟩ => by obtain ⟨vs, h1, h2, h3⟩ := exC_out h; exact ⟨_, h1, by simp [h2], by simp [one, h3]⟩
  | .map :: r, K, ⟨n, h⟩ => by obtain ⟨vs, h1, h2, h3⟩ := exC_out h; exact ⟨_, h1, by simp [h2], by simp [one, h3]⟩
  | .any :: r, K, ⟨n, ho, h⟩ => by obtain ⟨vs, h1, h2, h3⟩ := exC_out h; exact ⟨_, h1, by simp [h2], by simp only [List.all_cons, ho, h3]; rfl⟩

def sizeT (P : Program) (t : TypeId) : Option Nat := (P.info? t).map (·.size)

/-- There is a value of the type. (Its cells are as many as the type's, each one cell's.) -/
def exT1 (P : Program) (t : TypeId) (K : Value → Prop) : Prop :=
  match P.underlying t with
  | some (.int k) => ∃ n : Int, K (.int k n)
  | some .bool => ∃ b : Bool, K (.bool b)
  | some .string => ∃ s : ByteArray, K (.string s)
  | some (.pointer _) => ∃ a : Option Addr, K (.pointer a)
  | some (.slice _) => ∃ (a : Option Addr) (n c : Nat), K (.slice a n c)
  | some (.map _ _) => ∃ a : Option Nat, K (.map a)
  | some (.struct _) => match shapes P 20 t with
    | some sh => exC sh fun vs => K (.agg ⟨vs⟩)
    | none => ∃ vs : List Value, vs.all one = true ∧ K (.agg ⟨vs⟩)
  | some (.array _ _) => ∃ vs : List Value, vs.all one = true ∧ K (.agg ⟨vs⟩)
  | _ => ∃ v : Value, one v = true ∧ K v

def exTs (P : Program) : List TypeId → (List Value → Prop) → Prop
  | [], K => K []
  | t :: ts, K => exT1 P t fun v => exTs P ts fun vs => K (v :: vs)

def exT (P : Program) (t : TypeId) (K : Value → Prop) : Prop :=
  match P.underlying t with
  | some (.tuple ts) => exTs P ts.toList fun vs => K (.tuple ⟨vs⟩)
  | _ => exT1 P t K

theorem exT1_out {P : Program} {t : TypeId} {K : Value → Prop} (h : exT1 P t K) : ∃ v, K v := by
  unfold exT1 at h
  split at h
  · obtain ⟨n, h⟩ := h; exact ⟨_, h⟩
  · obtain ⟨n, h⟩ := h; exact ⟨_, h⟩
  · obtain ⟨n, h⟩ := h; exact ⟨_, h⟩
  · obtain ⟨n, h⟩ := h; exact ⟨_, h⟩
  · obtain ⟨_, _, _, h⟩ := h; exact ⟨_, h⟩
  · obtain ⟨n, h⟩ := h; exact ⟨_, h⟩
  · split at h
    · obtain ⟨vs, h, _⟩ := exC_out h; exact ⟨_, h⟩
    · obtain ⟨vs, _, h⟩ := h; exact ⟨_, h⟩
  · obtain ⟨vs, _, h⟩ := h; exact ⟨_, h⟩
  · obtain ⟨v, _, h⟩ := h; exact ⟨_, h⟩

theorem exTs_out {P : Program} : ∀ {ts : List TypeId} {K : List Value → Prop}, exTs P ts K → ∃ vs, K vs
  | [], K, h => ⟨_, h⟩
  | t :: ts, K, h => by
    obtain ⟨v, h⟩ := exT1_out h
    obtain ⟨vs, h⟩ := exTs_out h
    exact ⟨_, h⟩

theorem exT_out {P : Program} {t : TypeId} {K : Value → Prop} (h : exT P t K) : ∃ v, K v := by
  unfold exT at h
  split at h
  · obtain ⟨vs, h⟩ := exTs_out h; exact ⟨_, h⟩
  · exact exT1_out h
end Go.Gv
