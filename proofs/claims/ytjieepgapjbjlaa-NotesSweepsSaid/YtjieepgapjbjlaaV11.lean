/- Words and laws for those who use the ghost machine. -/
import Derived.Test.YtjieepgapjbjlaaV10
import Derived.IntWalk
namespace Go.Gv
set_option linter.unusedVariables false

/-- An int, wrapped round. -/
def w64 (n : Int) : Int := IntKind.i64.wrap n

theorem w64_in {n : Int} (h : -9223372036854775808 ≤ n ∧ n ≤ 9223372036854775807) : w64 n = n := wrap_i64 h.1 h.2

theorem w64_i {n : Int} (h0 : -9223372036854775808 ≤ n) (h1 : n ≤ 9223372036854775807) : w64 n = n := wrap_i64 h0 h1

theorem wu8_in {n : Int} (h0 : 0 ≤ n) (h1 : n ≤ 255) : IntKind.wrap .u8 n = n := by
  unfold IntKind.wrap
  simp [IntKind.signed, IntKind.bits]
  omega

theorem br_true {A B : Prop} (h : A) : br true A B := h
theorem br_false {A B : Prop} (h : B) : br false A B := h
theorem br_of {b : Bool} {A B : Prop} (h1 : b = true → A) (h2 : b = false → B) : br b A B := br_iff.2 ⟨h1, h2⟩
theorem br_yes {b : Bool} {A B : Prop} (hb : b = true) (h : A) : br b A B := by subst hb; exact h
theorem br_no {b : Bool} {A B : Prop} (hb : b = false) (h : B) : br b A B := by subst hb; exact h
/-- A test of a proposition. -/
theorem br_dec {c : Prop} [Decidable c] {A B : Prop} (h1 : c → A) (h2 : ¬ c → B) : br (decide c) A B := br_of (fun h => h1 (of_decide_eq_true h)) (fun h => h2 (of_decide_eq_false h))
theorem br_eq {α : Type} [BEq α] [LawfulBEq α] {a b : α} {A B : Prop} (h1 : a = b → A) (h2 : a ≠ b → B) : br (a == b) A B := br_of (fun h => h1 (eq_of_beq h)) (fun h => h2 (fun e => by subst e; simp at h))
theorem br_ne {α : Type} [BEq α] [LawfulBEq α] {a b : α} {A B : Prop} (h1 : a ≠ b → A) (h2 : a = b → B) : br (a != b) A B := br_of (fun h => h1 (fun e => by subst e; simp at h)) (fun h => h2 (by simpa using h))

theorem LoopP.intro {T : Type} {start : (T → GH → Prop) → Prop} {round : (T → GH → Prop) → T → GH → Prop} (I : T → GH → Prop) (m : T → GH → Nat) (h0 : start I) (h1 : ∀ t h, I t h → round (fun t' h' => I t' h' ∧ m t' h' < m t h) t h) : LoopP start round := ⟨I, m, h0, h1⟩

/-! ### The ghost heap -/

theorem GH.set_same (h : GH) (b : Nat) (o : GObj) : (h.set b o) b = some o := by simp [GH.set]
theorem GH.set_ne {h : GH} {b b' : Nat} {o : GObj} (hne : b' ≠ b) : (h.set b o) b' = h b' := by simp [GH.set, hne]
theorem GH.del_ne {h : GH} {b b' : Nat} (hne : b' ≠ b) : (h.del b) b' = h b' := by simp [GH.del, hne]
theorem GH.le_refl (h : GH) : h.le h := fun _ _ h => h
theorem GH.le_trans {a b c : GH} (h1 : a.le b) (h2 : b.le c) : a.le c := fun k o h => h2 k o (h1 k o h)
theorem GH.le_set {h : GH} {b : Nat} {o : GObj} (hb : h b = none) : h.le (h.set b o) := fun k o' hk => by
  rw [GH.set_ne]
  · exact hk
  · rintro rfl; rw [hb] at hk; exact absurd hk (by simp)
theorem GH.ne_of {h : GH} {b b' : Nat} {o : GObj} (hb : h b = none) (hb' : h b' = some o) : b' ≠ b := by rintro rfl; rw [hb] at hb'; exact absurd hb' (by simp)

theorem addr0 (b o n : Nat) : Addr.add ⟨b, o, none⟩ n = ⟨b, o + n, none⟩ := addr_add rfl n

theorem GH.le_cell {h h' : GH} (hl : h.le h') {b off : Nat} {v : Value} (hc : h.cell b off = some v) : h'.cell b off = some v := by
  unfold GH.cell at hc ⊢
  cases hb : h b with
  | none => rw [hb] at hc; exact absurd hc (by simp)
  | some o => rw [hb] at hc; rw [hl b o hb]; exact hc

theorem Rds.le {h h' : GH} {p : Addr} {vs : List Value} (hr : Rds h p vs) (hl : h.le h') : Rds h' p vs := ⟨hr.1, fun i v hv => GH.le_cell hl (hr.2 i v hv)⟩

/-- Reading out of a block's cells. -/
theorem rds_block {h : GH} {b off base : Nat} {us : List Value} {own : Option Nat} {vs : List Value} (hb : h b = some (.cells base us own)) (ho : base ≤ off) (h1 : vs.all one = true)
    (hv : ∀ i v, vs[i]? = some v → us[off - base + i]? = some v) : Rds h ⟨b, off, none⟩ vs :=
  ⟨rfl, fun i v hi => by
    unfold GH.cell
    rw [hb]
    simp only
    rw [if_pos (by omega), show off + i - base = off - base + i by omega, hv i v hi, Option.filter_eq_some_iff]
    exact ⟨rfl, List.all_eq_true.1 h1 v (List.mem_of_getElem? hi)⟩⟩

/-- One cell of a block that begins at 0. -/
theorem rds1 {h : GH} {b off : Nat} {us : List Value} {own : Option Nat} {v : Value} (hb : h b = some (.cells 0 us own)) (hv : us[off]? = some v) (h1 : one v = true) : Rds h ⟨b, off, none⟩ [v] :=
  rds_block hb (Nat.zero_le _) (by simp [h1]) fun i u hi => by
    cases i with
    | zero => simp only [List.getElem?_cons_zero, Option.some.injEq] at hi; subst hi; simpa using hv
    | succ i => simp at hi

theorem Rds.sub {h : GH} {p : Addr} {vs us : List Value} {n : Nat} (hr : Rds h p vs) (hs : ∀ i v, us[i]? = some v → vs[n + i]? = some v) : Rds h (p.add n) us := by
  rw [addr_add hr.1]
  exact ⟨rfl, fun i v hv => by have := hr.2 (n + i) v (hs i v hv); rwa [← Nat.add_assoc] at this⟩

theorem wr1 {h : GH} {b off room : Nat} {vs : List Value} {v : Value} {K : GH → Prop} (hb : h b = some (.cells 0 vs (some room))) (hl : off < vs.length) (hk : K (h.set b (.cells 0 (vs.set off v) (some room)))) : Wr h ⟨b, off, none⟩ [v] K :=
  ⟨rfl, 0, vs, room, hb, Nat.zero_le _, by simp; omega, by simpa [splice] using hk⟩

/-! ### Kinds of elements -/

structure Kind (α : Type) where
  k : Nat
  enc : α → List Value
  len : ∀ x, (enc x).length = k
  one : ∀ x, (enc x).all Gv.one = true

section
variable {α : Type} (d : Kind α)

def Kind.cs (xs : List α) : List Value := xs.flatMap d.enc

theorem Kind.cs_nil : d.cs [] = [] := rfl
theorem Kind.cs_append (xs ys : List α) : d.cs (xs ++ ys) = d.cs xs ++ d.cs ys := by simp [Kind.cs]
theorem Kind.cs_cons (x : α) (xs : List α) : d.cs (x :: xs) = d.enc x ++ d.cs xs := by simp [Kind.cs]
theorem Kind.cs_one (x : α) : d.cs [x] = d.enc x := by simp [Kind.cs]
theorem Kind.cs_length (xs : List α) : (d.cs xs).length = xs.length * d.k := by
  induction xs with
  | nil => simp [Kind.cs]
  | cons x xs ih => rw [Kind.cs_cons, List.length_append, ih, d.len, List.length_cons, Nat.add_mul]; omega
theorem Kind.cs_all (xs : List α) : (d.cs xs).all Gv.one = true := by
  induction xs with
  | nil => rfl
  | cons x xs ih => rw [Kind.cs_cons, List.all_append, ih, d.one]; rfl
theorem Kind.cs_get {xs : List α} {i : Nat} (hi : i < xs.length) {j : Nat} {v : Value} (hv : (d.enc xs[i])[j]? = some v) : (d.cs xs)[i * d.k + j]? = some v := by
  have hj : j < d.k := by rw [← d.len xs[i]]; exact (List.getElem?_eq_some_iff.1 hv).1
  induction xs generalizing i with
  | nil => simp at hi
  | cons x xs ih =>
    rw [Kind.cs_cons]
    cases i with
    | zero =>
      rw [Nat.zero_mul, Nat.zero_add, List.getElem?_append_left (by rw [d.len]; exact hj)]
      exact hv
    | succ i =>
      rw [List.getElem?_append_right (by rw [d.len, Nat.add_mul]; omega), d.len, show (i + 1) * d.k + j - d.k = i * d.k + j by rw [Nat.add_mul]; omega]
      exact ih (by simpa using hi) (by simpa using hv)
theorem Kind.cs_take (xs : List α) (m : Nat) : d.cs (xs.take m) = (d.cs xs).take (m * d.k) := by
  induction xs generalizing m with
  | nil => simp [Kind.cs]
  | cons x xs ih =>
    cases m with
    | zero => simp [Kind.cs]
    | succ m =>
      rw [List.take_succ_cons, Kind.cs_cons, Kind.cs_cons, List.take_append, d.len, Nat.add_mul, Nat.one_mul, Nat.add_sub_cancel, List.take_of_length_le (l := d.enc x) (by rw [d.len]; omega), ih]
theorem Kind.cs_drop (xs : List α) (m : Nat) : d.cs (xs.drop m) = (d.cs xs).drop (m * d.k) := by
  induction xs generalizing m with
  | nil => simp [Kind.cs]
  | cons x xs ih =>
    cases m with
    | zero => simp
    | succ m =>
      rw [List.drop_succ_cons, Kind.cs_cons, List.drop_append, d.len, Nat.add_mul, Nat.one_mul, Nat.add_sub_cancel, show (d.enc x).drop (m * d.k + d.k) = [] from List.drop_eq_nil_of_le (by rw [d.len]; omega), List.nil_append, ih]

/-- A slice that reads as a list. -/
structure Sl (h : GH) (a : Option Addr) (n c : Nat) (xs : List α) : Prop where
  n_eq : n = xs.length
  cap : n ≤ c
  small : n ≤ 140737488355328
  spot : ∀ p, a = some p → p.spot = none
  nil : a = none → xs = []
  rds : ∀ p, a = some p → Rds h p (d.cs xs)

variable {d}

theorem Sl.le {h h' : GH} {a : Option Addr} {n c : Nat} {xs : List α} (hs : Sl d h a n c xs) (hl : h.le h') : Sl d h' a n c xs :=
  ⟨hs.n_eq, hs.cap, hs.small, hs.spot, hs.nil, fun p hp => (hs.rds p hp).le hl⟩

theorem Sl.nil_ (h : GH) : Sl d h none 0 0 ([] : List α) := ⟨rfl, Nat.le_refl _, by omega, fun p hp => by simp at hp, fun _ => rfl, fun p hp => by simp at hp⟩

theorem Sl.at {h : GH} {a : Option Addr} {n c : Nat} {xs : List α} (hs : Sl d h a n c xs) {i : Nat} (hi : i < xs.length) : ∃ p, a = some p ∧ Rds h (p.add (i * d.k)) (d.enc xs[i]) := by
  cases a with
  | none => rw [hs.nil rfl] at hi; simp at hi
  | some p => exact ⟨p, rfl, (hs.rds p rfl).sub fun j v hv => d.cs_get hi hv⟩

/-- The element at an index, in the form that the machine asks for. -/
theorem Sl.idx {h : GH} {a : Option Addr} {n c : Nat} {xs : List α} (hs : Sl d h a n c xs) {i : Nat} (hi : i < xs.length) {K : Addr → Prop} (hk : ∀ p, Rds h (p.add (i * d.k)) (d.enc xs[i]) → K p) :
    0 ≤ (i : Int) ∧ (i : Int) < ((n : Nat) : Int) ∧ nn a K := by
  obtain ⟨p, rfl, hp⟩ := hs.at hi
  have := hs.n_eq
  exact ⟨by omega, by omega, hk p hp⟩

theorem Sl.rdsO {h : GH} {a : Option Addr} {n c : Nat} {xs : List α} (hs : Sl d h a n c xs) : RdsO h a (d.cs xs) := by
  cases a with
  | none => rw [hs.nil rfl]; rfl
  | some p => exact hs.rds p rfl

theorem Sl.to {h : GH} {a : Option Addr} {n c : Nat} {xs : List α} (hs : Sl d h a n c xs) {m : Nat} (hm : m ≤ n) : Sl d h a m c (xs.take m) := by
  have h1 := hs.n_eq
  have h2 := hs.cap
  have h3 := hs.small
  refine ⟨by rw [List.length_take]; omega, by omega, by omega, hs.spot, fun e => by rw [hs.nil e]; simp, fun p hp => ⟨hs.spot p hp, fun i v hv => (hs.rds p hp).2 i v ?_⟩⟩
  rw [Kind.cs_take, List.getElem?_take] at hv
  split at hv
  · exact hv
  · exact absurd hv (by simp)

theorem Sl.from {h : GH} {a : Option Addr} {n c : Nat} {xs : List α} (hs : Sl d h a n c xs) {l : Nat} (hl : l ≤ n) : Sl d h (cutA a l c d.k) (n - l) (c - l) (xs.drop l) := by
  have h1 := hs.n_eq
  have h2 := hs.cap
  have h3 := hs.small
  refine ⟨by rw [List.length_drop]; omega, by omega, by omega, fun p hp => ?_, fun e => ?_, fun p hp => ?_⟩
  · unfold cutA at hp
    split at hp
    · exact hs.spot p hp
    · cases a with
      | none => simp at hp
      | some q =>
        simp only [Option.map_some, Option.some.injEq] at hp
        subst hp
        rw [addr_add (hs.spot q rfl)]
  · unfold cutA at e
    split at e
    · rw [hs.nil e]; simp
    · cases a with
      | none => rw [hs.nil rfl]; simp
      | some q => simp at e
  · unfold cutA at hp
    split at hp
    · have : xs.drop l = [] := List.drop_eq_nil_of_le (by omega)
      rw [this]
      exact ⟨hs.spot p hp, fun i v hv => by simp [Kind.cs] at hv⟩
    · cases a with
      | none => simp at hp
      | some q =>
        simp only [Option.map_some, Option.some.injEq] at hp
        subst hp
        exact (hs.rds q rfl).sub fun i v hv => by rw [Kind.cs_drop, List.getElem?_drop] at hv; exact hv

/-- A slice of one's own: its block bears its elements, and has room. -/
structure Own (d : Kind α) (h : GH) (a : Option Addr) (n c : Nat) (xs : List α) : Prop where
  n_eq : n = xs.length
  cap : n ≤ c
  small : n ≤ 140737488355328
  at_ : (a = none ∧ c = 0) ∨ ∃ b off rest room, a = some ⟨b, off, none⟩ ∧ h b = some (.cells off (d.cs xs ++ rest) (some room)) ∧ off + c * d.k ≤ room

theorem Own.sl {h : GH} {a : Option Addr} {n c : Nat} {xs : List α} (ho : Own d h a n c xs) : Sl d h a n c xs := by
  have h1 := ho.n_eq
  have h2 := ho.cap
  rcases ho.at_ with ⟨rfl, rfl⟩ | ⟨b, off, rest, room, rfl, hb, hr⟩
  · have : xs = [] := List.eq_nil_of_length_eq_zero (by omega)
    subst this
    exact ⟨h1, h2, ho.small, fun p hp => by simp at hp, fun _ => rfl, fun p hp => by simp at hp⟩
  · refine ⟨h1, h2, ho.small, fun p hp => ?_, fun e => by simp at e, fun p hp => ?_⟩
    · simp only [Option.some.injEq] at hp; subst hp; rfl
    · simp only [Option.some.injEq] at hp
      subst hp
      exact rds_block hb (Nat.le_refl _) (d.cs_all xs) fun i v hv => by
        rw [Nat.sub_self, Nat.zero_add, List.getElem?_append_left (List.getElem?_eq_some_iff.1 hv).1]
        exact hv

theorem Own.nil_ (h : GH) : Own d h none 0 0 ([] : List α) := ⟨rfl, Nat.le_refl _, by omega, .inl ⟨rfl, rfl⟩⟩

/-- What an append leaves as it was, and where it lies. -/
structure Grow (h h' : GH) (a a' : Option Addr) : Prop where
  keep : ∀ b o, h b = some o → (∀ p, a = some p → p.block ≠ b) → h' b = some o
  new : ∀ p', a' = some p' → (∃ p, a = some p ∧ p.block = p'.block) ∨ h p'.block = none

theorem Own.app {h : GH} {a : Option Addr} {n c : Nat} {xs ys : List α} {bytes : Nat} {Y : List Value} {m : Nat} {K : Option Addr → Nat → GH → Prop} (ho : Own d h a n c xs) (hY : Y = d.cs ys) (hm : m = ys.length) (hb : (n + m) * bytes ≤ 140737488355328) (hb1 : 1 ≤ bytes)
    (hk : ∀ a' c' h', Own d h' a' (n + m) c' (xs ++ ys) → Grow h h' a a' → K a' c' h') : AppK h a n c d.k bytes Y m K := by
  have h1 := ho.n_eq
  have h2 := ho.cap
  have hsm : n + m ≤ 140737488355328 := by
    have : (n + m) * 1 ≤ (n + m) * bytes := Nat.mul_le_mul_left _ hb1
    omega
  subst hY hm
  refine ⟨hb, ?_⟩
  rcases ho.at_ with ⟨rfl, rfl⟩ | ⟨b, off, rest, room, rfl, hbk, hr⟩
  · have hx : xs = [] := List.eq_nil_of_length_eq_zero (by omega)
    subst hx
    refine ⟨by simpa using h1, rfl, fun h0 => ?_, fun h0 b c' hbn hc' => ?_⟩
    · have hy : ys = [] := List.eq_nil_of_length_eq_zero h0
      subst hy
      exact hk none 0 h ⟨by simpa using h1, by simp at h1 ⊢; omega, hsm, .inl ⟨rfl, rfl⟩⟩ ⟨fun _ _ h _ => h, fun p' hp => by simp at hp⟩
    · have hn0 : n = 0 := by simpa using h1
      subst hn0
      refine hk _ c' _ ⟨by simp, by omega, hsm, .inr ⟨b, 0, [], c' * d.k, rfl, ?_, by omega⟩⟩ ⟨fun b' o hb' _ => GH.le_set hbn b' o hb', fun p' hp => ?_⟩
      · simp [GH.set_same]
      · simp only [Option.some.injEq] at hp; subst hp; exact .inr hbn
  · refine ⟨d.cs xs, by rw [d.cs_length, h1], rds_block hbk (Nat.le_refl _) (d.cs_all xs) (fun i v hv => ?_), .inl ⟨off, _, room, hbk, Nat.le_refl _, hr, h2, fun b' off' c' room' hbn hc' hr' => ?_⟩⟩
    · rw [Nat.sub_self, Nat.zero_add, List.getElem?_append_left (List.getElem?_eq_some_iff.1 hv).1]
      exact hv
    · refine hk _ c' _ ⟨by rw [List.length_append, h1], hc', hsm, .inr ⟨b', off', [], room', rfl, ?_, hr'⟩⟩ ⟨fun k o hko hne => ?_, fun p' hp => ?_⟩
      · rw [GH.set_same, d.cs_append, List.append_nil]
      · have hkb : k ≠ b := fun e => hne _ rfl e.symm
        have hkb' : k ≠ b' := by
          rintro rfl
          simp only [GH.del] at hbn
          rw [if_neg hkb, hko] at hbn
          exact absurd hbn (by simp)
        rw [GH.set_ne hkb', GH.del_ne hkb]
        exact hko
      · simp only [Option.some.injEq] at hp
        subst hp
        by_cases hbb : b' = b
        · exact .inl ⟨_, rfl, hbb.symm⟩
        · simp only [GH.del] at hbn
          rw [if_neg hbb] at hbn
          exact .inr hbn

/-- A slice of one's own that was made since the heap h0. -/
structure OwnF (d : Kind α) (h0 h : GH) (a : Option Addr) (n c : Nat) (xs : List α) : Prop where
  own : Own d h a n c xs
  new : ∀ p, a = some p → h0 p.block = none
  le : h0.le h

theorem OwnF.nil_ (h : GH) : OwnF d h h none 0 0 ([] : List α) := ⟨Own.nil_ h, fun p hp => by simp at hp, GH.le_refl h⟩

theorem OwnF.nil' {h0 h : GH} (hl : h0.le h) : OwnF d h0 h none 0 0 ([] : List α) := ⟨Own.nil_ h, fun p hp => by simp at hp, hl⟩

theorem OwnF.app {h0 h : GH} {a : Option Addr} {n c : Nat} {xs ys : List α} {bytes : Nat} {Y : List Value} {m : Nat} {K : Option Addr → Nat → GH → Prop} (ho : OwnF d h0 h a n c xs) (hY : Y = d.cs ys) (hm : m = ys.length) (hb : (n + m) * bytes ≤ 140737488355328) (hb1 : 1 ≤ bytes)
    (hk : ∀ a' c' h', OwnF d h0 h' a' (n + m) c' (xs ++ ys) → Grow h h' a a' → K a' c' h') : AppK h a n c d.k bytes Y m K :=
  ho.own.app hY hm hb hb1 fun a' c' h' ho' hg => hk a' c' h' ⟨ho', fun p hp => by
    rcases hg.new p hp with ⟨q, hq, he⟩ | hn
    · rw [← he]; exact ho.new q hq
    · cases hb0 : h0 p.block with
      | none => rfl
      | some o => have := ho.le _ _ hb0; rw [hn] at this; exact absurd this (by simp), fun b o hbo => hg.keep b o (ho.le b o hbo) fun p hp e => by
    have := ho.new p hp
    rw [e, hbo] at this
    exact absurd this (by simp)⟩ hg

theorem OwnF.sl {h0 h : GH} {a : Option Addr} {n c : Nat} {xs : List α} (ho : OwnF d h0 h a n c xs) : Sl d h a n c xs := ho.own.sl

/-- A slice that make gave. -/
theorem OwnF.made {h0 h : GH} (hl : h0.le h) {b c : Nat} (hb : h b = none) (z : List Value) (hc : c ≤ 140737488355328) : OwnF d h0 (h.set b (.cells 0 (List.replicate c z).flatten (some (c * d.k)))) (some ⟨b, 0, none⟩) 0 c ([] : List α) :=
  ⟨⟨rfl, Nat.zero_le _, by omega, .inr ⟨b, 0, _, _, rfl, by rw [GH.set_same, Kind.cs_nil, List.nil_append], by omega⟩⟩, fun p hp => by
    simp only [Option.some.injEq] at hp
    subst hp
    cases hb0 : h0 b with
    | none => rfl
    | some o => have := hl _ _ hb0; rw [hb] at this; exact absurd this (by simp), GH.le_trans hl (GH.le_set hb)⟩
end

/-- All that stood in memory, as the ghost heap sees it: nobody writes there. -/
def GH.old (w : World) : GH := fun b => match w.heap[b]? with
  | some (.cells c _ _) => some (.cells 0 c.toList none)
  | _ => none

theorem R.old (w : World) : R (fun k => k < w.heap.size) (fun _ => False) w (GH.old w) w :=
  ⟨rfl, rfl, rfl, Nat.le_refl _, fun k hk => ⟨hk, rfl⟩, fun k hk => hk.elim, fun b o hb => by
    unfold GH.old at hb
    split at hb
    · rename_i c e fz hc
      simp only [Option.some.injEq] at hb
      subst hb
      exact ⟨c, e, fz, hc, fun i v hv _ => by simpa using hv, fun room hr => by simp at hr⟩
    · exact absurd hb (by simp)⟩

theorem old_rds {w : World} {p : Addr} {vs : List Value} (hp : p.spot = none) (h1 : vs.all one = true) (hc : ∀ i v, vs[i]? = some v → w.cell? ⟨p.block, p.off + i, none⟩ = some v) : Rds (GH.old w) p vs :=
  ⟨hp, fun i v hv => by
    have h2 := hc i v hv
    unfold World.cell? at h2
    unfold GH.cell GH.old
    split at h2
    · rename_i c e fz hb
      simp only at hb
      rw [hb]
      simp only [Nat.zero_le, if_true, Nat.sub_zero]
      rw [Option.filter_eq_some_iff]
      refine ⟨?_, List.all_eq_true.1 h1 v (List.mem_of_getElem? hv)⟩
      simpa using h2
    · exact absurd h2 (by simp)⟩
end Go.Gv
