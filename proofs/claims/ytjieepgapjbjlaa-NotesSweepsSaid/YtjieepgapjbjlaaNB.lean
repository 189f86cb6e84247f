/- The notes' functions that look and write nothing: contracts. -/
import Derived.Test.YtjieepgapjbjlaaVA
namespace Go.Proofs.Ytjieepgapjbjlaa.G
open Go.Gv
set_option linter.unusedVariables false

structure Elem where
  ch : Int
  client : Int
  seq : Int

structure Reply where
  client : Int
  words : ByteArray

def kElem : Kind Elem := ⟨3, fun e => [.int .u8 e.ch, .int .i64 e.client, .int .i64 e.seq], fun _ => rfl, fun _ => rfl⟩
def kReply : Kind Reply := ⟨2, fun r => [.int .i64 r.client, .string r.words], fun _ => rfl, fun _ => rfl⟩
def kBool : Kind Bool := ⟨1, fun b => [.bool b], fun _ => rfl, fun _ => rfl⟩

theorem step64 {i : Nat} (h : i < 4611686018427387904) : w64 ((i : Int) + 1) = ((i + 1 : Nat) : Int) := by
  rw [w64_i (by omega) (by omega)]; rfl

def eqE (e x : Elem) : Bool := e.ch == x.ch && (e.client == x.client && e.seq == x.seq)

theorem eqE_iff {e x : Elem} : eqE e x = true ↔ e = x := by
  obtain ⟨a, b, c⟩ := e
  obtain ⟨a', b', c'⟩ := x
  simp [eqE]

def holdsB (es : List Elem) (x : Elem) : Bool := es.any fun e => eqE e x

theorem holdsB_iff {es : List Elem} {x : Elem} : holdsB es x = true ↔ x ∈ es := by
  simp only [holdsB, List.any_eq_true, eqE_iff]
  exact ⟨fun ⟨e, he, h⟩ => h ▸ he, fun h => ⟨x, h, rfl⟩⟩

theorem any_take_succ {α : Type} (f : α → Bool) {l : List α} {i : Nat} (hi : i < l.length) : (l.take (i + 1)).any f = ((l.take i).any f || f l[i]) := by
  rw [List.take_succ_eq_append_getElem hi, List.any_append]; simp

theorem holds_ok {K : Value → GH → Prop} {h : GH} {p : Addr} {ea : Option Addr} {en ec : Nat} {es : List Elem} {x : Elem} (hn : Rds h (p.add 0) [.slice ea en ec]) (hs : Sl kElem h ea en ec es) (hk : K (.bool (holdsB es x)) h) :
    GC pr n_notes_note_holds [.pointer (some p), .agg ⟨[.int .u8 x.ch, .int .i64 x.client, .int .i64 x.seq]⟩] h K := by
  have hlen := hs.n_eq
  have hsm := hs.small
  refine ok_notes_note_holds ?_
  unfold s_notes_note_holds
  refine ⟨_, _, _, hn, ?_⟩
  refine LoopP.intro (fun t h' => ∃ i : Nat, t = ((ea, en, ec), ((en : Nat) : Int), (i : Int), x.ch, x.client, x.seq, ()) ∧ h' = h ∧ i ≤ es.length ∧ holdsB (es.take i) x = false) (fun t _ => es.length - t.2.2.1.toNat) ⟨0, rfl, rfl, by omega, rfl⟩ ?_
  rintro t h' ⟨i, rfl, rfl, hi, hno⟩
  unfold s_notes_note_holds_l1
  refine br_dec (fun hlt => ?_) (fun hge => ?_)
  · have hi' : i < es.length := by simp only at hlt; omega
    refine hs.idx hi' fun p hp => ⟨_, _, _, hp, ?_⟩
    have hnext := any_take_succ (fun e => eqE e x) hi'
    refine br_of (fun hb => ?_) (fun hb => ?_)
    · have : holdsB es x = true := by
        rw [holdsB, List.any_eq_true]
        exact ⟨es[i], List.getElem_mem hi', hb⟩
      rw [← this]; exact hk
    · refine ⟨⟨i + 1, by simp only; rw [step64 (by omega)], rfl, hi', ?_⟩, ?_⟩
      · rw [holdsB, hnext]
        have h1 : eqE es[i] x = false := hb
        rw [h1, Bool.or_false]; exact hno
      · simp only; rw [step64 (by omega)]; omega
  · have : i = es.length := by simp only at hge; omega
    subst this
    rw [List.take_length] at hno
    rw [← hno]; exact hk

/-- From and To of the elements in a text. -/
def spanL (f : Elem → Bool) : List Elem → Nat → Int × Int → Int × Int
  | [], _, r => r
  | x :: xs, i, r => spanL f xs (i + 1) (if f x then ((if r.2 = 0 then (i : Int) else r.1), (i : Int) + 1) else r)

def spanOf (es ds : List Elem) : Int × Int := spanL (holdsB es) ds 0 (0, 0)

theorem span_ok {K : Value → GH → Prop} {h : GH} {p : Addr} {ea : Option Addr} {en ec : Nat} {es : List Elem} {da : Option Addr} {dn dc : Nat} {ds : List Elem} (hn : Rds h (p.add 0) [.slice ea en ec]) (hs : Sl kElem h ea en ec es) (hd : Sl kElem h da dn dc ds)
    (hk : K (.tuple ⟨[.int .i64 (spanOf es ds).1, .int .i64 (spanOf es ds).2]⟩) h) : GC pr n_notes_note_span [.pointer (some p), .slice da dn dc] h K := by
  have hlen := hd.n_eq
  have hsm := hd.small
  refine ok_notes_note_span ?_
  unfold s_notes_note_span
  refine LoopP.intro (fun t h' => ∃ (i : Nat) (r : Int × Int), t = (some p, r.1, r.2, (da, dn, dc), ((dn : Nat) : Int), (i : Int), ()) ∧ h' = h ∧ i ≤ ds.length ∧ spanOf es ds = spanL (holdsB es) (ds.drop i) i r ∧ 0 ≤ r.2) (fun t _ => ds.length - t.2.2.2.2.2.1.toNat) ⟨0, (0, 0), rfl, rfl, by omega, rfl, by simp⟩ ?_
  rintro t h' ⟨i, r, rfl, rfl, hi, hr, hr0⟩
  unfold s_notes_note_span_l1
  refine br_dec (fun hlt => ?_) (fun hge => ?_)
  · have hi' : i < ds.length := by simp only at hlt; omega
    refine hd.idx hi' fun q hq => ⟨_, _, _, hq, ?_⟩
    refine holds_ok hn hs ⟨_, rfl, ?_⟩
    rw [List.drop_eq_getElem_cons hi', spanL] at hr
    refine br_of (fun hb => ?_) (fun hb => ?_)
    · have hb' : holdsB es ds[i] = true := hb
      rw [hb', if_pos rfl] at hr
      refine br_eq (fun h0 => ?_) (fun h0 => ?_)
      · simp only at h0
        rw [if_pos h0] at hr
        refine ⟨⟨i + 1, ((i : Int), (i : Int) + 1), by simp only; rw [step64 (by omega)]; rfl, rfl, hi', hr, by simp only; omega⟩, ?_⟩
        simp only; rw [step64 (by omega)]; omega
      · simp only at h0
        rw [if_neg h0] at hr
        refine ⟨⟨i + 1, (r.1, (i : Int) + 1), by simp only; rw [step64 (by omega)]; rfl, rfl, hi', hr, by simp only; omega⟩, ?_⟩
        simp only; rw [step64 (by omega)]; omega
    · have hb' : holdsB es ds[i] = false := hb
      rw [hb'] at hr
      refine ⟨⟨i + 1, r, by simp only; rw [step64 (by omega)], rfl, hi', hr, hr0⟩, ?_⟩
      simp only; rw [step64 (by omega)]; omega
  · have : i = ds.length := by simp only at hge; omega
    subst this
    rw [List.drop_length, spanL] at hr
    rw [hr] at hk
    exact hk

/-- May these words by a client be? -/
def mayB (s : ByteArray) : Bool := decide (1 ≤ s.size ∧ s.size ≤ 120 ∧ ∀ i : Nat, i < s.size → 32 ≤ bt s i ∧ bt s i ≤ 126)

def wordedE (client : Int) (s : ByteArray) : Int := if client < 1 ∨ 64 < client then 235 else if mayB s then 0 else 231

theorem worded_ok {K : Value → GH → Prop} {h : GH} {c : Int} {s : ByteArray} (hk : K (.int .i64 (wordedE c s)) h) : GC pr n_notes_worded [.int .i64 c, .string s] h K := by
  refine ok_notes_worded ?_
  unfold s_notes_worded
  refine br_dec (fun h1 => ?_) (fun h1 => ?_)
  · rw [wordedE, if_pos (.inl h1)] at hk; exact hk
  refine br_dec (fun h2 => ?_) (fun h2 => ?_)
  · rw [wordedE, if_pos (.inr h2)] at hk; exact hk
  rw [wordedE, if_neg (by omega)] at hk
  refine br_dec (fun h3 => ?_) (fun h3 => ?_)
  · have : mayB s = false := decide_eq_false fun h => by omega
    rw [this] at hk; exact hk
  refine br_dec (fun h4 => ?_) (fun h4 => ?_)
  · have : mayB s = false := decide_eq_false fun h => by omega
    rw [this] at hk; exact hk
  refine LoopP.intro (fun t h' => ∃ i : Nat, t = (s, ((s.size : Nat) : Int), (i : Int), ()) ∧ h' = h ∧ i ≤ s.size ∧ ∀ j : Nat, j < i → 32 ≤ bt s j ∧ bt s j ≤ 126) (fun t _ => s.size - t.2.2.1.toNat) ⟨0, rfl, rfl, by omega, fun j hj => by omega⟩ ?_
  rintro t h' ⟨i, rfl, rfl, hi, hall⟩
  unfold s_notes_worded_l1
  refine br_dec (fun hlt => ?_) (fun hge => ?_)
  · simp only at hlt
    refine ⟨by simp only; omega, by simp only; omega, ?_⟩
    refine br_dec (fun h5 => ?_) (fun h5 => ?_)
    · have : mayB s = false := decide_eq_false fun h => by have := (h.2.2 i (by omega)).1; simp only at h5; omega
      rw [this] at hk; exact hk
    refine ⟨by simp only; omega, by simp only; omega, ?_⟩
    refine br_dec (fun h6 => ?_) (fun h6 => ?_)
    · have : mayB s = false := decide_eq_false fun h => by have := (h.2.2 i (by omega)).2; simp only at h6; omega
      rw [this] at hk; exact hk
    refine ⟨⟨i + 1, by simp only; rw [step64 (by omega)], rfl, by omega, fun j hj => ?_⟩, ?_⟩
    · by_cases hj' : j < i
      · exact hall j hj'
      · have : j = i := by omega
        subst this
        simp only at h5 h6
        omega
    · simp only; rw [step64 (by omega)]; omega
  · simp only at hge
    have : mayB s = true := decide_eq_true ⟨by omega, by omega, fun j hj => hall j (by omega)⟩
    rw [this] at hk; exact hk

theorem may_ok {K : Value → GH → Prop} {h : GH} {s : ByteArray} (hk : K (.bool (mayB s)) h) : GC pr n_jotterlaw23_may [.string s] h K := by
  refine ok_jotterlaw23_may ?_
  unfold s_jotterlaw23_may
  refine br_dec (fun h3 => ?_) (fun h3 => ?_)
  · have : mayB s = false := decide_eq_false fun h => by omega
    rw [this] at hk; exact hk
  refine br_dec (fun h4 => ?_) (fun h4 => ?_)
  · have : mayB s = false := decide_eq_false fun h => by omega
    rw [this] at hk; exact hk
  refine LoopP.intro (fun t h' => ∃ i : Nat, t = (s, (i : Int), ()) ∧ h' = h ∧ i ≤ s.size ∧ ∀ j : Nat, j < i → 32 ≤ bt s j ∧ bt s j ≤ 126) (fun t _ => s.size - t.2.1.toNat) ⟨0, rfl, rfl, by omega, fun j hj => by omega⟩ ?_
  rintro t h' ⟨i, rfl, rfl, hi, hall⟩
  unfold s_jotterlaw23_may_l1
  refine br_dec (fun hlt => ?_) (fun hge => ?_)
  · simp only at hlt
    refine ⟨by simp only; omega, by simp only; omega, ?_⟩
    refine br_dec (fun h5 => ?_) (fun h5 => ?_)
    · have : mayB s = false := decide_eq_false fun h => by have := (h.2.2 i (by omega)).1; simp only at h5; omega
      rw [this] at hk; exact hk
    refine ⟨by simp only; omega, by simp only; omega, ?_⟩
    refine br_dec (fun h6 => ?_) (fun h6 => ?_)
    · have : mayB s = false := decide_eq_false fun h => by have := (h.2.2 i (by omega)).2; simp only at h6; omega
      rw [this] at hk; exact hk
    refine ⟨⟨i + 1, by simp only; rw [step64 (by omega)], rfl, by omega, fun j hj => ?_⟩, ?_⟩
    · by_cases hj' : j < i
      · exact hall j hj'
      · have : j = i := by omega
        subst this
        simp only at h5 h6
        omega
    · simp only; rw [step64 (by omega)]; omega
  · simp only at hge
    have : mayB s = true := decide_eq_true ⟨by omega, by omega, fun j hj => hall j (by omega)⟩
    rw [this] at hk; exact hk

def eqR (a b : Reply) : Bool := a.client == b.client && a.words == b.words

theorem eqR_iff {a b : Reply} : eqR a b = true ↔ a = b := by
  obtain ⟨a, s⟩ := a
  obtain ⟨b, t⟩ := b
  simp [eqR, ba_beq]

theorem eqReplies_ok {K : Value → GH → Prop} {h : GH} {aa : Option Addr} {an ac : Nat} {xs : List Reply} {ba : Option Addr} {bn bc : Nat} {ys : List Reply} (ha : Sl kReply h aa an ac xs) (hb : Sl kReply h ba bn bc ys)
    (hyes : xs = ys → K (.bool true) h) (hno : xs ≠ ys → K (.bool false) h) : GC pr n_jotterlaw23_eqReplies [.slice aa an ac, .slice ba bn bc] h K := by
  have hla := ha.n_eq
  have hlb := hb.n_eq
  have hsm := ha.small
  refine ok_jotterlaw23_eqReplies ?_
  unfold s_jotterlaw23_eqReplies
  refine br_ne (fun h1 => ?_) (fun h1 => ?_)
  · exact hno fun e => by subst e; omega
  have hlen : xs.length = ys.length := by omega
  refine LoopP.intro (fun t h' => ∃ i : Nat, t = ((aa, an, ac), (ba, bn, bc), (i : Int), ()) ∧ h' = h ∧ i ≤ xs.length ∧ xs.take i = ys.take i) (fun t _ => xs.length - t.2.2.1.toNat) ⟨0, rfl, rfl, by omega, rfl⟩ ?_
  rintro t h' ⟨i, rfl, rfl, hi, heq⟩
  unfold s_jotterlaw23_eqReplies_l1
  refine br_dec (fun hlt => ?_) (fun hge => ?_)
  · have hia : i < xs.length := by simp only at hlt; omega
    have hib : i < ys.length := by omega
    refine ha.idx hia fun p hp => ⟨_, _, hp, ?_⟩
    refine hb.idx hib fun q hq => ⟨_, _, hq, ?_⟩
    have hne : (!eqR xs[i] ys[i]) = (!((xs[i].client == ys[i].client) && (xs[i].words == ys[i].words))) := rfl
    refine br_of (fun hx => ?_) (fun hx => ?_)
    · refine hno fun e => ?_
      subst e
      rw [← hne] at hx
      have : eqR xs[i] xs[i] = true := eqR_iff.2 rfl
      rw [this] at hx
      exact absurd hx (by simp)
    · rw [← hne] at hx
      have hxx : eqR xs[i] ys[i] = true := by simpa using hx
      refine ⟨⟨i + 1, by simp only; rw [step64 (by omega)], rfl, hia, ?_⟩, ?_⟩
      · rw [List.take_succ_eq_append_getElem hia, List.take_succ_eq_append_getElem hib, heq, eqR_iff.1 hxx]
      · simp only; rw [step64 (by omega)]; omega
  · have : i = xs.length := by simp only at hge; omega
    subst this
    refine hyes ?_
    rw [List.take_length, hlen, List.take_length] at heq
    exact heq
end Go.Proofs.Ytjieepgapjbjlaa.G
