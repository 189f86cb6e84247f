/- Two tellings of the same notes are equal. -/
import Derived.Test.YtjieepgapjbjlaaNJ
namespace Go.Proofs.Ytjieepgapjbjlaa.G
open Go.Gv
set_option linter.unusedVariables false
set_option linter.unusedSimpArgs false
set_option maxRecDepth 100000

/-- Notes and what was told of them. -/
inductive Sh2 (F : List Nat) (h : GH) (ds : List Elem) : List (Int × Note) → List Shown → Prop where
  | nil : Sh2 F h ds [] []
  | cons {q : Int × Note} {qs : List (Int × Note)} {s : Shown} {ss : List Shown} (hs : ShownOf F h q ds s) (hr : Sh2 F h ds qs ss) : Sh2 F h ds (q :: qs) (s :: ss)

theorem Sh2.step {F F' : List Nat} {h h' : GH} {ds : List Elem} {qs : List (Int × Note)} {ss : List Shown} (hs : Sh2 F h ds qs ss) (st : Step F F' h h') : Sh2 F' h' ds qs ss := by
  induction hs with
  | nil => exact .nil
  | cons hs hr ih => exact .cons (hs.step st) ih

theorem Sh2.length {F : List Nat} {h : GH} {ds : List Elem} {qs : List (Int × Note)} {ss : List Shown} (hs : Sh2 F h ds qs ss) : ss.length = qs.length := by
  induction hs with
  | nil => rfl
  | cons hs hr ih => simp [ih]

def keepS (s : Shown) : Bool := !(s.gone && s.shut)

theorem Sh2.filter {F : List Nat} {h : GH} {ds : List Elem} {qs : List (Int × Note)} {ss : List Shown} (hs : Sh2 F h ds qs ss) : Sh2 F h ds (qs.filter (stays ds)) (ss.filter keepS) := by
  induction hs with
  | nil => exact .nil
  | @cons q qs s ss hs hr ih =>
    have e : keepS s = stays ds q := by simp only [keepS, stays, hs.gone, hs.shut]
    rw [List.filter_cons, List.filter_cons, e]
    cases stays ds q with
    | true => exact .cons hs ih
    | false => exact ih

theorem Sh2.of {F : List Nat} {h : GH} {ds : List Elem} : ∀ {qs : List (Int × Note)} {ss : List Shown}, ss.length = qs.length → (∀ i (hi : i < qs.length), ∃ s, ss[i]? = some s ∧ ShownOf F h qs[i] ds s) → Sh2 F h ds qs ss
  | [], [], _, _ => .nil
  | [], _ :: _, h, _ => by simp at h
  | _ :: _, [], h, _ => by simp at h
  | q :: qs, s :: ss, hl, hi => by
    obtain ⟨s', e1, e2⟩ := hi 0 (by simp)
    simp only [List.getElem?_cons_zero, Option.some.injEq] at e1
    subst e1
    refine .cons e2 (Sh2.of (by simpa using hl) fun i hi' => ?_)
    obtain ⟨s', e1, e2⟩ := hi (i + 1) (by simpa using hi')
    exact ⟨s', by simpa using e1, by simpa using e2⟩

theorem Sh2.at {F : List Nat} {h : GH} {ds : List Elem} {qs : List (Int × Note)} {ss : List Shown} (hs : Sh2 F h ds qs ss) {i : Nat} (hi : i < ss.length) : ∃ q, qs[i]? = some q ∧ ShownOf F h q ds ss[i] := by
  induction hs generalizing i with
  | nil => simp at hi
  | cons hs hr ih =>
    cases i with
    | zero => exact ⟨_, rfl, hs⟩
    | succ i => exact ih (by simpa using hi)

theorem eqNotes_ok {K : Value → GH → Prop} {h : GH} {F F' : List Nat} {ds : List Elem} {qs : List (Int × Note)} {aa : Option Addr} {an ac : Nat} {xs : List Shown} {ba : Option Addr} {bn bc : Nat} {ys : List Shown} (ha : Sl kShown h aa an ac xs) (hb : Sl kShown h ba bn bc ys)
    (hx : Sh2 F h ds qs xs) (hy : Sh2 F' h ds qs ys) (hk : K (.bool true) h) : GC pr n_jotterlaw23_eqNotes [.slice aa an ac, .slice ba bn bc] h K := by
  have hla := ha.n_eq
  have hlb := hb.n_eq
  have hsm := ha.small
  have hxl := hx.length
  have hyl := hy.length
  refine ok_jotterlaw23_eqNotes ?_
  unfold s_jotterlaw23_eqNotes
  refine br_ne (fun h1 => absurd (show ((an : Nat) : Int) = ((bn : Nat) : Int) by omega) h1) (fun h1 => ?_)
  refine LoopP.intro (fun t h' => ∃ i : Nat, t = ((aa, an, ac), (ba, bn, bc), (i : Int), ()) ∧ h' = h ∧ i ≤ xs.length) (fun t _ => xs.length - t.2.2.1.toNat) ⟨0, rfl, rfl, by omega⟩ ?_
  rintro t h' ⟨i, rfl, rfl, hi⟩
  unfold s_jotterlaw23_eqNotes_l1
  dsimp only
  refine br_dec (fun hlt => ?_) (fun hge => hk)
  have hia : i < xs.length := by omega
  have hib : i < ys.length := by omega
  refine ha.idx hia fun p hp => ⟨_, _, _, _, _, _, _, _, _, _, hp, ?_⟩
  refine hb.idx hib fun q hq => ⟨_, _, _, _, _, _, _, _, _, _, hq, ?_⟩
  obtain ⟨q1, e1, s1⟩ := hx.at hia
  obtain ⟨q2, e2, s2⟩ := hy.at hib
  rw [e1] at e2
  have := Option.some.inj e2
  subst this
  refine eqNote_ok s1.reps.sl s2.reps.sl fun b hb => ⟨b, rfl, ?_⟩
  have hbt : b = true := hb.2 ⟨by rw [s1.id, s2.id], by rw [s1.client, s2.client], by rw [s1.words, s2.words], by rw [s1.lo, s2.lo], by rw [s1.hi, s2.hi], by rw [s1.gone, s2.gone], by rw [s1.shut, s2.shut], rfl⟩
  subst hbt
  refine br_no rfl ?_
  rw [step64 (by omega)]
  exact ⟨⟨i + 1, rfl, rfl, hia⟩, by omega⟩
end Go.Proofs.Ytjieepgapjbjlaa.G
