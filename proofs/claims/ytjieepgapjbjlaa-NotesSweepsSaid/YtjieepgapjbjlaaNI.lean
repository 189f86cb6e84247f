/- All: what a board tells of all its notes. -/
import Derived.Test.YtjieepgapjbjlaaNH
namespace Go.Proofs.Ytjieepgapjbjlaa.G
open Go.Gv
set_option linter.unusedVariables false
set_option linter.unusedSimpArgs false
set_option maxRecDepth 100000

structure Shown where
  id : Int
  client : Int
  words : ByteArray
  lo : Int
  hi : Int
  gone : Bool
  shut : Bool
  ra : Option Addr
  rn : Nat
  rc : Nat

def kShown : Kind Shown := ⟨8, fun s => [.int .i64 s.id, .int .i64 s.client, .string s.words, .int .i64 s.lo, .int .i64 s.hi, .bool s.gone, .bool s.shut, .slice s.ra s.rn s.rc], fun _ => rfl, fun _ => rfl⟩

structure ShownOf (F : List Nat) (h : GH) (q : Int × Note) (ds : List Elem) (s : Shown) : Prop where
  id : s.id = q.1
  client : s.client = q.2.client
  words : s.words = q.2.words
  lo : s.lo = (spanOf q.2.elems ds).1
  hi : s.hi = (spanOf q.2.elems ds).2
  gone : s.gone = ((spanOf q.2.elems ds).2 == 0)
  shut : s.shut = q.2.shut
  reps : SlF kReply F h s.ra s.rn s.rc q.2.replies

theorem ShownOf.step {F F' : List Nat} {h h' : GH} {q : Int × Note} {ds : List Elem} {s : Shown} (hs : ShownOf F h q ds s) (st : Step F F' h h') : ShownOf F' h' q ds s :=
  ⟨hs.id, hs.client, hs.words, hs.lo, hs.hi, hs.gone, hs.shut, hs.reps.step (by decide) st⟩

theorem find_at {ns : List (Int × Note)} (hu : (ns.map (·.1)).Nodup) {i : Nat} (hi : i < ns.length) : findN ns[i].1 ns = some ns[i].2 := by
  induction ns generalizing i with
  | nil => simp at hi
  | cons q ns ih =>
    obtain ⟨id, nt⟩ := q
    rw [List.map_cons, List.nodup_cons] at hu
    cases i with
    | zero => simp [findN]
    | succ i =>
      have hi' : i < ns.length := by simpa using hi
      have hne : ¬ ns[i].1 = id := fun e => hu.1 (by rw [← e]; exact List.mem_map.2 ⟨_, List.getElem_mem hi', rfl⟩)
      simp only [List.getElem_cons_succ, findN]
      rw [if_neg hne]
      exact ih hu.2 hi'

theorem All_ok {K : Value → GH → Prop} {h : GH} {bb : Nat} {B : Brd} {F : List Nat} (hB : BrdAt h bb B F) {da : Option Addr} {dn dc : Nat} {ds : List Elem} (hd : Sl kElem h da dn dc ds) (hdl : ds.length < 4611686018427387904)
    (hsmall : B.notes.length ≤ 100000) (hrep : ∀ q ∈ B.notes, q.2.replies.length * 24 ≤ 140737488355328)
    (hk : ∀ a c h' (ss : List Shown), OwnF kShown h h' a B.notes.length c ss → (∀ i (hi : i < B.notes.length), ∃ s, ss[i]? = some s ∧ ShownOf (F ++ ob a) h' B.notes[i] ds s) → K (.slice a B.notes.length c) h') :
    GC pr n_notes_Board_All [.pointer (some ⟨bb, 0, none⟩), .slice da dn dc] h K := by
  refine ok_notes_Board_All ?_
  unfold s_notes_Board_All
  refine ids_ok hB hsmall fun ia ic h1 hi1 => ⟨_, _, _, rfl, ?_⟩
  refine LoopP.intro (fun t h' => ∃ (k : Nat) (a : Option Addr) (c : Nat) (ss : List Shown), t = (some ⟨bb, 0, none⟩, (da, dn, dc), (a, k, c), (ia, B.notes.length, ic), ((B.notes.length : Nat) : Int), (k : Int), ()) ∧ k ≤ B.notes.length ∧
      OwnF kShown h h' a k c ss ∧ BrdAt h' bb B F ∧ SlF kElem (ob a) h' da dn dc ds ∧ SlF kInt (ob a) h' ia B.notes.length ic (B.notes.map (·.1)) ∧ (∀ i, i < k → ∃ s q, ss[i]? = some s ∧ B.notes[i]? = some q ∧ ShownOf (F ++ ob a) h' q ds s))
    (fun t _ => B.notes.length - t.2.2.2.2.2.1.toNat)
    ⟨0, none, 0, [], rfl, by omega, OwnF.nil' hi1.le, hB.le hi1.le, ⟨hd.le hi1.le, fun p _ _ => by simp [ob]⟩, ⟨hi1.sl, fun p _ _ => by simp [ob]⟩, fun i hi => absurd hi (Nat.not_lt_zero _)⟩ ?_
  rintro t h2 ⟨k, a, c, ss, rfl, hkn, ho, hB2, hd2, hi2, hss⟩
  unfold s_notes_Board_All_l1
  dsimp only
  refine br_dec (fun hlt => ?_) fun hge => ?_
  · have hk1 : k < B.notes.length := by omega
    have hk2 : k < (B.notes.map (·.1)).length := by simpa using hk1
    refine hi2.sl.idx hk2 fun p hp => ⟨_, hp, ?_⟩
    obtain ⟨mb, hrm, hcase⟩ := look_at hB2 ((B.notes.map (·.1))[k])
    refine ⟨some mb, by rw [addr0]; exact hrm, ?_⟩
    have hfind : findN ((B.notes.map (·.1))[k]) B.notes = some B.notes[k].2 := by
      rw [List.getElem_map]; exact find_at hB2.uniq hk1
    rcases hcase with ⟨g1, g2⟩ | ⟨L, nt, n1, n2, g1, g2, g3, g4, g5, g6, g7⟩
    · rw [hfind] at g1; exact absurd g1 (by simp)
    · rw [hfind] at g2
      have g2' := Option.some.inj g2
      subst g2'
      refine ⟨_, ⟨true, g4⟩, ?_⟩
      have hmem : B.notes[k] ∈ B.notes := List.getElem_mem hk1
      refine look_ok g3 hd2.sl (hrep _ hmem) hdl fun ra rc h3 hr3 => ⟨_, _, _, _, _, _, _, _, _, _, rfl, ?_⟩
      have hob : ∀ b ∈ ob a, ∃ o, h2 b = some o := fun b hb => Go.Gv.Own.block ho.own hb
      have hr4 := hr3.slf (F := F ++ ob a) fun b hb => by
        rcases List.mem_append.1 hb with hb | hb
        · exact hB2.block hb
        · exact hob b hb
      have ho3 : OwnF kShown h h3 a k c ss := ⟨Go.Gv.Own.agree (Agree.le (F := []) hr3.le) ho.own (fun b hb => by simp), ho.new, GH.le_trans ho.le hr3.le⟩
      refine ho3.app (bytes := 80) (ys := [⟨(B.notes.map (·.1))[k], B.notes[k].2.client, B.notes[k].2.words, (spanOf B.notes[k].2.elems ds).1, (spanOf B.notes[k].2.elems ds).2, ((spanOf B.notes[k].2.elems ds).2 == 0), B.notes[k].2.shut, ra, B.notes[k].2.replies.length, rc⟩]) rfl rfl (by omega) (by omega) fun a' c' h4 ho4 hg => ?_
      have st := hg.step
      have stl : Step (ob a) (ob a) h2 h3 := Step.le hr3.le
      have stl2 : Step (F ++ ob a) (F ++ ob a) h2 h3 := Step.le hr3.le
      have st2 : Step (F ++ ob a) (F ++ ob a') h3 h4 := ⟨st.agree.mono fun b hb => List.mem_append_right _ hb, fun b hb => by
        rcases List.mem_append.1 hb with hb | hb
        · exact .inl (List.mem_append_left _ hb)
        · exact (st.fresh b hb).imp (List.mem_append_right _) id⟩
      have hssl : ss.length = k := ho.own.n_eq.symm
      rw [step64 (by omega)]
      refine ⟨⟨k + 1, a', c', _, rfl, hk1, ho4, (hB2.le hr3.le).agree st.agree fun b hb hb' => ?_, (hd2.step (by decide) stl).step (by decide) st, (hi2.step (by decide) stl).step (by decide) st, fun i hi => ?_⟩, by omega⟩
      · obtain ⟨p, hp, rfl⟩ := mem_ob.1 hb'
        obtain ⟨o, ho'⟩ := hB.block hb
        rw [ho.new p hp] at ho'
        exact absurd ho' (by simp)
      · by_cases hik : i < k
        · obtain ⟨s, q, e1, e2, e3⟩ := hss i hik
          exact ⟨s, q, by rw [List.getElem?_append_left (by omega)]; exact e1, e2, (e3.step stl2).step st2⟩
        · have : i = k := by omega
          subst this
          refine ⟨_, B.notes[i], by rw [List.getElem?_append_right (by omega), hssl, Nat.sub_self]; rfl, List.getElem?_eq_getElem hk1, ?_⟩
          exact ⟨by simp, rfl, rfl, rfl, rfl, rfl, rfl, hr4.step (by decide) st2⟩
  · have : k = B.notes.length := by omega
    subst this
    refine hk a c h2 ss ho fun i hi => ?_
    obtain ⟨s, q, e1, e2, e3⟩ := hss i hi
    rw [List.getElem?_eq_getElem hi] at e2
    have := Option.some.inj e2
    subst this
    exact ⟨s, e1, e3⟩
end Go.Proofs.Ytjieepgapjbjlaa.G
