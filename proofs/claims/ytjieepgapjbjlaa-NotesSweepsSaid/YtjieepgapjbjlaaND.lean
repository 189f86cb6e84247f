/- New, Shut, Reply, Look, Put: contracts. -/
import Derived.Test.YtjieepgapjbjlaaNC
namespace Go.Proofs.Ytjieepgapjbjlaa.G
open Go.Gv
set_option linter.unusedVariables false
set_option maxRecDepth 100000

structure Step (F F' : List Nat) (h h' : GH) : Prop where
  agree : Agree F h h'
  fresh : ∀ b ∈ F', b ∈ F ∨ h b = none

theorem Step.refl (F : List Nat) (h : GH) : Step F F h h := ⟨Agree.refl F h, fun b hb => .inl hb⟩

theorem Step.le {F : List Nat} {h h' : GH} (hl : h.le h') : Step F F h h' := ⟨Agree.le hl, fun b hb => .inl hb⟩

theorem Step.trans {F F' F'' : List Nat} {a b c : GH} (h1 : Step F F' a b) (h2 : Step F' F'' b c) : Step F F'' a c := by
  refine ⟨fun k o hk hF => h2.agree k o (h1.agree k o hk hF) fun h => ?_, fun k hk => ?_⟩
  · rcases h1.fresh k h with h | h
    · exact hF h
    · rw [h] at hk; exact absurd hk (by simp)
  · rcases h2.fresh k hk with h | h
    · exact h1.fresh k h
    · by_cases hF : k ∈ F
      · exact .inl hF
      · cases ha : a k with
        | none => exact .inr rfl
        | some o => rw [h1.agree k o ha hF] at h; exact absurd h (by simp)

theorem _root_.Go.Gv.Grow.agree {h h' : GH} {a a' : Option Addr} (hg : Grow h h' a a') : Agree (ob a) h h' := fun b o hb hn => hg.keep b o hb fun p hp e => hn (mem_ob.2 ⟨p, hp, e⟩)

theorem _root_.Go.Gv.Grow.step {h h' : GH} {a a' : Option Addr} (hg : Grow h h' a a') : Step (ob a) (ob a') h h' := ⟨hg.agree, fun b hb => by
  obtain ⟨p', hp', rfl⟩ := mem_ob.1 hb
  rcases hg.new p' hp' with ⟨p, hp, e⟩ | hn
  · exact .inl (mem_ob.2 ⟨p, hp, e⟩)
  · exact .inr hn⟩

theorem rds_alloc {h : GH} {p : Addr} {vs : List Value} (hr : Rds h p vs) (hne : vs ≠ []) : ∃ o, h p.block = some o := by
  cases vs with
  | nil => exact absurd rfl hne
  | cons v vs =>
    have := hr.2 0 v rfl
    unfold GH.cell at this
    cases hb : h p.block with
    | none => rw [hb] at this; exact absurd this (by simp)
    | some o => exact ⟨o, rfl⟩

/-- A slice that is none of what the blocks F hold. -/
structure SlF {α : Type} (d : Kind α) (F : List Nat) (h : GH) (a : Option Addr) (n c : Nat) (xs : List α) : Prop where
  sl : Sl d h a n c xs
  far : ∀ p, a = some p → xs ≠ [] → p.block ∉ F

theorem SlF.step {α : Type} {d : Kind α} (hk : 0 < d.k) {F F' : List Nat} {h h' : GH} {a : Option Addr} {n c : Nat} {xs : List α} (hs : SlF d F h a n c xs) (st : Step F F' h h') : SlF d F' h' a n c xs :=
  ⟨Go.Gv.Sl.agree st.agree hs.sl fun p hp hne => hs.far p hp hne, fun p hp hne hF => by
    rcases st.fresh _ hF with h1 | h1
    · exact hs.far p hp hne h1
    · have hne' : d.cs xs ≠ [] := fun e => by
        have h2 := d.cs_length xs
        rw [e] at h2
        have h3 : 0 < xs.length := List.length_pos_iff.2 hne
        have := Nat.mul_pos h3 hk
        simp only [List.length_nil] at h2
        omega
      obtain ⟨o, ho⟩ := rds_alloc (hs.sl.rds p hp) hne'
      rw [h1] at ho
      exact absurd ho (by simp)⟩

theorem SlF.other {α : Type} {d : Kind α} {F G : List Nat} {h h' : GH} {a : Option Addr} {n c : Nat} {xs : List α} (hs : SlF d F h a n c xs) (ha : Agree G h h') (hg : ∀ p, a = some p → xs ≠ [] → p.block ∉ G) : SlF d F h' a n c xs :=
  ⟨Go.Gv.Sl.agree ha hs.sl hg, hs.far⟩

theorem SlF.le {α : Type} {d : Kind α} {F : List Nat} {h h' : GH} {a : Option Addr} {n c : Nat} {xs : List α} (hs : SlF d F h a n c xs) (ha : h.le h') : SlF d F h' a n c xs :=
  ⟨hs.sl.le ha, hs.far⟩

/-- A slice that was handed in: where it is empty nothing is known of it. -/
structure SlA {α : Type} (d : Kind α) (F : List Nat) (h : GH) (a : Option Addr) (n c : Nat) (xs : List α) : Prop where
  n_eq : n = xs.length
  slf : xs ≠ [] → SlF d F h a n c xs

theorem SlA.step {α : Type} {d : Kind α} (hk : 0 < d.k) {F F' : List Nat} {h h' : GH} {a : Option Addr} {n c : Nat} {xs : List α} (hs : SlA d F h a n c xs) (st : Step F F' h h') : SlA d F' h' a n c xs :=
  ⟨hs.n_eq, fun hne => (hs.slf hne).step hk st⟩

theorem SlA.other {α : Type} {d : Kind α} {F G : List Nat} {h h' : GH} {a : Option Addr} {n c : Nat} {xs : List α} (hs : SlA d F h a n c xs) (ha : Agree G h h') (hg : ∀ p, a = some p → xs ≠ [] → p.block ∉ G) : SlA d F h' a n c xs :=
  ⟨hs.n_eq, fun hne => (hs.slf hne).other ha hg⟩

theorem SlA.le {α : Type} {d : Kind α} {F : List Nat} {h h' : GH} {a : Option Addr} {n c : Nat} {xs : List α} (hs : SlA d F h a n c xs) (ha : h.le h') : SlA d F h' a n c xs :=
  ⟨hs.n_eq, fun hne => (hs.slf hne).le ha⟩

theorem sl_alloc {α : Type} {d : Kind α} (hk : 0 < d.k) {h : GH} {a : Option Addr} {n c : Nat} {xs : List α} (hs : Sl d h a n c xs) {p : Addr} (hp : a = some p) (hne : xs ≠ []) : ∃ o, h p.block = some o := by
  refine rds_alloc (hs.rds p hp) fun e => ?_
  have h2 := d.cs_length xs
  rw [e] at h2
  have h3 : 0 < xs.length := List.length_pos_iff.2 hne
  have := Nat.mul_pos h3 hk
  simp only [List.length_nil] at h2
  omega

theorem SlA.alloc {α : Type} {d : Kind α} (hk : 0 < d.k) {F : List Nat} {h : GH} {a : Option Addr} {n c : Nat} {xs : List α} (hs : SlA d F h a n c xs) {p : Addr} (hp : a = some p) (hne : xs ≠ []) : ∃ o, h p.block = some o :=
  sl_alloc hk (hs.slf hne).sl hp hne

theorem SlA.far {α : Type} {d : Kind α} (hk : 0 < d.k) {F F' : List Nat} {h h' : GH} {a : Option Addr} {n c : Nat} {xs : List α} (hs : SlA d F h a n c xs) (hl : h.le h') (hF : ∀ b ∈ F', h b = none) : SlA d F' h' a n c xs :=
  ⟨hs.n_eq, fun hne => ⟨(hs.slf hne).sl.le hl, fun p hp hne' hb => by
    obtain ⟨o, ho⟩ := hs.alloc hk hp hne
    rw [hF _ hb] at ho
    exact absurd ho (by simp)⟩⟩

theorem SlA.idx {α : Type} {d : Kind α} {F : List Nat} {h : GH} {a : Option Addr} {n c : Nat} {xs : List α} (hs : SlA d F h a n c xs) {i : Nat} (hi : i < xs.length) {K : Addr → Prop} (hk : ∀ p, Rds h (p.add (i * d.k)) (d.enc xs[i]) → K p) :
    0 ≤ (i : Int) ∧ (i : Int) < ((n : Nat) : Int) ∧ nn a K := (hs.slf (by rintro rfl; simp at hi)).sl.idx hi hk

theorem BrdAt.agree {F G : List Nat} {h h' : GH} {bb : Nat} {B : Brd} (hB : BrdAt h bb B F) (ha : Agree G h h') (hd : ∀ b ∈ F, b ∉ G) : BrdAt h' bb B F := by
  obtain ⟨⟨mb, es, clock, ls, rfl, hnd, hbb, hmb, hents, hborn, hbn⟩, hlow, hids, huniq, hinc⟩ := hB
  refine ⟨⟨mb, es, clock, ls, rfl, hnd, ha _ _ hbb (hd _ (by simp)), ha _ _ hmb (hd _ (by simp)), hents.agree ha fun L hL b hb => hd b ?_, hborn, hbn⟩, hlow, hids, huniq, hinc⟩
  exact List.mem_cons_of_mem _ (List.mem_cons_of_mem _ (List.mem_flatMap.2 ⟨L, hL, hb⟩))

theorem BrdAt.le {F : List Nat} {h h' : GH} {bb : Nat} {B : Brd} (hB : BrdAt h bb B F) (ha : h.le h') : BrdAt h' bb B F := hB.agree (Agree.le (F := []) ha) fun b _ => by simp

theorem BrdAt.block {F : List Nat} {h : GH} {bb : Nat} {B : Brd} (hB : BrdAt h bb B F) {b : Nat} (hb : b ∈ F) : ∃ o, h b = some o := by
  obtain ⟨⟨mb, es, clock, ls, rfl, hnd, hbb, hmb, hents, hborn, hbn⟩, hlow, hids, huniq, hinc⟩ := hB
  simp only [List.mem_cons, List.mem_flatMap] at hb
  rcases hb with rfl | rfl | ⟨L, hL, hb⟩
  · exact ⟨_, hbb⟩
  · exact ⟨_, hmb⟩
  · exact hents.block L hL b hb

def setN (id : Int) (f : Note → Note) : List (Int × Note) → List (Int × Note)
  | [] => []
  | q :: r => if id = q.1 then (q.1, f q.2) :: r else q :: setN id f r

theorem setN_at {id : Int} {f : Note → Note} {n1 n2 : List (Int × Note)} {nt : Note} (hu : ((n1 ++ (id, nt) :: n2).map (·.1)).Nodup) : setN id f (n1 ++ (id, nt) :: n2) = n1 ++ (id, f nt) :: n2 := by
  induction n1 with
  | nil => simp [setN]
  | cons q n1 ih =>
    simp only [List.cons_append, List.map_cons, List.nodup_cons] at hu
    have hne : ¬ id = q.1 := fun e => hu.1 (by simp [← e])
    rw [List.cons_append, setN, if_neg hne, ih hu.2, List.cons_append]

theorem new_ok {K : Value → GH → Prop} {h : GH} (hk : ∀ bb F h', BrdAt h' bb ⟨0, []⟩ F → h.le h' → (∀ b ∈ F, h b = none) → K (.pointer (some ⟨bb, 0, none⟩)) h') : GC pr n_notes_New [] h K := by
  refine ok_notes_New ?_
  unfold s_notes_New
  intro mb hmb bb hbb
  have hne : bb ≠ mb := by
    rintro rfl
    rw [GH.set_same] at hbb
    exact absurd hbb (by simp)
  have hbb0 : h bb = none := by rwa [GH.set_ne hne] at hbb
  refine hk bb [bb, mb] _ ⟨⟨mb, #[], 0, [], rfl, by simp [hne], GH.set_same _ _ _, ?_, .nil, by simp, by simp⟩, by simp, by simp, by simp, by simp⟩ (GH.le_trans (GH.le_set hmb) (GH.le_set hbb)) ?_
  · rw [GH.set_ne hne.symm, GH.set_same]
  · intro b hb
    simp only [List.mem_cons, List.not_mem_nil, or_false] at hb
    rcases hb with rfl | rfl
    · exact hbb0
    · exact hmb

theorem NoteAt.own {h : GH} {L : Lay} {nt : Note} (hn : NoteAt h L nt) (hnd : L.bl.Nodup) : L.nb ∉ ob L.ea ∧ L.nb ∉ ob L.ra ∧ (∀ b ∈ ob L.ea, b ∉ ob L.ra) := by
  simp only [Lay.bl, List.nodup_cons, List.mem_append, not_or, List.nodup_append] at hnd
  exact ⟨hnd.1.1, hnd.1.2, fun b hb hb' => hnd.2.2.2 b hb b hb' rfl⟩

theorem shut_ok {K : Value → GH → Prop} {h : GH} {bb : Nat} {B : Brd} {F : List Nat} (hB : BrdAt h bb B F) {id : Int}
    (hk1 : findN id B.notes = none → K (.int .i64 232) h)
    (hk2 : ∀ nt, findN id B.notes = some nt → nt.shut = true → K (.int .i64 233) h)
    (hk3 : ∀ nt h' F', findN id B.notes = some nt → nt.shut = false → BrdAt h' bb { B with notes := setN id (fun nt => { nt with shut := true }) B.notes } F' → Step F F' h h' → K (.int .i64 0) h') :
    GC pr n_notes_Board_Shut [.pointer (some ⟨bb, 0, none⟩), .int .i64 id] h K := by
  refine ok_notes_Board_Shut ?_
  unfold s_notes_Board_Shut
  obtain ⟨mb, hrm, hcase⟩ := look_at hB id
  refine ⟨some mb, by rw [addr0]; exact hrm, ?_⟩
  rcases hcase with ⟨h1, h2⟩ | ⟨L, nt, n1, n2, g1, g2, g3, g4, g5, g6, g7⟩
  · exact ⟨none, ⟨false, h2⟩, br_yes rfl (hk1 h1)⟩
  · refine ⟨_, ⟨true, g4⟩, br_no rfl ?_⟩
    refine ⟨nt.shut, by rw [addr0]; exact rds1 g3.cells rfl rfl, br_of (fun hs => hk2 nt g2 hs) fun hs => ?_⟩
    show Wr _ _ _ _
    rw [addr0]
    refine wr1 g3.cells (by simp [noteCells]) ?_
    have hu := hB.uniq
    rw [g1] at hu
    obtain ⟨o1, o2, o3⟩ := g3.own g6
    have hN : NoteAt (h.set L.nb (.cells 0 (noteCells L { nt with shut := true }) (some 5))) L { nt with shut := true } :=
      ⟨GH.set_same _ _ _, Go.Gv.Own.agree (Agree.set (F := [L.nb]) (by simp)) g3.elems (fun b hb => by simp; rintro rfl; exact o1 hb), Go.Gv.Own.agree (Agree.set (F := [L.nb]) (by simp)) g3.reps (fun b hb => by simp; rintro rfl; exact o2 hb)⟩
    obtain ⟨F', hB', hF'⟩ := g7 _ L { nt with shut := true } rfl hN (Agree.set (by simp [Lay.bl])) (fun b hb => .inl hb) g6
    refine hk3 nt _ F' g2 hs ?_ ⟨Agree.set (g5 _ (by simp [Lay.bl])), hF'⟩
    rw [g1, setN_at hu]
    exact hB'

theorem reply_ok {K : Value → GH → Prop} {h : GH} {bb : Nat} {B : Brd} {F : List Nat} (hB : BrdAt h bb B F) {id c : Int} {s : ByteArray}
    (hk1 : findN id B.notes = none → K (.int .i64 232) h)
    (hk2 : ∀ nt, findN id B.notes = some nt → wordedE c s ≠ 0 → K (.int .i64 (wordedE c s)) h)
    (hk3 : ∀ nt, findN id B.notes = some nt → wordedE c s = 0 → nt.shut = true → K (.int .i64 233) h)
    (hk4 : ∀ nt, findN id B.notes = some nt → wordedE c s = 0 → nt.shut = false → (nt.replies.length + 1) * 24 ≤ 140737488355328 ∧ ∀ h' F', BrdAt h' bb { B with notes := setN id (fun nt => { nt with replies := nt.replies ++ [⟨c, s⟩] }) B.notes } F' → Step F F' h h' → K (.int .i64 0) h') :
    GC pr n_notes_Board_Reply [.pointer (some ⟨bb, 0, none⟩), .int .i64 id, .int .i64 c, .string s] h K := by
  refine ok_notes_Board_Reply ?_
  unfold s_notes_Board_Reply
  obtain ⟨mb, hrm, hcase⟩ := look_at hB id
  refine ⟨some mb, by rw [addr0]; exact hrm, ?_⟩
  rcases hcase with ⟨h1, h2⟩ | ⟨L, nt, n1, n2, g1, g2, g3, g4, g5, g6, g7⟩
  · exact ⟨none, ⟨false, h2⟩, br_yes rfl (hk1 h1)⟩
  · refine ⟨_, ⟨true, g4⟩, br_no rfl ?_⟩
    refine worded_ok ⟨_, rfl, br_ne (fun hw => hk2 nt g2 hw) fun hw => ?_⟩
    refine ⟨nt.shut, by rw [addr0]; exact rds1 g3.cells rfl rfl, br_of (fun hs => hk3 nt g2 hw hs) fun hs => ?_⟩
    obtain ⟨hb, hk⟩ := hk4 nt g2 hw hs
    refine ⟨L.ra, L.rn, L.rc, by rw [addr0]; exact rds1 g3.cells rfl rfl, ?_⟩
    have hlen := g3.reps.n_eq
    refine g3.reps.app (ys := [⟨c, s⟩]) rfl rfl (by omega) (by omega) fun a' c' h1 ho hg => ?_
    show Wr _ _ _ _
    rw [addr0]
    obtain ⟨o1, o2, o3⟩ := g3.own g6
    have hgs := hg.step
    have hc1 : h1 L.nb = some (.cells 0 (noteCells L nt) (some 5)) := hgs.agree _ _ g3.cells o2
    refine wr1 hc1 (by simp [noteCells]) ?_
    have hu := hB.uniq
    rw [g1] at hu
    have onb : L.nb ∉ ob a' := fun hb => by
      rcases hgs.fresh _ hb with h2 | h2
      · exact o2 h2
      · rw [g3.cells] at h2; exact absurd h2 (by simp)
    have oea : ∀ b ∈ ob L.ea, b ∉ ob a' := fun b hb hb' => by
      rcases hgs.fresh _ hb' with h2 | h2
      · exact o3 b hb h2
      · obtain ⟨o, ho⟩ := Go.Gv.Own.block g3.elems hb
        rw [ho] at h2; exact absurd h2 (by simp)
    have hset : Agree [L.nb] h1 (h1.set L.nb (.cells 0 (noteCells ⟨L.nb, L.ea, L.en, L.ec, a', L.rn + 1, c'⟩ { nt with replies := nt.replies ++ [⟨c, s⟩] }) (some 5))) := Agree.set (by simp)
    have hN : NoteAt (h1.set L.nb (.cells 0 (noteCells ⟨L.nb, L.ea, L.en, L.ec, a', L.rn + 1, c'⟩ { nt with replies := nt.replies ++ [⟨c, s⟩] }) (some 5))) ⟨L.nb, L.ea, L.en, L.ec, a', L.rn + 1, c'⟩ { nt with replies := nt.replies ++ [⟨c, s⟩] } :=
      ⟨GH.set_same _ _ _, Go.Gv.Own.agree hset (Go.Gv.Own.agree hg.agree g3.elems o3) (fun b hb => by simp; rintro rfl; exact o1 hb), Go.Gv.Own.agree hset ho (fun b hb => by simp; rintro rfl; exact onb hb)⟩
    have hst : Agree L.bl h (h1.set L.nb (.cells 0 (noteCells ⟨L.nb, L.ea, L.en, L.ec, a', L.rn + 1, c'⟩ { nt with replies := nt.replies ++ [⟨c, s⟩] }) (some 5))) :=
      Agree.trans (hg.agree.mono fun b hb => by simp [Lay.bl, hb]) (Agree.set (by simp [Lay.bl]))
    obtain ⟨F', hB', hF'⟩ := g7 _ ⟨L.nb, L.ea, L.en, L.ec, a', L.rn + 1, c'⟩ { nt with replies := nt.replies ++ [⟨c, s⟩] } rfl hN hst (fun b hb => by
        simp only [Lay.bl, List.mem_cons, List.mem_append] at hb ⊢
        rcases hb with rfl | hb | hb
        · exact .inl (.inl rfl)
        · exact .inl (.inr (.inl hb))
        · rcases hgs.fresh _ hb with h2 | h2
          · exact .inl (.inr (.inr h2))
          · exact .inr h2) (by
        have hea : (ob L.ea).Nodup := by cases L.ea <;> simp [ob]
        have hra : (ob a').Nodup := by cases a' <;> simp [ob]
        simp only [Lay.bl, List.nodup_cons, List.mem_append, not_or, List.nodup_append]
        exact ⟨⟨o1, onb⟩, hea, hra, fun b hb b' hb' e => by subst e; exact oea b hb hb'⟩)
    refine hk _ F' ?_ ⟨hst.mono g5, hF'⟩
    rw [g1, setN_at hu]
    exact hB'
end Go.Proofs.Ytjieepgapjbjlaa.G
