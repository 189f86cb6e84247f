/- The board in memory; New, Shut, Reply, Look, Put. -/
import Derived.Test.YtjieepgapjbjlaaNB
namespace Go.Proofs.Ytjieepgapjbjlaa.G
open Go.Gv
set_option linter.unusedVariables false
set_option maxRecDepth 100000

structure Note where
  elems : List Elem
  client : Int
  words : ByteArray
  shut : Bool
  replies : List Reply

structure Brd where
  given : Int
  notes : List (Int × Note)

/-- Where a note lies. -/
structure Lay where
  nb : Nat
  ea : Option Addr
  en : Nat
  ec : Nat
  ra : Option Addr
  rn : Nat
  rc : Nat

def ob (a : Option Addr) : List Nat := a.toList.map (·.block)
theorem mem_ob {a : Option Addr} {b : Nat} : b ∈ ob a ↔ ∃ p, a = some p ∧ p.block = b := by
  cases a <;> simp [ob, eq_comm]

def Lay.bl (L : Lay) : List Nat := L.nb :: (ob L.ea ++ ob L.ra)

/-- Outside the blocks F nothing has turned. -/
def Agree (F : List Nat) (h h' : GH) : Prop := ∀ b o, h b = some o → b ∉ F → h' b = some o

theorem Agree.refl (F : List Nat) (h : GH) : Agree F h h := fun _ _ h _ => h
theorem Agree.le {F : List Nat} {h h' : GH} (hl : h.le h') : Agree F h h' := fun b o hb _ => hl b o hb
theorem Agree.trans {F : List Nat} {a b c : GH} (h1 : Agree F a b) (h2 : Agree F b c) : Agree F a c := fun k o hk hF => h2 k o (h1 k o hk hF) hF
theorem Agree.set {F : List Nat} {h : GH} {b : Nat} {o : GObj} (hb : b ∈ F) : Agree F h (h.set b o) := fun k o' hk hF => by
  rw [GH.set_ne (fun e => hF (by rw [e]; exact hb))]; exact hk
theorem Agree.mono {F F' : List Nat} {h h' : GH} (ha : Agree F h h') (hs : ∀ b ∈ F, b ∈ F') : Agree F' h h' := fun b o hb hF => ha b o hb fun h => hF (hs b h)

theorem _root_.Go.Gv.Rds.agree {F : List Nat} {h h' : GH} (ha : Agree F h h') {p : Addr} {vs : List Value} (hr : Rds h p vs) (hp : vs ≠ [] → p.block ∉ F) : Rds h' p vs :=
  ⟨hr.1, fun i v hv => by
    have hne : vs ≠ [] := by rintro rfl; simp at hv
    have hc := hr.2 i v hv
    unfold GH.cell at hc ⊢
    cases hb : h p.block with
    | none => rw [hb] at hc; exact absurd hc (by simp)
    | some o => rw [hb] at hc; rw [ha _ o hb (hp hne)]; exact hc⟩

theorem _root_.Go.Gv.Sl.agree {α : Type} {d : Kind α} {F : List Nat} {h h' : GH} (ha : Agree F h h') {a : Option Addr} {n c : Nat} {xs : List α} (hs : Sl d h a n c xs) (hp : ∀ p, a = some p → xs ≠ [] → p.block ∉ F) : Sl d h' a n c xs :=
  ⟨hs.n_eq, hs.cap, hs.small, hs.spot, hs.nil, fun p hq => Rds.agree ha (hs.rds p hq) fun hne => hp p hq fun e => by subst e; exact hne rfl⟩

theorem _root_.Go.Gv.Own.agree {α : Type} {d : Kind α} {F : List Nat} {h h' : GH} (ha : Agree F h h') {a : Option Addr} {n c : Nat} {xs : List α} (ho : Own d h a n c xs) (hp : ∀ b ∈ ob a, b ∉ F) : Own d h' a n c xs := by
  refine ⟨ho.n_eq, ho.cap, ho.small, ?_⟩
  rcases ho.at_ with h1 | ⟨b, off, rest, room, rfl, hb, hr⟩
  · exact .inl h1
  · exact .inr ⟨b, off, rest, room, rfl, ha b _ hb (hp b (mem_ob.2 ⟨_, rfl, rfl⟩)), hr⟩

theorem _root_.Go.Gv.Own.block {α : Type} {d : Kind α} {h : GH} {a : Option Addr} {n c : Nat} {xs : List α} (ho : Own d h a n c xs) {b : Nat} (hb : b ∈ ob a) : ∃ o, h b = some o := by
  obtain ⟨p, hp, rfl⟩ := mem_ob.1 hb
  rcases ho.at_ with ⟨rfl, _⟩ | ⟨b, off, rest, room, rfl, hbk, hr⟩
  · simp at hp
  · simp only [Option.some.injEq] at hp; subst hp; exact ⟨_, hbk⟩

def noteCells (L : Lay) (nt : Note) : List Value := [.slice L.ea L.en L.ec, .int .i64 nt.client, .string nt.words, .bool nt.shut, .slice L.ra L.rn L.rc]

structure NoteAt (h : GH) (L : Lay) (nt : Note) : Prop where
  cells : h L.nb = some (.cells 0 (noteCells L nt) (some 5))
  elems : Own kElem h L.ea L.en L.ec nt.elems
  reps : Own kReply h L.ra L.rn L.rc nt.replies

theorem NoteAt.agree {F : List Nat} {h h' : GH} (ha : Agree F h h') {L : Lay} {nt : Note} (hn : NoteAt h L nt) (hd : ∀ b ∈ L.bl, b ∉ F) : NoteAt h' L nt :=
  ⟨ha _ _ hn.cells (hd _ (by simp [Lay.bl])), hn.elems.agree ha (fun b hb => hd b (by simp [Lay.bl, hb])), hn.reps.agree ha (fun b hb => hd b (by simp [Lay.bl, hb]))⟩

theorem NoteAt.block {h : GH} {L : Lay} {nt : Note} (hn : NoteAt h L nt) {b : Nat} (hb : b ∈ L.bl) : ∃ o, h b = some o := by
  simp only [Lay.bl, List.mem_cons, List.mem_append] at hb
  rcases hb with rfl | hb | hb
  · exact ⟨_, hn.cells⟩
  · exact hn.elems.block hb
  · exact hn.reps.block hb

/-- The entries of the map are the notes, in their order. -/
inductive Ents (h : GH) : List MapEntry → List (Int × Note) → List Lay → Prop where
  | nil : Ents h [] [] []
  | cons {e : MapEntry} {es : List MapEntry} {id : Int} {nt : Note} {ns : List (Int × Note)} {L : Lay} {ls : List Lay} (hk : e.key = .int .i64 id) (hv : e.val = .pointer (some ⟨L.nb, 0, none⟩)) (hn : NoteAt h L nt) (hr : Ents h es ns ls) : Ents h (e :: es) ((id, nt) :: ns) (L :: ls)

theorem Ents.agree {F : List Nat} {h h' : GH} (ha : Agree F h h') {es : List MapEntry} {ns : List (Int × Note)} {ls : List Lay} (he : Ents h es ns ls) (hd : ∀ L ∈ ls, ∀ b ∈ L.bl, b ∉ F) : Ents h' es ns ls := by
  induction he with
  | nil => exact .nil
  | cons hk hv hn hr ih => exact .cons hk hv (hn.agree ha (hd _ (by simp))) (ih fun L hL => hd L (by simp [hL]))

theorem Ents.append {h : GH} {es es' : List MapEntry} {ns ns' : List (Int × Note)} {ls ls' : List Lay} (he : Ents h es ns ls) (he' : Ents h es' ns' ls') : Ents h (es ++ es') (ns ++ ns') (ls ++ ls') := by
  induction he with
  | nil => exact he'
  | cons hk hv hn hr ih => exact .cons hk hv hn ih

structure BrdAt (h : GH) (bb : Nat) (B : Brd) (F : List Nat) : Prop where
  ex : ∃ mb es clock ls, F = bb :: mb :: (ls.flatMap Lay.bl) ∧ F.Nodup ∧ h bb = some (.cells 0 [.int .i64 B.given, .map (some mb)] (some 2)) ∧ h mb = some (.raw (.map es clock)) ∧ Ents h es.toList B.notes ls ∧
    (∀ e ∈ es.toList, e.born < clock) ∧ (es.toList.map (·.born)).Nodup
  low : 0 ≤ B.given ∧ B.given ≤ 256
  ids : ∀ q ∈ B.notes, 1 ≤ q.1 ∧ q.1 ≤ B.given
  uniq : (B.notes.map (·.1)).Nodup
  inc : (B.notes.map (·.1)).Pairwise (· < ·)

theorem eqK (a b : Int) : eqB pr 10000 3 (.int .i64 a) (.int .i64 b) = some (a == b) := by kernel_rfl

def findN (id : Int) : List (Int × Note) → Option Note
  | [] => none
  | (i, nt) :: r => if id = i then some nt else findN id r

/-- What is found in the entries. -/
theorem findE_ents {h : GH} {id : Int} {es : List MapEntry} {ns : List (Int × Note)} {ls : List Lay} (he : Ents h es ns ls) : ∀ (k : Nat),
    (findN id ns = none ∧ findE pr 3 (.int .i64 id) es k = some none) ∨
    (∃ e1 e e2 n1 nt n2 l1 L l2, es = e1 ++ e :: e2 ∧ ns = n1 ++ (id, nt) :: n2 ∧ ls = l1 ++ L :: l2 ∧ e1.length = n1.length ∧ e1.length = l1.length ∧ Ents h e1 n1 l1 ∧ Ents h e2 n2 l2 ∧ e.key = .int .i64 id ∧ e.val = .pointer (some ⟨L.nb, 0, none⟩) ∧ NoteAt h L nt ∧ findN id ns = some nt ∧
      findE pr 3 (.int .i64 id) es k = some (some (k + e1.length, .pointer (some ⟨L.nb, 0, none⟩)))) := by
  induction he with
  | nil => intro k; exact .inl ⟨rfl, rfl⟩
  | @cons e es i nt ns L ls hk hv hn hr ih =>
    intro k
    by_cases hid : id = i
    · subst hid
      refine .inr ⟨[], e, es, [], nt, ns, [], L, ls, rfl, rfl, rfl, rfl, rfl, .nil, hr, hk, hv, hn, by simp [findN], ?_⟩
      simp only [findE, hk, eqK, beq_self_eq_true, hv, List.length_nil, Nat.add_zero]
    · have hq : findE pr 3 (.int .i64 id) (e :: es) k = findE pr 3 (.int .i64 id) es (k + 1) := by
        have : (id == i) = false := by simpa using hid
        simp only [findE, hk, eqK, this]
      rcases ih (k + 1) with ⟨h1, h2⟩ | ⟨e1, e', e2, n1, nt', n2, l1, L', l2, g1, g2, g3, g4, g5, g6, g7, g8, g9, g10, g11, g12⟩
      · exact .inl ⟨by simp [findN, hid, h1], by rw [hq, h2]⟩
      · refine .inr ⟨e :: e1, e', e2, (i, nt) :: n1, nt', n2, L :: l1, L', l2, by rw [g1]; rfl, by rw [g2]; rfl, by rw [g3]; rfl, by simp [g4], by simp [g5], .cons hk hv hn g6, g7, g8, g9, g10, by simp [findN, hid, g11], ?_⟩
        rw [hq, g12]
        simp only [List.length_cons]
        congr 3
        omega

theorem Ents.block {h : GH} {es : List MapEntry} {ns : List (Int × Note)} {ls : List Lay} (he : Ents h es ns ls) : ∀ M ∈ ls, ∀ b ∈ M.bl, ∃ o, h b = some o := by
  induction he with
  | nil => intro M hM; simp at hM
  | cons hk hv hn hr ih =>
    intro M hM b hb
    rcases List.mem_cons.1 hM with rfl | hM
    · exact hn.block hb
    · exact ih M hM b hb

theorem nodup_flat {l1 l2 : List Lay} {L : Lay} (h : ((l1 ++ L :: l2).flatMap Lay.bl).Nodup) : L.bl.Nodup ∧ (∀ M ∈ l1, ∀ b ∈ M.bl, b ∉ L.bl) ∧ (∀ M ∈ l2, ∀ b ∈ M.bl, b ∉ L.bl) := by
  rw [List.flatMap_append, List.flatMap_cons, List.nodup_append] at h
  obtain ⟨h1, h2, h3⟩ := h
  rw [List.nodup_append] at h2
  obtain ⟨h4, h5, h6⟩ := h2
  refine ⟨h4, fun M hM b hb hbL => h3 b (List.mem_flatMap.2 ⟨M, hM, hb⟩) b (List.mem_append_left _ hbL) rfl, fun M hM b hb hbL => h6 b hbL b (List.mem_flatMap.2 ⟨M, hM, hb⟩) rfl⟩

/-- The zero of the map's elements: a nil pointer. -/
theorem zero79 : zeroT pr 79 = some (.pointer none) := by kernel_rfl

/-- A note looked up. -/
theorem look_at {h : GH} {bb : Nat} {B : Brd} {F : List Nat} (hB : BrdAt h bb B F) (id : Int) : ∃ mb, Rds h ⟨bb, 0 + 1, none⟩ [.map (some mb)] ∧
    ((findN id B.notes = none ∧ Lk pr h 3 79 (some mb) (.int .i64 id) (.pointer none) false) ∨
     (∃ L nt n1 n2, B.notes = n1 ++ (id, nt) :: n2 ∧ findN id B.notes = some nt ∧ NoteAt h L nt ∧ Lk pr h 3 79 (some mb) (.int .i64 id) (.pointer (some ⟨L.nb, 0, none⟩)) true ∧ (∀ b ∈ L.bl, b ∈ F) ∧ L.bl.Nodup ∧
        -- another note in its place
        (∀ (h' : GH) (L' : Lay) (nt' : Note), L'.nb = L.nb → NoteAt h' L' nt' → Agree L.bl h h' → (∀ b ∈ L'.bl, b ∈ L.bl ∨ h b = none) → L'.bl.Nodup →
          ∃ F', BrdAt h' bb { B with notes := n1 ++ (id, nt') :: n2 } F' ∧ (∀ b ∈ F', b ∈ F ∨ h b = none)))) := by
  obtain ⟨⟨mb, es, clock, ls, rfl, hnd, hbb, hmb, hents, hborn, hbn⟩, hlow, hids, huniq, hinc⟩ := hB
  refine ⟨mb, rds1 hbb rfl rfl, ?_⟩
  rcases findE_ents (id := id) hents 0 with ⟨h1, h2⟩ | ⟨e1, e, e2, n1, nt, n2, l1, L, l2, g1, g2, g3, g4, g5, g6, g7, g8, g9, g10, g11, g12⟩
  · exact .inl ⟨h1, es, clock, hmb, none, h2, zero79, rfl⟩
  · refine .inr ⟨L, nt, n1, n2, g2, g11, g10, ⟨es, clock, hmb, _, g12, rfl, rfl⟩, fun b hb => ?_, ?_, fun h' L' nt' hnb hN hag hbl hnd' => ?_⟩
    · rw [g3]
      exact List.mem_cons_of_mem _ (List.mem_cons_of_mem _ (List.mem_flatMap.2 ⟨L, by simp, hb⟩))
    · subst g3
      rw [List.nodup_cons, List.nodup_cons] at hnd
      exact (nodup_flat hnd.2.2).1
    · subst g3
      have hnd2 := hnd
      rw [List.nodup_cons, List.nodup_cons] at hnd2
      obtain ⟨d1, d2, d3⟩ := hnd2
      obtain ⟨d4, d5, d6⟩ := nodup_flat d3
      have hLmem : ∀ b ∈ L.bl, b ∈ (l1 ++ L :: l2).flatMap Lay.bl := fun b hb => List.mem_flatMap.2 ⟨L, by simp, hb⟩
      have hbbL : bb ∉ L.bl := fun hb => d1 (List.mem_cons_of_mem _ (hLmem _ hb))
      have hmbL : mb ∉ L.bl := fun hb => d2 (hLmem _ hb)
      have old : ∀ b o, h b = some o → b ∉ L.bl → b ∉ L'.bl := fun b o hb hn hb' => by
        rcases hbl b hb' with h1 | h1
        · exact hn h1
        · rw [h1] at hb; exact absurd hb (by simp)
      have hE1 := g6.agree hag d5
      have hE2 := g7.agree hag d6
      have blk1 := g6.block
      have blk2 := g7.block
      refine ⟨bb :: mb :: ((l1 ++ L' :: l2).flatMap Lay.bl), ⟨⟨mb, es, clock, l1 ++ L' :: l2, rfl, ?_, hag _ _ hbb hbbL, hag _ _ hmb hmbL, ?_, hborn, hbn⟩, hlow, ?_, ?_, ?_⟩, fun b hb => ?_⟩
      · have hbb' : bb ∉ L'.bl := old _ _ hbb hbbL
        have hmb' : mb ∉ L'.bl := old _ _ hmb hmbL
        simp only [List.flatMap_append, List.flatMap_cons, List.nodup_cons, List.mem_cons, List.mem_append, List.mem_flatMap, not_or, not_exists, not_and] at d1 d2 ⊢
        refine ⟨⟨d1.1, d1.2.1, hbb', d1.2.2.2⟩, ⟨d2.1, hmb', d2.2.2⟩, ?_⟩
        rw [List.flatMap_append, List.flatMap_cons, List.nodup_append] at d3
        obtain ⟨t1, t2, t3⟩ := d3
        rw [List.nodup_append] at t2
        obtain ⟨t4, t5, t6⟩ := t2
        rw [List.nodup_append]
        refine ⟨t1, ?_, fun x hx y hy => ?_⟩
        · rw [List.nodup_append]
          refine ⟨hnd', t5, fun x hx y hy hxy => ?_⟩
          subst hxy
          obtain ⟨M, hM, hb⟩ := List.mem_flatMap.1 hy
          obtain ⟨o, ho⟩ := blk2 M hM x hb
          exact old x o ho (d6 M hM x hb) hx
        · rcases List.mem_append.1 hy with hy | hy
          · intro hxy
            subst hxy
            obtain ⟨M, hM, hb⟩ := List.mem_flatMap.1 hx
            obtain ⟨o, ho⟩ := blk1 M hM x hb
            exact old x o ho (d5 M hM x hb) hy
          · exact t3 x hx y (List.mem_append_right _ hy)
      · rw [g1]
        exact hE1.append (.cons g8 (by rw [hnb]; exact g9) hN hE2)
      · intro q hq
        simp only [List.mem_append, List.mem_cons] at hq
        rcases hq with hq | rfl | hq
        · exact hids q (by rw [g2]; simp [hq])
        · exact hids (id, nt) (by rw [g2]; simp)
        · exact hids q (by rw [g2]; simp [hq])
      · rw [g2] at huniq
        simpa using huniq
      · rw [g2] at hinc
        simpa using hinc
      · simp only [List.flatMap_append, List.flatMap_cons, List.mem_cons, List.mem_append] at hb ⊢
        rcases hb with rfl | rfl | hb | hb | hb
        · simp
        · simp
        · simp [hb]
        · rcases hbl b hb with h1 | h1
          · simp [h1]
          · exact .inr h1
        · simp [hb]
end Go.Proofs.Ytjieepgapjbjlaa.G
