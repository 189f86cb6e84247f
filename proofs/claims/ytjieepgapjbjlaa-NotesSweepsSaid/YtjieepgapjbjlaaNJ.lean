/- Sweep. -/
import Derived.Test.YtjieepgapjbjlaaNI
namespace Go.Proofs.Ytjieepgapjbjlaa.G
open Go.Gv
set_option linter.unusedVariables false
set_option linter.unusedSimpArgs false
set_option maxRecDepth 100000

theorem find_mem {ns : List (Int × Note)} (hu : (ns.map (·.1)).Nodup) {q : Int × Note} (hq : q ∈ ns) : findN q.1 ns = some q.2 := by
  obtain ⟨i, hi, rfl⟩ := List.mem_iff_getElem.1 hq
  exact find_at hu hi

theorem filter_id {n1 n2 : List (Int × Note)} {id : Int} {nt : Note} (hu : ((n1 ++ (id, nt) :: n2).map (·.1)).Nodup) : (n1 ++ (id, nt) :: n2).filter (fun q => !(q.1 == id)) = n1 ++ n2 := by
  rw [List.map_append, List.map_cons, List.nodup_append, List.nodup_cons] at hu
  obtain ⟨h1, ⟨h2, h3⟩, h4⟩ := hu
  rw [List.filter_append, List.filter_cons]
  have e1 : n1.filter (fun q => !(q.1 == id)) = n1 := List.filter_eq_self.2 fun q hq => by
    have := h4 q.1 (List.mem_map.2 ⟨q, hq, rfl⟩) id (by simp)
    simpa using this
  have e2 : n2.filter (fun q => !(q.1 == id)) = n2 := List.filter_eq_self.2 fun q hq => by
    have : q.1 ≠ id := fun e => h2 (by rw [← e]; exact List.mem_map.2 ⟨q, hq, rfl⟩)
    simpa using this
  rw [e1, e2]
  simp

/-- A note taken out of the map. -/
theorem del_at {h : GH} {bb : Nat} {B : Brd} {F : List Nat} (hB : BrdAt h bb B F) {id : Int} {nt : Note} (hf : findN id B.notes = some nt) : ∃ mb, Rds h ⟨bb, 0 + 1, none⟩ [.map (some mb)] ∧
    ∀ {K : GH → Prop}, (∀ h' F', BrdAt h' bb { B with notes := B.notes.filter fun q => !(q.1 == id) } F' → Step F F' h h' → K h') → MDel pr h 3 (some mb) (.int .i64 id) K := by
  obtain ⟨⟨mb, es, clock, ls, rfl, hnd, hbb, hmb, hents, hborn, hbn⟩, hlow, hids, huniq, hinc⟩ := hB
  refine ⟨mb, rds1 hbb rfl rfl, fun {K} hk => ?_⟩
  rcases findE_ents (id := id) hents 0 with ⟨h1, h2⟩ | ⟨e1, e, e2, n1, nt', n2, l1, L, l2, g1, g2, g3, g4, g5, g6, g7, g8, g9, g10, g11, g12⟩
  · rw [h1] at hf; exact absurd hf (by simp)
  refine ⟨es, clock, hmb, _, g12, ?_⟩
  dsimp only
  rw [Nat.zero_add]
  have hes : (es.eraseIdxIfInBounds e1.length).toList = e1 ++ e2 := by
    have hlt : e1.length < es.size := by
      have := congrArg List.length g1
      simp at this
      omega
    rw [Array.eraseIdxIfInBounds, dif_pos hlt, Array.toList_eraseIdx, g1, List.eraseIdx_append_of_length_le (Nat.le_refl _)]
    simp
  have hnd2 := hnd
  rw [List.nodup_cons, List.nodup_cons] at hnd2
  obtain ⟨d1, d2, d3⟩ := hnd2
  have hmbb : bb ≠ mb := fun h => d1 (by simp [h])
  subst g3
  have hsub : ∀ b, b ∈ (l1 ++ l2).flatMap Lay.bl → b ∈ (l1 ++ L :: l2).flatMap Lay.bl := fun b hb => by
    simp only [List.flatMap_append, List.flatMap_cons, List.mem_append] at hb ⊢
    rcases hb with hb | hb
    · exact .inl hb
    · exact .inr (.inr hb)
  have hag : Agree [mb] h (h.set mb (.raw (.map (es.eraseIdxIfInBounds e1.length) clock))) := Agree.set (by simp)
  have hfar : ∀ M, M ∈ l1 ++ l2 → ∀ b ∈ M.bl, b ∉ [mb] := fun M hM b hb => by
    simp only [List.mem_cons, List.not_mem_nil, or_false]
    rintro rfl
    exact d2 (hsub _ (List.mem_flatMap.2 ⟨M, hM, hb⟩))
  have hid : (n1 ++ (id, nt') :: n2).filter (fun q => !(q.1 == id)) = n1 ++ n2 := filter_id (by rw [← g2]; exact huniq)
  refine hk _ (bb :: mb :: ((l1 ++ l2).flatMap Lay.bl)) ⟨⟨mb, _, clock, l1 ++ l2, rfl, ?_, ?_, GH.set_same _ _ _, ?_, ?_, ?_⟩, hlow, ?_, ?_, ?_⟩ ⟨hag.mono (by simp), fun b hb => .inl ?_⟩
  · rw [List.nodup_cons, List.nodup_cons]
    refine ⟨fun hb => d1 ?_, fun hb => d2 (hsub _ hb), ?_⟩
    · rcases List.mem_cons.1 hb with rfl | hb
      · simp
      · exact List.mem_cons_of_mem _ (hsub _ hb)
    · refine List.Nodup.sublist ?_ d3
      simp only [List.flatMap_append, List.flatMap_cons]
      exact List.Sublist.append_left (List.sublist_append_right _ _) _
  · rw [GH.set_ne hmbb]; exact hbb
  · rw [hes, g2, hid]
    exact (g6.agree hag fun M hM => hfar M (by simp [hM])).append (g7.agree hag fun M hM => hfar M (by simp [hM]))
  · intro x hx
    rw [hes] at hx
    refine hborn x ?_
    rw [g1]
    rcases List.mem_append.1 hx with hx | hx
    · simp [hx]
    · simp [hx]
  · rw [hes]
    rw [g1] at hbn
    refine List.Nodup.sublist ?_ hbn
    exact (List.Sublist.append_left (List.sublist_cons_self _ _) _).map _
  · intro q hq
    exact hids q (List.mem_filter.1 hq).1
  · exact List.Nodup.sublist (List.Sublist.map _ List.filter_sublist) huniq
  · exact List.Pairwise.sublist (List.Sublist.map _ List.filter_sublist) hinc
  · rcases List.mem_cons.1 hb with rfl | hb
    · simp
    rcases List.mem_cons.1 hb with rfl | hb
    · simp
    exact List.mem_cons_of_mem _ (List.mem_cons_of_mem _ (hsub _ hb))

/-- Does a note stay? -/
def stays (ds : List Elem) (q : Int × Note) : Bool := !((spanOf q.2.elems ds).2 == 0 && q.2.shut)

theorem Sweep_ok {K : Value → GH → Prop} {h : GH} {bb : Nat} {B : Brd} {F : List Nat} (hB : BrdAt h bb B F) {da : Option Addr} {dn dc : Nat} {ds : List Elem} (hd : SlF kElem F h da dn dc ds) (hdl : ds.length < 4611686018427387904)
    (hsmall : B.notes.length ≤ 100000)
    (hk : ∀ h' F', BrdAt h' bb { B with notes := B.notes.filter (stays ds) } F' → Step F F' h h' → K (.int .i64 (((B.notes.length - (B.notes.filter (stays ds)).length : Nat)) : Int)) h') :
    GC pr n_notes_Board_Sweep [.pointer (some ⟨bb, 0, none⟩), .slice da dn dc] h K := by
  refine ok_notes_Board_Sweep ?_
  unfold s_notes_Board_Sweep
  refine ids_ok hB hsmall fun ia ic h1 hi1 => ⟨_, _, _, rfl, ?_⟩
  have hi1F := hi1.slf (F := F) fun b hb => hB.block hb
  refine LoopP.intro (fun t h' => ∃ (i : Nat) (F' : List Nat), t = (some ⟨bb, 0, none⟩, (da, dn, dc), ((((B.notes.take i).length - ((B.notes.take i).filter (stays ds)).length : Nat)) : Int), (ia, B.notes.length, ic), ((B.notes.length : Nat) : Int), (i : Int), ()) ∧ i ≤ B.notes.length ∧
      BrdAt h' bb { B with notes := (B.notes.take i).filter (stays ds) ++ B.notes.drop i } F' ∧ Step F F' h h' ∧ SlF kElem F' h' da dn dc ds ∧ SlF kInt F' h' ia B.notes.length ic (B.notes.map (·.1)))
    (fun t _ => B.notes.length - t.2.2.2.2.2.1.toNat)
    ⟨0, F, rfl, by omega, hB.le hi1.le, Step.le hi1.le, hd.le hi1.le, hi1F⟩ ?_
  rintro t h2 ⟨i, F2, rfl, hin, hB2, st2, hd2, hi2⟩
  unfold s_notes_Board_Sweep_l1
  dsimp only
  refine br_dec (fun hlt => ?_) fun hge => ?_
  · have hk1 : i < B.notes.length := by omega
    have hk2 : i < (B.notes.map (·.1)).length := by simpa using hk1
    refine hi2.sl.idx hk2 fun p hp => ⟨_, hp, ?_⟩
    rw [List.getElem_map]
    have hdrop : B.notes.drop i = B.notes[i] :: B.notes.drop (i + 1) := List.drop_eq_getElem_cons hk1
    have htake : B.notes.take (i + 1) = B.notes.take i ++ [B.notes[i]] := List.take_succ_eq_append_getElem hk1
    have hfind : findN B.notes[i].1 ((B.notes.take i).filter (stays ds) ++ B.notes.drop i) = some B.notes[i].2 := find_mem hB2.uniq (List.mem_append_right _ (by rw [hdrop]; exact List.mem_cons_self))
    have hfl := List.length_filter_le (stays ds) (B.notes.take i)
    have htl : (B.notes.take i).length = i := by rw [List.length_take]; omega
    rw [step64 (i := i) (by omega)]
    have fin : B.notes.length - (((i + 1 : Nat) : Int)).toNat < B.notes.length - ((i : Nat) : Int).toNat := by omega
    have stay : stays ds B.notes[i] = true → (B.notes.take (i + 1)).filter (stays ds) ++ B.notes.drop (i + 1) = (B.notes.take i).filter (stays ds) ++ B.notes.drop i ∧ (B.notes.take (i + 1)).length - ((B.notes.take (i + 1)).filter (stays ds)).length = (B.notes.take i).length - ((B.notes.take i).filter (stays ds)).length := fun hs => by
      rw [htake, List.filter_append, hdrop]
      simp [hs]
      omega
    obtain ⟨mb, hrm, hcase⟩ := look_at hB2 B.notes[i].1
    refine ⟨some mb, by rw [addr0]; exact hrm, ?_⟩
    rcases hcase with ⟨g1, g2⟩ | ⟨L, nt, n1, n2, g1, g2, g3, g4, g5, g6, g7⟩
    · rw [hfind] at g1; exact absurd g1 (by simp)
    rw [hfind] at g2
    have g2' := Option.some.inj g2
    subst g2'
    refine ⟨_, ⟨true, g4⟩, ?_⟩
    refine span_ok (by rw [addr0]; exact rds1 g3.cells rfl rfl) g3.elems.sl hd2.sl ⟨_, _, rfl, ?_⟩
    refine br_eq (fun h0 => ?_) fun h0 => ?_
    · refine ⟨some mb, by rw [addr0]; exact hrm, _, ⟨true, g4⟩, B.notes[i].2.shut, by rw [addr0]; exact rds1 g3.cells rfl rfl, br_of (fun hs => ?_) fun hs => ?_⟩
      · -- it goes
        have hstay : stays ds B.notes[i] = false := by simp [stays, h0, hs]
        obtain ⟨mb', hrm', hdel⟩ := del_at hB2 hfind
        refine ⟨some mb', by rw [addr0]; exact hrm', hdel fun h3 F3 hB3 st3 => ?_⟩
        have hnew : ((B.notes.take i).filter (stays ds) ++ B.notes.drop i).filter (fun q => !(q.1 == B.notes[i].1)) = (B.notes.take (i + 1)).filter (stays ds) ++ B.notes.drop (i + 1) := by
          have hu := hB2.uniq
          rw [hdrop] at hu ⊢
          have := filter_id (n1 := (B.notes.take i).filter (stays ds)) (id := B.notes[i].1) (nt := B.notes[i].2) (n2 := B.notes.drop (i + 1)) hu
          rw [show (B.notes[i].1, B.notes[i].2) = B.notes[i] from rfl] at this
          rw [this, htake, List.filter_append]
          simp [hstay]
        have hcnt : (B.notes.take (i + 1)).length - ((B.notes.take (i + 1)).filter (stays ds)).length = (B.notes.take i).length - ((B.notes.take i).filter (stays ds)).length + 1 := by
          rw [htake, List.filter_append]
          simp [hstay]
          omega
        dsimp only at hB3
        rw [hnew] at hB3
        rw [step64 (by omega), ← hcnt]
        exact ⟨⟨i + 1, F3, rfl, hk1, hB3, st2.trans st3, hd2.step (by decide) st3, hi2.step (by decide) st3⟩, fin⟩
      · obtain ⟨e1, e2⟩ := stay (by simp [stays, hs])
        rw [← e2]
        exact ⟨⟨i + 1, F2, rfl, hk1, by rw [e1]; exact hB2, st2, hd2, hi2⟩, fin⟩
    · obtain ⟨e1, e2⟩ := stay (by simp [stays, h0])
      rw [← e2]
      exact ⟨⟨i + 1, F2, rfl, hk1, by rw [e1]; exact hB2, st2, hd2, hi2⟩, fin⟩
  · have : i = B.notes.length := by omega
    subst this
    rw [List.take_length, List.drop_length, List.append_nil] at hB2
    rw [List.take_length]
    exact hk h2 F2 hB2 st2
end Go.Proofs.Ytjieepgapjbjlaa.G
