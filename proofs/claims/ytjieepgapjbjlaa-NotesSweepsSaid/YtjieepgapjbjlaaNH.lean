/- ids: the numbers of a board, rising. -/
import Derived.Test.YtjieepgapjbjlaaNG
namespace Go.Proofs.Ytjieepgapjbjlaa.G
open Go.Gv
set_option linter.unusedVariables false
set_option linter.unusedSimpArgs false
set_option maxRecDepth 100000

def idOf (e : MapEntry) : Int := match e.key with
  | .int _ n => n
  | _ => 0

theorem Ents.ids {h : GH} {es : List MapEntry} {ns : List (Int × Note)} {ls : List Lay} (he : Ents h es ns ls) : es.map idOf = ns.map (·.1) := by
  induction he with
  | nil => rfl
  | cons hk hv hn hr ih => simp only [List.map_cons, ih, idOf, hk]

theorem Ents.mem {h : GH} {es : List MapEntry} {ns : List (Int × Note)} {ls : List Lay} (he : Ents h es ns ls) {e : MapEntry} (hm : e ∈ es) : e.key = .int .i64 (idOf e) ∧ ∃ a, e.val = .pointer a := by
  induction he with
  | nil => simp at hm
  | cons hk hv hn hr ih =>
    rcases List.mem_cons.1 hm with rfl | hm
    · exact ⟨by simp only [idOf, hk], _, hv⟩
    · exact ih hm

theorem inj_map {α β : Type} {f : α → β} {l : List α} (h : (l.map f).Nodup) {x y : α} (hx : x ∈ l) (hy : y ∈ l) (e : f x = f y) : x = y := by
  induction l with
  | nil => simp at hx
  | cons z l ih =>
    rw [List.map_cons, List.nodup_cons] at h
    rcases List.mem_cons.1 hx with h1 | h1 <;> rcases List.mem_cons.1 hy with h2 | h2
    · rw [h1, h2]
    · exact absurd (List.mem_map.2 ⟨y, h2, by rw [← e, h1]⟩) h.1
    · exact absurd (List.mem_map.2 ⟨x, h1, by rw [e, h2]⟩) h.1
    · exact ih h.2 h1 h2

theorem nodup_len {l1 : List Int} : ∀ {l2 : List Int}, l1.Nodup → (∀ x ∈ l1, x ∈ l2) → l1.length ≤ l2.length := by
  induction l1 with
  | nil => intro l2 _ _; simp
  | cons x l1 ih =>
    intro l2 hn hs
    rw [List.nodup_cons] at hn
    have h1 : x ∈ l2 := hs x (by simp)
    have h2 := ih (l2 := l2.erase x) hn.2 fun y hy => (List.mem_erase_of_ne (fun e => hn.1 (by rw [← e]; exact hy))).2 (hs y (by simp [hy]))
    rw [List.length_erase_of_mem h1] at h2
    have h3 : 0 < l2.length := List.length_pos_of_mem h1
    rw [List.length_cons]
    omega

theorem inc_ext {l1 : List Int} : ∀ {l2 : List Int}, l1.Pairwise (· < ·) → l2.Pairwise (· < ·) → (∀ x, x ∈ l1 ↔ x ∈ l2) → l1 = l2 := by
  induction l1 with
  | nil =>
    intro l2 _ _ h
    cases l2 with
    | nil => rfl
    | cons y l2 => exact absurd ((h y).2 (by simp)) (by simp)
  | cons x l1 ih =>
    intro l2 h1 h2 h
    cases l2 with
    | nil => exact absurd ((h x).1 (by simp)) (by simp)
    | cons y l2 =>
      rw [List.pairwise_cons] at h1 h2
      have hxy : x = y := by
        rcases List.mem_cons.1 ((h x).1 (by simp)) with e | hx
        · exact e
        · rcases List.mem_cons.1 ((h y).2 (by simp)) with e | hy
          · exact e.symm
          · have := h1.1 y hy
            have := h2.1 x hx
            omega
      subst hxy
      congr 1
      refine ih h1.2 h2.2 fun z => ⟨fun hz => ?_, fun hz => ?_⟩
      · rcases List.mem_cons.1 ((h z).1 (by simp [hz])) with e | hz'
        · have := h1.1 z hz; omega
        · exact hz'
      · rcases List.mem_cons.1 ((h z).2 (by simp [hz])) with e | hz'
        · have := h2.1 z hz; omega
        · exact hz'

theorem sortI_inc {l : List Int} (hl : l.Nodup) : (sortI l).Pairwise (· < ·) := by
  have hp : (sortI l).Perm l := List.mergeSort_perm l _
  have h1 : (sortI l).Pairwise (fun a b => decide (a ≤ b) = true) := List.pairwise_mergeSort (fun a b c h1 h2 => by simp only [decide_eq_true_eq] at *; omega) (fun a b => by simp only [Bool.or_eq_true, decide_eq_true_eq]; omega) l
  have h2 : (sortI l).Pairwise (· ≠ ·) := hp.nodup_iff.2 hl
  refine (h1.and h2).imp fun h => ?_
  have := h.1
  have := h.2
  simp only [decide_eq_true_eq] at *
  omega

theorem find_one {l : List MapEntry} {e : MapEntry} (hn : (l.map (·.born)).Nodup) (he : e ∈ l) : l.find? (fun x => x.born == e.born) = some e := by
  induction l with
  | nil => simp at he
  | cons z l ih =>
    rw [List.find?_cons]
    rcases List.mem_cons.1 he with rfl | hm
    · simp
    · have hne : ¬ z.born = e.born := fun h => by
        rw [List.map_cons, List.nodup_cons] at hn
        exact hn.1 (List.mem_map.2 ⟨e, hm, h.symm⟩)
      have : (z.born == e.born) = false := by simpa using hne
      rw [this]
      rw [List.map_cons, List.nodup_cons] at hn
      exact ih hn.2 hm

theorem ids_ok {K : Value → GH → Prop} {h : GH} {bb : Nat} {B : Brd} {F : List Nat} (hB : BrdAt h bb B F) (hsmall : B.notes.length ≤ 100000)
    (hk : ∀ a c h', OwnF kInt h h' a B.notes.length c (B.notes.map (·.1)) → K (.slice a B.notes.length c) h') : GC pr n_notes_Board_ids [.pointer (some ⟨bb, 0, none⟩)] h K := by
  refine ok_notes_Board_ids ?_
  unfold s_notes_Board_ids
  obtain ⟨⟨mb, es, clock, ls, hF, hnd, hbb, hmb, hents, hborn, hbn⟩, hlow, hids, huniq, hinc⟩ := hB
  refine ⟨some mb, by rw [addr0]; exact rds1 hbb rfl rfl, es, clock, hmb, fun it hit => ?_⟩
  have hidn : (es.toList.map idOf).Nodup := by rw [hents.ids]; exact huniq
  have hlen : es.toList.length = B.notes.length := by
    have := congrArg List.length hents.ids
    simpa using this
  refine LoopP.intro (fun t h' => ∃ (a : Option Addr) (n c : Nat) (picked : List MapEntry) (seen : Array Nat), t = ((a, n, c), some ⟨it, 0, none⟩, ()) ∧ h' it = some (.raw (.mapIter (some mb) clock seen clock)) ∧
      OwnF kInt h h' a n c (picked.map idOf) ∧ seen.toList = picked.map (·.born) ∧ (∀ e ∈ picked, e ∈ es.toList) ∧ (picked.map idOf).Nodup ∧ (∀ p, a = some p → p.block ≠ it))
    (fun _ h' => match h' it with
      | some (.raw (.mapIter _ _ seen _)) => (es.toList.filter fun e => !seen.contains e.born).length
      | _ => 0) ⟨none, 0, 0, [], #[], rfl, GH.set_same _ _ _, OwnF.nil' (GH.le_set hit), rfl, by simp, by simp, by simp⟩ ?_
  rintro t h1 ⟨a, n, c, picked, seen, rfl, hit1, ho, hseen, hsub, hpn, hne⟩
  unfold s_notes_Board_ids_l1
  dsimp only
  have hmb1 := ho.le _ _ hmb
  have hpl : picked.length = n := by have := ho.own.n_eq; simpa using this.symm
  have hall : ∀ e ∈ es.toList, e.born ∈ picked.map (·.born) → e ∈ picked := fun e he hm => by
    obtain ⟨e', he', hb⟩ := List.mem_map.1 hm
    rw [← inj_map hbn (hsub e' he') he hb]
    exact he'
  refine ⟨rfl, some mb, clock, seen, clock, hit1, es, clock, hmb1, rfl, rfl, hborn, fun hend => ?_, fun e he => ?_⟩
  · -- all are there
    have hmem : ∀ x, x ∈ picked.map idOf ↔ x ∈ B.notes.map (·.1) := fun x => by
      rw [← hents.ids]
      constructor
      · intro hx
        obtain ⟨e, he, rfl⟩ := List.mem_map.1 hx
        exact List.mem_map.2 ⟨e, hsub e he, rfl⟩
      · intro hx
        obtain ⟨e, he, rfl⟩ := List.mem_map.1 hx
        refine List.mem_map.2 ⟨e, hall e he ?_, rfl⟩
        have h2 : e ∉ (es.filter fun e => !seen.contains e.born).toList := by rw [hend]; simp
        rw [Array.toList_filter, List.mem_filter] at h2
        have h3 : seen.contains e.born = true := by
          cases hc : seen.contains e.born with
          | true => rfl
          | false => exact absurd ⟨he, by rw [hc]; rfl⟩ h2
        rw [← hseen]
        simpa using h3
    have hsorted : sortI (picked.map idOf) = B.notes.map (·.1) := inc_ext (sortI_inc hpn) hinc fun x => (List.mergeSort_perm (picked.map idOf) _).mem_iff.trans (hmem x)
    have hn : n = B.notes.length := by
      have := congrArg List.length hsorted
      simp only [sortI, List.length_mergeSort, List.length_map] at this
      omega
    refine sort_ok ho.own (by omega) fun h2 ho2 hag => ⟨rfl, ?_⟩
    rw [hsorted] at ho2
    subst hn
    refine hk a c h2 ⟨ho2, ho.new, fun b o hb => hag b o (ho.le b o hb) fun hb' => ?_⟩
    obtain ⟨p, hp, rfl⟩ := mem_ob.1 hb'
    rw [ho.new p hp] at hb
    exact absurd hb (by simp)
  · rw [Array.toList_filter, List.mem_filter] at he
    obtain ⟨hem, hes⟩ := he
    obtain ⟨hkey, pv, hval⟩ := hents.mem hem
    have hns : e.born ∉ picked.map (·.born) := fun hm => by
      rw [← hseen] at hm
      have : seen.contains e.born = true := by simpa using hm
      rw [this] at hes
      exact absurd hes (by simp)
    refine ⟨rfl, mb, clock, seen.push e.born, clock, es, clock, e.born, e, GH.set_same _ _ _, ?_, rfl, by simp, ?_, idOf e, pv, hkey.symm, hval.symm, ?_⟩
    · rw [GH.set_ne]
      · exact hmb1
      · rintro rfl; rw [hmb] at hit; exact absurd hit (by simp)
    · rw [← Array.find?_toList]
      exact find_one hbn hem
    have hag : Agree [it] h1 (h1.set it (.raw (.mapIter (some mb) clock (seen.push e.born) clock))) := Agree.set (by simp)
    have ho' : OwnF kInt h (h1.set it (.raw (.mapIter (some mb) clock (seen.push e.born) clock))) a n c (picked.map idOf) :=
      ⟨Go.Gv.Own.agree hag ho.own fun b hb => by
        obtain ⟨p, hp, rfl⟩ := mem_ob.1 hb
        simpa using hne p hp, ho.new, fun b o hb => hag b o (ho.le b o hb) (by simp; rintro rfl; rw [hit] at hb; exact absurd hb (by simp))⟩
    have hpk : picked.length < es.toList.length + 1 := by
      have h2 : (picked.map idOf).length ≤ (es.toList.map idOf).length := by
        refine nodup_len hpn fun x hx => ?_
        obtain ⟨e', he', rfl⟩ := List.mem_map.1 hx
        exact List.mem_map.2 ⟨e', hsub e' he', rfl⟩
      simpa using Nat.lt_succ_of_le h2
    refine ho'.app (bytes := 8) (ys := [idOf e]) rfl rfl (by omega) (by omega) fun a2 c2 h2 ho2 hg => ?_
    refine ⟨⟨a2, n + 1, c2, picked ++ [e], seen.push e.born, rfl, hg.keep it _ (GH.set_same _ _ _) hne, by simpa using ho2, by simp [hseen], ?_, ?_, ?_⟩, ?_⟩
    · intro x hx
      rcases List.mem_append.1 hx with hx | hx
      · exact hsub x hx
      · simp only [List.mem_cons, List.not_mem_nil, or_false] at hx; subst hx; exact hem
    · rw [List.map_append, List.nodup_append]
      refine ⟨hpn, by simp, fun x hx y hy hxy => ?_⟩
      simp only [List.map_cons, List.map_nil, List.mem_cons, List.not_mem_nil, or_false] at hy
      obtain ⟨e', he', rfl⟩ := List.mem_map.1 hx
      have := inj_map hidn (hsub e' he') hem (hxy.trans hy)
      subst this
      exact hns (List.mem_map.2 ⟨e', he', rfl⟩)
    · intro p hp e2
      rcases hg.new p hp with ⟨q, hq, hqe⟩ | hn
      · exact hne q hq (hqe.trans e2)
      · rw [e2, GH.set_same] at hn; exact absurd hn (by simp)
    · rw [hg.keep it _ (GH.set_same _ _ _) hne, hit1]
      dsimp only
      have : (es.toList.filter fun x => !(seen.push e.born).contains x.born) = (es.toList.filter fun x => !seen.contains x.born).filter fun x => !(x.born == e.born) := by
        rw [List.filter_filter]
        refine List.filter_congr fun x _ => ?_
        rw [Bool.eq_iff_iff]
        simp only [Array.contains_push, Bool.not_eq_true', Bool.and_eq_true, Bool.or_eq_false_iff]
        exact and_comm
      rw [this]
      exact List.length_filter_lt_length_iff_exists.2 ⟨e, List.mem_filter.2 ⟨hem, hes⟩, by simp⟩
end Go.Proofs.Ytjieepgapjbjlaa.G
