/- NotesFollow: the law's own contract. -/
import Derived.Test.YtjieepgapjbjlaaNF
import Derived.Test.YtjieepgapjbjlaaVF
namespace Go.Proofs.Ytjieepgapjbjlaa.G
open Go.Gv
set_option linter.unusedVariables false
set_option linter.unusedSimpArgs false
set_option maxRecDepth 100000

theorem textE_inj {i j : Nat} (h : textE i = textE j) : i = j := by
  simp only [textE, Elem.mk.injEq] at h
  omega

theorem mem_text {N f t : Nat} (ht : t ≤ N) {e : Elem} : e ∈ ((textL N).take t).drop f ↔ ∃ q, f ≤ q ∧ q < t ∧ e = textE q := by
  rw [List.mem_iff_getElem]
  simp only [List.length_drop, List.length_take, textL_length, List.getElem_drop, List.getElem_take, textL, List.getElem_map, List.getElem_range]
  constructor
  · rintro ⟨i, hi, rfl⟩
    simp only [List.length_map, List.length_range] at hi
    exact ⟨f + i, by omega, by omega, rfl⟩
  · rintro ⟨q, h1, h2, rfl⟩
    exact ⟨q - f, by simp; omega, by rw [show f + (q - f) = q by omega]⟩

theorem holds_text {N f t : Nat} (ht : t ≤ N) (j : Nat) : holdsB (((textL N).take t).drop f) (textE j) = decide (f ≤ j ∧ j < t) := by
  rw [Bool.eq_iff_iff, holdsB_iff, mem_text ht, decide_eq_true_eq]
  constructor
  · rintro ⟨q, h1, h2, h3⟩
    rw [textE_inj h3]; exact ⟨h1, h2⟩
  · rintro ⟨h1, h2⟩
    exact ⟨j, h1, h2, rfl⟩

theorem holds_ins {N f t : Nat} (ht : t ≤ N) (hN : N ≤ 2048) (k : Nat) : holdsB (((textL N).take t).drop f) (insE k) = false := by
  rw [Bool.eq_false_iff]
  intro h
  rw [holdsB_iff, mem_text ht] at h
  obtain ⟨q, h1, h2, h3⟩ := h
  simp only [textE, insE, Elem.mk.injEq] at h3
  omega

theorem sl_far {α : Type} {d : Kind α} (hk : 0 < d.k) {F : List Nat} {h h' : GH} {a : Option Addr} {n c : Nat} {xs : List α} (hs : Sl d h a n c xs) (hl : h.le h') (hF : ∀ b ∈ F, h b = none) : SlF d F h' a n c xs :=
  ⟨hs.le hl, fun p hp hne hb => by
    obtain ⟨o, ho⟩ := sl_alloc hk hs hp hne
    rw [hF _ hb] at ho
    exact absurd ho (by simp)⟩

def marksV (N f i : Nat) : List Value := (List.range N).map fun j => .bool (decide (f ≤ j ∧ j < i))

theorem marks_start (N f : Nat) : (List.replicate N [Value.bool false]).flatten = marksV N f f := by
  refine List.ext_getElem ?_ fun i h1 h2 => ?_
  · simp [marksV]
  · have : (List.replicate N [Value.bool false]).flatten = List.replicate N (.bool false) := by
      clear h1 h2
      induction N with
      | zero => rfl
      | succ N ih => rw [List.replicate_succ, List.flatten_cons, ih, List.replicate_succ]; rfl
    simp only [this, List.getElem_replicate, marksV, List.getElem_map, List.getElem_range]
    congr 1
    symm
    rw [decide_eq_false_iff_not]
    omega

theorem marks_step {N f i : Nat} (hf : f ≤ i) (hi : i < N) : (marksV N f i).set i (.bool true) = marksV N f (i + 1) := by
  refine List.ext_getElem (by simp [marksV]) fun j h1 h2 => ?_
  simp only [List.getElem_set, marksV, List.getElem_map, List.getElem_range]
  split
  · rename_i e
    subst e
    congr 1
    symm
    rw [decide_eq_true_eq]
    omega
  · congr 1
    rw [decide_eq_decide]
    omega

theorem marks_cs {N f t : Nat} (ht : t ≤ N) : kBool.cs ((textL N).map (holdsB (((textL N).take t).drop f))) = marksV N f t := by
  have : ∀ l : List Bool, kBool.cs l = l.map Value.bool := fun l => by
    induction l with
    | nil => rfl
    | cons x l ih => rw [Kind.cs_cons, ih]; rfl
  rw [this, List.map_map, marksV]
  conv => lhs; arg 2; rw [textL]
  rw [List.map_map]
  refine List.map_congr_left fun j hj => ?_
  simp only [Function.comp]
  rw [holds_text ht]

theorem marks_sl {h : GH} {b N f t : Nat} (ht : t ≤ N) (hN : N ≤ 2048) (hb : h b = some (.cells 0 (marksV N f t) (some (N * 1)))) : Sl kBool h (some ⟨b, 0, none⟩) N N ((textL N).map (holdsB (((textL N).take t).drop f))) :=
  ⟨by simp [textL_length], by omega, by omega, fun p hp => by simp only [Option.some.injEq] at hp; subst hp; rfl, fun e => by simp at e, fun p hp => by
    simp only [Option.some.injEq] at hp
    subst hp
    rw [marks_cs ht]
    refine rds_block hb (Nat.le_refl _) ?_ fun i v hv => by simpa using hv
    rw [← marks_cs ht]
    exact kBool.cs_all _⟩

theorem follows_ok {K : Value → GH → Prop} {h : GH} {turns : List Turn} {ta : Option Addr} {tn tc : Nat} {n f0 t0 : Int} (hs : SlA kTurn [] h ta tn tc turns) (hk : ∀ h', K (.bool true) h') :
    GC pr n_jotterlaw23_NotesFollow [.int .i64 n, .int .i64 f0, .int .i64 t0, .slice ta tn tc] h K := by
  refine ok_jotterlaw23_NotesFollow ?_
  unfold s_jotterlaw23_NotesFollow
  have htn := hs.n_eq
  refine within_ok (by omega) (by omega) (by omega) fun N' hN0 hN1 => ⟨_, rfl, ?_⟩
  obtain ⟨N, rfl⟩ := Int.eq_ofNat_of_zero_le (show 0 ≤ N' by omega)
  rw [w64_i (n := (N : Int) - 1) (by omega) (by omega)]
  refine within_ok (by omega) (by omega) (by omega) fun f' hf0 hf1 => ⟨_, rfl, ?_⟩
  obtain ⟨f, rfl⟩ := Int.eq_ofNat_of_zero_le hf0
  rw [step64 (i := f) (by omega)]
  refine within_ok (by omega) (by omega) (by omega) fun t' ht0 ht1 => ⟨_, rfl, ?_⟩
  obtain ⟨t, rfl⟩ := Int.eq_ofNat_of_zero_le (show 0 ≤ t' by omega)
  refine text_ok (by omega) fun da dc h1 ho1 => ⟨_, _, _, rfl, ?_⟩
  refine new_ok fun bb F h2 hB2 hl2 hF2 => ⟨_, rfl, br_no rfl ?_⟩
  have hd2 : SlF kElem F h2 da N dc (textL N) := sl_far (by decide) ho1.sl hl2 hF2
  have hs2 : SlA kTurn F h2 ta tn tc turns := (hs.le ho1.le).far (by decide) hl2 hF2
  have hwd : wordedE 7 (ByteArray.mk #[104, 101, 114, 101]) = 0 := by decide
  refine Put_ok hB2 hd2 (by rw [textL_length]; omega) (fun h => by rw [textL_length] at h; omega) (fun _ _ _ h => absurd hwd h) (fun _ _ _ _ h => absurd h (by simp)) fun _ _ _ _ _ h3 F3 hB3 st3 => ?_
  have hd3 := hd2.step (by decide) st3
  have hs3 := hs2.step (by decide) st3
  rw [Int.toNat_natCast, Int.toNat_natCast] at hB3
  refine ⟨_, _, rfl, br_no rfl (br_no rfl ⟨by omega, by omega, by omega, fun b hb => ?_⟩)⟩
  rw [Int.toNat_natCast, marks_start N f]
  generalize hes : ((textL N).take t).drop f = es at hB3
  have hins : ∀ k, holdsB es (insE k) = false := fun k => by rw [← hes]; exact holds_ins (by omega) (by omega) k
  refine LoopP.intro (fun s h' => ∃ i : Nat, s = ((t : Int), (ta, tn, tc), (da, N, dc), some ⟨bb, 0, none⟩, (some ⟨b, 0, none⟩, N, N), (i : Int), ()) ∧ f ≤ i ∧ i ≤ t ∧ h' b = some (.cells 0 (marksV N f i) (some (N * 1))) ∧ Agree [b] h3 h')
    (fun s _ => t - s.2.2.2.2.2.1.toNat) ⟨f, rfl, by omega, by omega, GH.set_same _ _ _, Agree.set (by simp)⟩ ?_
  rintro s h4 ⟨i, rfl, hi0, hi1, hb4, hag⟩
  unfold s_jotterlaw23_NotesFollow_l1
  dsimp only
  refine br_dec (fun hlt => ?_) fun hge => ?_
  · refine ⟨by omega, by omega, ?_⟩
    refine nn_some ?_
    rw [addr0, Int.toNat_natCast, Nat.zero_add, Nat.mul_one]
    refine wr1 hb4 (by simp [marksV]; omega) ?_
    rw [marks_step hi0 (by omega), step64 (by omega)]
    exact ⟨⟨i + 1, rfl, by omega, by omega, GH.set_same _ _ _, hag.trans (Agree.set (by simp))⟩, by omega⟩
  · have hit : i = t := by omega
    subst hit
    have hbF : ∀ c ∈ F3, c ∉ [b] := fun c hc hcb => by
      simp only [List.mem_cons, List.not_mem_nil, or_false] at hcb
      subst hcb
      obtain ⟨o, ho⟩ := hB3.block hc
      rw [hb] at ho; exact absurd ho (by simp)
    have fresh : ∀ {c : Nat}, (∃ o, h3 c = some o) → c ∉ [b] := fun {c} hc hcb => by
      simp only [List.mem_cons, List.not_mem_nil, or_false] at hcb
      subst hcb
      obtain ⟨o, ho⟩ := hc
      rw [hb] at ho; exact absurd ho (by simp)
    have hB4 := hB3.agree hag hbF
    have hd4 : SlF kElem F3 h4 da N dc (textL N) := hd3.other hag fun p hp hne => fresh (sl_alloc (by decide) hd3.sl hp hne)
    have hs4 : SlA kTurn F3 h4 ta tn tc turns := hs3.other hag fun p hp hne => fresh (hs3.alloc (by decide) hp hne)
    have hm4 := marks_sl (f := f) (t := i) (by omega) (by omega) hb4
    rw [hes] at hm4
    refine LoopP.intro (fun s h' => ∃ (k : Nat) (da : Option Addr) (dn dc : Nat) (ds : List Elem) (ma : Option Addr) (mn mc : Nat), s = ((ta, tn, tc), (da, dn, dc), some ⟨bb, 0, none⟩, (ma, mn, mc), (k : Int), ()) ∧ k ≤ 2048 ∧ ds.length ≤ 2048 + k ∧
        BrdAt h' bb (putNote ⟨0, []⟩ es 7 (ByteArray.mk #[104, 101, 114, 101])) F3 ∧ Sl kElem h' da dn dc ds ∧ Sl kBool h' ma mn mc (ds.map (holdsB es)) ∧ SlA kTurn F3 h' ta tn tc turns)
      (fun s _ => 2048 - s.2.2.2.2.1.toNat) ⟨0, da, N, dc, textL N, _, N, N, rfl, by omega, by rw [textL_length]; omega, hB4, hd4.sl, hm4, hs4⟩ ?_
    rintro s h5 ⟨k, da, dn, dc, ds, ma, mn, mc, rfl, hk0, hdl, hB5, hd5, hm5, hs5⟩
    unfold s_jotterlaw23_NotesFollow_l2 s_jotterlaw23_NotesFollow_k1
    dsimp only
    refine br_dec (fun hlt => br_dec (fun hlt2 => ?_) fun _ => hk _) fun _ => hk _
    have hk1 : k < turns.length := by omega
    have hmn := hm5.n_eq
    rw [List.length_map] at hmn
    refine hs5.idx hk1 fun p hp => ⟨_, _, hp, ?_⟩
    refine turned_ok hd5 (by omega) (by omega) fun pos o da' dn' dc' h6 hp0 hp1 _ ho6 => ⟨_, _, _, _, _, _, rfl, br_no rfl (br_dec (fun h => by omega) fun _ => ?_)⟩
    have key : spanOf es (turnL ds pos o (insE k)) = spanG (turnL (ds.map (holdsB es)) pos o false) 0 (0, 0) := by
      rw [spanOf, spanL_eq, turnL_map, hins]
    have hmk : (turnL ds pos o (insE k)).map (holdsB es) = turnL (ds.map (holdsB es)) pos o false := by rw [turnL_map, hins]
    have hle := turnL_length (ds := ds) (pos := pos) (out := o) (x := insE k) hp0
    refine br_of (fun ho => br_dec (fun h => by have := hp1 ho; omega) fun _ => ?_) fun ho => ?_
    all_goals
      refine follow_ok (hm5.le ho6.le) (by rw [List.length_map]; exact hp0) (fun h => by rw [List.length_map]; exact hp1 h) (by rw [List.length_map]; omega) fun ma' mn' mc' h7 ho7 => ⟨_, _, _, rfl, ?_⟩
      refine Look_ok ((hB5.le ho6.le).le ho7.le) (ho6.sl.le ho7.le) (by omega) (fun h => absurd h (by simp [putNote, findN])) fun nt hnt => ?_
      have hnt' : nt = ⟨es, 7, ByteArray.mk #[104, 101, 114, 101], false, []⟩ := by
        have : findN 1 (putNote ⟨0, []⟩ es 7 (ByteArray.mk #[104, 101, 114, 101])).notes = some ⟨es, 7, ByteArray.mk #[104, 101, 114, 101], false, []⟩ := by simp [putNote, findN]
        rw [this] at hnt
        exact (Option.some.inj hnt).symm
      subst hnt'
      refine ⟨by simp, fun a c h8 ho8 => ⟨_, _, _, _, _, _, _, _, _, _, _, rfl, ?_⟩⟩
      have hm8 := ho7.sl.le ho8.le
      have hml := hm8.n_eq
      refine where_ok hm8 (by rw [← hmk, List.length_map]; omega) ⟨_, _, _, rfl, ?_⟩
      dsimp only
      rw [key]
      refine br_no rfl (br_no (by simp) (br_no (by simp) (br_no (by simp) (br_no (by simp) (br_no rfl (br_no rfl ?_))))))
      rw [step64 (by omega)]
      refine ⟨⟨k + 1, da', dn', dc', _, ma', mn', mc', rfl, by omega, by omega, ((hB5.le ho6.le).le ho7.le).le ho8.le, (ho6.sl.le ho7.le).le ho8.le, by rw [hmk]; exact hm8, ((hs5.le ho6.le).le ho7.le).le ho8.le⟩, by omega⟩
end Go.Proofs.Ytjieepgapjbjlaa.G
