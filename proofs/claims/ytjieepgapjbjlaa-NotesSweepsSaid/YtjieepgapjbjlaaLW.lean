/- NotesSweeps: the law's own contract. -/
import Derived.Test.YtjieepgapjbjlaaNK
import Derived.Test.YtjieepgapjbjlaaLU
import Derived.Test.YtjieepgapjbjlaaVW
namespace Go.Proofs.Ytjieepgapjbjlaa.G
open Go.Gv
set_option linter.unusedVariables false
set_option linter.unusedSimpArgs false
set_option maxRecDepth 100000

theorem filter_twice {ds : List Elem} (ns : List (Int × Note)) : (ns.filter (stays ds)).filter (stays ds) = ns.filter (stays ds) := by
  rw [List.filter_filter]
  refine List.filter_congr fun q _ => ?_
  simp

theorem setN_length {id : Int} {f : Note → Note} (ns : List (Int × Note)) : (setN id f ns).length = ns.length := by
  induction ns with
  | nil => rfl
  | cons q ns ih =>
    rw [setN]
    split
    · rfl
    · simp [ih]

theorem setN_all {id : Int} {f : Note → Note} {p : Note → Prop} (hf : ∀ n, p n → p (f n)) (ns : List (Int × Note)) (h : ∀ q ∈ ns, p q.2) : ∀ q ∈ setN id f ns, p q.2 := by
  induction ns with
  | nil => simp [setN]
  | cons q ns ih =>
    rw [setN]
    split
    · intro q' hq'
      rcases List.mem_cons.1 hq' with rfl | hq'
      · exact hf _ (h q (by simp))
      · exact h q' (by simp [hq'])
    · intro q' hq'
      rcases List.mem_cons.1 hq' with rfl | hq'
      · exact h _ (by simp)
      · exact ih (fun q hq => h q (by simp [hq])) q' hq'

/-- The end: before, want, Sweep. -/
theorem sweeps_end {K : Value → GH → Prop} {J1 J2 J3 : _ → GH → Prop} {h : GH} {bb : Nat} {B : Brd} {F : List Nat} (hB : BrdAt h bb B F) {da : Option Addr} {dn dc : Nat} {ds : List Elem} (hd : SlF kElem F h da dn dc ds) (hdl : ds.length ≤ 4096)
    (hsmall : B.notes.length ≤ 256) (hrep : ∀ q ∈ B.notes, q.2.replies = []) (hk : ∀ h', K (.bool true) h') :
    s_jotterlaw23_NotesSweeps_k2 K J1 J2 J3 (some ⟨bb, 0, none⟩) da dn dc ((B.notes.length : Nat) : Int) h := by
  unfold s_jotterlaw23_NotesSweeps_k2
  refine All_ok hB hd.sl (by omega) (by omega) (fun q hq => by rw [hrep q hq]; simp) fun a c h1 ss ho1 hss => ⟨_, _, _, rfl, br_no (by simp) ?_⟩
  have hsl : ss.length = B.notes.length := ho1.own.n_eq.symm
  have hsh1 : Sh2 (F ++ ob a) h1 ds B.notes ss := Sh2.of hsl hss
  have hB1 := hB.le ho1.le
  have hd1 := hd.le ho1.le
  have hbF : SlF kShown F h1 a B.notes.length c ss := ho1.slf fun b hb => hB.block hb
  refine LoopP.intro (fun t h' => ∃ (i : Nat) (wa : Option Addr) (wn wc : Nat), t = (some ⟨bb, 0, none⟩, (da, dn, dc), ((B.notes.length : Nat) : Int), (a, B.notes.length, c), (wa, wn, wc), (i : Int), ()) ∧ i ≤ ss.length ∧ OwnF kShown h1 h' wa wn wc ((ss.take i).filter keepS) ∧
      BrdAt h' bb B F ∧ SlF kElem F h' da dn dc ds ∧ SlF kShown (ob wa) h' a B.notes.length c ss ∧ SlF kElem (ob wa) h' da dn dc ds ∧ Sh2 (ob wa) h' ds B.notes ss ∧ Sh2 F h' ds B.notes ss)
    (fun t _ => ss.length - t.2.2.2.2.2.1.toNat)
    ⟨0, none, 0, 0, rfl, by omega, by simpa using OwnF.nil_ h1, hB1, hd1, ⟨hbF.sl, fun p _ _ => by simp [ob]⟩, ⟨hd1.sl, fun p _ _ => by simp [ob]⟩, hsh1.step ⟨Agree.refl _ _, fun b hb => by simp [ob] at hb⟩, hsh1.step ⟨Agree.refl _ _, fun b hb => .inl (List.mem_append_left _ hb)⟩⟩ ?_
  rintro t h2 ⟨i, wa, wn, wc, rfl, hi, hw, hB2, hd2, hb2, hdw, hshw, hshF⟩
  unfold s_jotterlaw23_NotesSweeps_l4 s_jotterlaw23_NotesSweeps_k3
  dsimp only
  refine br_dec (fun hlt => ?_) fun hge => ?_
  · have his : i < ss.length := by omega
    have htake : (ss.take (i + 1)).filter keepS = (ss.take i).filter keepS ++ (if keepS ss[i] then [ss[i]] else []) := by
      rw [List.take_succ_eq_append_getElem his, List.filter_append]
      congr 1
      rw [List.filter_cons]
      rfl
    rw [step64 (i := i) (by omega)]
    have fin : ss.length - (((i + 1 : Nat) : Int)).toNat < ss.length - ((i : Nat) : Int).toNat := by omega
    have skip : keepS ss[i] = false → (∃ (i' : Nat) (wa' : Option Addr) (wn' wc' : Nat), ((some (⟨bb, 0, none⟩ : Addr), (da, dn, dc), ((B.notes.length : Nat) : Int), (a, B.notes.length, c), (wa, wn, wc), ((i + 1 : Nat) : Int), ()) : Option Addr × (Option Addr × Nat × Nat) × Int × (Option Addr × Nat × Nat) × (Option Addr × Nat × Nat) × Int × Unit) = (some ⟨bb, 0, none⟩, (da, dn, dc), ((B.notes.length : Nat) : Int), (a, B.notes.length, c), (wa', wn', wc'), (i' : Int), ()) ∧ i' ≤ ss.length ∧ OwnF kShown h1 h2 wa' wn' wc' ((ss.take i').filter keepS) ∧
      BrdAt h2 bb B F ∧ SlF kElem F h2 da dn dc ds ∧ SlF kShown (ob wa') h2 a B.notes.length c ss ∧ SlF kElem (ob wa') h2 da dn dc ds ∧ Sh2 (ob wa') h2 ds B.notes ss ∧ Sh2 F h2 ds B.notes ss) := fun hno =>
      ⟨i + 1, wa, wn, wc, rfl, his, by rw [htake, hno]; simpa using hw, hB2, hd2, hb2, hdw, hshw, hshF⟩
    have put : keepS ss[i] = true → AppK h2 wa wn wc 8 80 (kShown.enc ss[i]) 1 fun a' c' h' => (∃ (i' : Nat) (wa' : Option Addr) (wn' wc' : Nat), ((some (⟨bb, 0, none⟩ : Addr), (da, dn, dc), ((B.notes.length : Nat) : Int), (a, B.notes.length, c), (a', wn + 1, c'), ((i + 1 : Nat) : Int), ()) : Option Addr × (Option Addr × Nat × Nat) × Int × (Option Addr × Nat × Nat) × (Option Addr × Nat × Nat) × Int × Unit) = (some ⟨bb, 0, none⟩, (da, dn, dc), ((B.notes.length : Nat) : Int), (a, B.notes.length, c), (wa', wn', wc'), (i' : Int), ()) ∧ i' ≤ ss.length ∧ OwnF kShown h1 h' wa' wn' wc' ((ss.take i').filter keepS) ∧
      BrdAt h' bb B F ∧ SlF kElem F h' da dn dc ds ∧ SlF kShown (ob wa') h' a B.notes.length c ss ∧ SlF kElem (ob wa') h' da dn dc ds ∧ Sh2 (ob wa') h' ds B.notes ss ∧ Sh2 F h' ds B.notes ss) ∧ ss.length - (((i + 1 : Nat) : Int)).toNat < ss.length - ((i : Nat) : Int).toNat := fun hyes => by
      have hwl := hw.own.n_eq
      have hfl := List.length_filter_le keepS (ss.take i)
      have htl : (ss.take i).length ≤ i := by rw [List.length_take]; omega
      refine hw.app (bytes := 80) (ys := [ss[i]]) (by rw [Kind.cs_one]) rfl (by omega) (by omega) fun a' c' h' ho hg => ⟨?_, fin⟩
      have st := hg.step
      have hFw : ∀ b ∈ F, b ∉ ob wa := fun b hb hb' => by
        obtain ⟨p, hp, rfl⟩ := mem_ob.1 hb'
        obtain ⟨o, ho'⟩ := hB1.block hb
        rw [hw.new p hp] at ho'
        exact absurd ho' (by simp)
      refine ⟨i + 1, a', wn + 1, c', rfl, his, by rw [htake, hyes]; simpa using ho, hB2.agree st.agree hFw, hd2.other st.agree hdw.far, hb2.step (by decide) st, hdw.step (by decide) st, hshw.step st, ?_⟩
      clear hk
      have both : ∀ {qs : List (Int × Note)} {xs : List Shown}, Sh2 (ob wa) h2 ds qs xs → Sh2 F h2 ds qs xs → Sh2 F h' ds qs xs := by
        intro qs xs h1
        induction h1 with
        | nil => intro _; exact .nil
        | cons hs hr ih =>
          intro h2
          cases h2 with
          | cons hs2 hr2 => exact .cons ⟨hs2.id, hs2.client, hs2.words, hs2.lo, hs2.hi, hs2.gone, hs2.shut, hs2.reps.other st.agree hs.reps.far⟩ (ih hr2)
      exact both hshw hshF
    refine hb2.sl.idx his fun p hp => ⟨ss[i].shut, hp.sub (n := 6) (fun j v hv => by
      match j, hv with
      | 0, hv => simpa [kShown] using hv
      | j + 1, hv => simp at hv), br_of (fun hs => ?_) fun hs => ?_⟩
    · have hs' : ss[i].shut = false := by simpa using hs
      refine hb2.sl.idx his fun p hp => ⟨_, _, _, _, _, _, _, _, _, _, hp, ?_⟩
      exact put (by simp [keepS, hs'])
    · have hs' : ss[i].shut = true := by simpa using hs
      refine hb2.sl.idx his fun p hp => ⟨ss[i].gone, hp.sub (n := 5) (fun j v hv => by
        match j, hv with
        | 0, hv => simpa [kShown] using hv
        | j + 1, hv => simp at hv), br_of (fun hg => ?_) fun hg => ?_⟩
      · have hg' : ss[i].gone = false := by simpa using hg
        refine hb2.sl.idx his fun p hp => ⟨_, _, _, _, _, _, _, _, _, _, hp, ?_⟩
        exact put (by simp [keepS, hg'])
      · have hg' : ss[i].gone = true := by simpa using hg
        exact ⟨skip (by simp [keepS, hs', hg']), fin⟩
  · have : i = ss.length := by omega
    subst this
    rw [List.take_length] at hw
    have hwant : Sh2 F h2 ds (B.notes.filter (stays ds)) (ss.filter keepS) := hshF.filter
    have hwl := hw.own.n_eq
    have hwl2 := hwant.length
    have hfl := List.length_filter_le (stays ds) B.notes
    have hwF : SlF kShown F h2 wa wn wc (ss.filter keepS) := hw.slf fun b hb => hB1.block hb
    refine Sweep_ok hB2 hd2 (by omega) (by omega) fun h3 F3 hB3 st3 => ⟨_, rfl, br_yes ?_ ?_⟩
    · rw [w64_i (by omega) (by omega)]
      simp only [beq_iff_eq]
      omega
    have hwant3 := hwant.step st3
    have hw3 := hwF.step (by decide) st3
    have hd3 := hd2.step (by decide) st3
    refine All_ok hB3 hd3.sl (by omega) (by dsimp only; omega) (fun q hq => by rw [hrep q (List.mem_filter.1 hq).1]; simp) fun a4 c4 h4 ss4 ho4 hss4 => ⟨_, _, _, rfl, ?_⟩
    have hsh4 : Sh2 (F3 ++ ob a4) h4 ds (B.notes.filter (stays ds)) ss4 := Sh2.of ho4.own.n_eq.symm hss4
    refine eqNotes_ok ho4.sl (hw3.le ho4.le).sl hsh4 (hwant3.step (Step.le ho4.le)) ⟨_, rfl, br_yes rfl ?_⟩
    refine Sweep_ok (hB3.le ho4.le) (hd3.le ho4.le) (by omega) (by dsimp only; omega) fun h5 F5 hB5 st5 => ⟨_, rfl, ?_⟩
    dsimp only
    rw [filter_twice, Nat.sub_self]
    exact hk _

theorem sweeps_ok {K : Value → GH → Prop} {h : GH} {ranges shut : List Int} {now : List Turn} {ra : Option Addr} {rn rc : Nat} {sa : Option Addr} {sn sc : Nat} {na : Option Addr} {nn' nc : Nat} (hr : SlA kInt [] h ra rn rc ranges) (hs : SlA kInt [] h sa sn sc shut) (hn : SlA kTurn [] h na nn' nc now)
    (hsb : shut.length < 4611686018427387904) (hk : ∀ h', K (.bool true) h') :
    GC pr n_jotterlaw23_NotesSweeps [.slice ra rn rc, .slice sa sn sc, .slice na nn' nc] h K := by
  refine ok_jotterlaw23_NotesSweeps ?_
  unfold s_jotterlaw23_NotesSweeps
  have hrn := hr.n_eq
  have hsn := hs.n_eq
  have hnn := hn.n_eq
  refine fixed_ok fun bb db F h1 hB1 hD hl1 hF1 hdb => ⟨_, _, _, _, _, rfl, br_no rfl ?_⟩
  have hr1 := hr.far (by decide) hl1 hF1
  have hs1 := hs.far (by decide) hl1 hF1
  have hn1 := hn.far (by decide) hl1 hF1
  refine text_ok (n := 30) (by omega) fun da dc h2 ho2 => ⟨_, _, _, rfl, by omega, by omega, ?_⟩
  have hcut : SlF kElem F h2 (cutA da ((1 : Int).toNat) dc 3) (30 - (1 : Int).toNat) (dc - (1 : Int).toNat) ((textL 30).drop 1) := ⟨ho2.sl.from (l := 1) (by omega), fun p hp _ hb => by
    have hne : textL 30 ≠ [] := by simp [textL]
    obtain ⟨o, ho⟩ := hB1.block hb
    unfold cutA at hp
    split at hp
    · rw [ho2.new p hp] at ho; exact absurd ho (by simp)
    · cases hda : da with
      | none => rw [hda] at hp; simp at hp
      | some q =>
        rw [hda] at hp
        simp only [Option.map_some, Option.some.injEq] at hp
        subst hp
        rw [addr_add (ho2.sl.spot q hda)] at ho
        rw [ho2.new q hda] at ho; exact absurd ho (by simp)⟩
  have hcl : ((textL 30).drop 1).length = 29 := by rw [List.length_drop, textL_length]
  generalize (textL 30).drop 1 = ds at hcut hcl
  generalize cutA da ((1 : Int).toNat) dc 3 = d0 at hcut
  generalize 30 - (1 : Int).toNat = dn at hcut
  generalize dc - (1 : Int).toNat = dc0 at hcut
  refine LoopP.intro (fun t h' => ∃ (i : Nat) (B : Brd) (F : List Nat), t = ((ra, rn, rc), (sa, sn, sc), (na, nn', nc), some ⟨bb, 0, none⟩, (d0, dn, dc0), ((B.notes.length : Nat) : Int), (i : Int), ()) ∧ i ≤ 2 * B.notes.length ∧ 1 ≤ B.notes.length ∧ B.notes.length ≤ 256 ∧ B.given = ((B.notes.length : Nat) : Int) ∧ BrdAt h' bb B F ∧
      (∀ q ∈ B.notes, q.2.replies = []) ∧ SlF kElem F h' d0 dn dc0 ds ∧ SlA kInt F h' ra rn rc ranges ∧ SlA kInt F h' sa sn sc shut ∧ SlA kTurn F h' na nn' nc now)
    (fun t _ => 256 - t.2.2.2.2.2.1.toNat) ⟨0, ⟨1, [(1, fixNote)]⟩, F, rfl, by simp, by simp, by simp, by simp, hB1.le ho2.le, by simp [fixNote], hcut, hr1.le ho2.le, hs1.le ho2.le, hn1.le ho2.le⟩ ?_
  rintro t h3 ⟨i, B, F, rfl, hi, hb1, hb2, hgiv, hB3, hrep, hd3, hr3, hs3, hn3⟩
  unfold s_jotterlaw23_NotesSweeps_l1
  dsimp only
  rw [step64 (i := i) (by omega)]
  -- what follows the puts
  have rest : s_jotterlaw23_NotesSweeps_k1 K (fun t' h'' => (∃ (i : Nat) (B : Brd) (F : List Nat), t' = ((ra, rn, rc), (sa, sn, sc), (na, nn', nc), some ⟨bb, 0, none⟩, (d0, dn, dc0), ((B.notes.length : Nat) : Int), (i : Int), ()) ∧ i ≤ 2 * B.notes.length ∧ 1 ≤ B.notes.length ∧ B.notes.length ≤ 256 ∧ B.given = ((B.notes.length : Nat) : Int) ∧ BrdAt h'' bb B F ∧
      (∀ q ∈ B.notes, q.2.replies = []) ∧ SlF kElem F h'' d0 dn dc0 ds ∧ SlA kInt F h'' ra rn rc ranges ∧ SlA kInt F h'' sa sn sc shut ∧ SlA kTurn F h'' na nn' nc now) ∧ 256 - t'.2.2.2.2.2.1.toNat < 256 - ((B.notes.length : Nat) : Int).toNat) sa sn sc na nn' nc (some ⟨bb, 0, none⟩) d0 dn dc0 ((B.notes.length : Nat) : Int) h3 := by
    unfold s_jotterlaw23_NotesSweeps_k1
    refine LoopP.intro (fun t h' => ∃ (j : Nat) (B' : Brd) (F : List Nat), t = ((sa, sn, sc), (na, nn', nc), some ⟨bb, 0, none⟩, (d0, dn, dc0), ((B.notes.length : Nat) : Int), (j : Int), ()) ∧ j ≤ shut.length ∧ B'.notes.length = B.notes.length ∧ BrdAt h' bb B' F ∧
        (∀ q ∈ B'.notes, q.2.replies = []) ∧ SlF kElem F h' d0 dn dc0 ds ∧ SlA kInt F h' sa sn sc shut ∧ SlA kTurn F h' na nn' nc now)
      (fun t _ => shut.length - t.2.2.2.2.2.1.toNat) ⟨0, B, F, rfl, by omega, rfl, hB3, hrep, hd3, hs3, hn3⟩ ?_
    rintro t h4 ⟨j, B', F', rfl, hj, hbl, hB4, hrep4, hd4, hs4, hn4⟩
    unfold s_jotterlaw23_NotesSweeps_l2
    dsimp only
    refine br_dec (fun hlt => ?_) fun hge => ?_
    · have hjs : j < shut.length := by omega
      refine hs4.idx hjs fun p hp => ⟨_, hp, ?_⟩
      refine within_ok (by omega) (by omega) (by omega) fun r hr0 hr1 => ⟨_, rfl, ?_⟩
      rw [step64 (i := j) (by omega)]
      refine shut_ok hB4 (fun _ => ⟨_, rfl, ?_⟩) (fun nt _ _ => ⟨_, rfl, ?_⟩) fun nt h5 F5 _ _ hB5 st5 => ⟨_, rfl, ?_⟩
      · exact ⟨⟨j + 1, B', F', rfl, hjs, hbl, hB4, hrep4, hd4, hs4, hn4⟩, by omega⟩
      · exact ⟨⟨j + 1, B', F', rfl, hjs, hbl, hB4, hrep4, hd4, hs4, hn4⟩, by omega⟩
      · exact ⟨⟨j + 1, _, F5, rfl, hjs, by dsimp only; rw [setN_length]; exact hbl, hB5, setN_all (f := fun nt => { nt with shut := true }) (p := fun n => n.replies = []) (fun n hn => hn) _ hrep4, hd4.step (by decide) st5, hs4.step (by decide) st5, hn4.step (by decide) st5⟩, by omega⟩
    · refine LoopP.intro (fun t h' => ∃ (k : Nat) (da : Option Addr) (dn dc : Nat) (ds : List Elem), t = ((na, nn', nc), some ⟨bb, 0, none⟩, (da, dn, dc), ((B.notes.length : Nat) : Int), (k : Int), ()) ∧ k ≤ 2048 ∧ ds.length ≤ 29 + k ∧ BrdAt h' bb B' F' ∧ SlF kElem F' h' da dn dc ds ∧ SlA kTurn F' h' na nn' nc now)
        (fun t _ => 2048 - t.2.2.2.2.1.toNat) ⟨0, d0, dn, dc0, ds, rfl, by omega, by omega, hB4, hd4, hn4⟩ ?_
      rintro t h5 ⟨k, da, dn, dc, ds, rfl, hk0, hdl, hB5, hd5, hn5⟩
      unfold s_jotterlaw23_NotesSweeps_l3
      dsimp only
      have fin : ∀ J1 J2 J3, s_jotterlaw23_NotesSweeps_k2 K J1 J2 J3 (some ⟨bb, 0, none⟩) da dn dc ((B.notes.length : Nat) : Int) h5 := by
        intro J1 J2 J3
        rw [← hbl]
        exact sweeps_end hB5 hd5 (by omega) (by omega) hrep4 hk
      refine br_dec (fun hlt => br_dec (fun hlt2 => ?_) fun _ => fin _ _ _) fun _ => fin _ _ _
      refine hn5.idx (i := k) (by omega) fun p hp => ⟨_, _, hp, ?_⟩
      refine turned_ok hd5.sl (by omega) (by omega) fun pos o da' dn' dc' h6 hp0 hp1 _ ho6 => ⟨_, _, _, _, _, _, rfl, br_no rfl ?_⟩
      have hle := turnL_length (ds := ds) (pos := pos) (out := o) (x := insE k) hp0
      rw [step64 (i := k) (by omega)]
      exact ⟨⟨k + 1, da', dn', dc', _, rfl, by omega, by omega, hB5.le ho6.le, ho6.slf fun b hb => hB5.block hb, hn5.le ho6.le⟩, by omega⟩
  refine br_dec (fun hlt => br_dec (fun hlt2 => ?_) fun _ => rest) fun _ => rest
  refine hr3.idx (i := i) (by omega) fun p hp => ⟨_, hp, ?_⟩
  refine hr3.idx (i := i + 1) (by omega) fun p hp => ⟨_, hp, ?_⟩
  refine put_ok hB3 hd3 (by omega) (by omega) (by omega) fun f t h4 F4 _ _ hB4 st4 => ⟨_, _, rfl, ?_⟩
  rw [step64 (i := B.notes.length) (by omega)]
  refine br_no (by rw [hgiv]; simp) (br_no rfl ?_)
  have e2 : w64 (((i : Nat) : Int) + 2) = ((i + 2 : Nat) : Int) := by rw [w64_i (by omega) (by omega)]; omega
  rw [e2]
  refine ⟨⟨i + 2, _, F4, by simp [putNote], by simp [putNote]; omega, by simp [putNote], by simp [putNote]; omega, by simp [putNote, hgiv], hB4, ?_, hd3.step (by decide) st4, hr3.step (by decide) st4, hs3.step (by decide) st4, hn3.step (by decide) st4⟩, by omega⟩
  intro q hq
  simp only [putNote] at hq
  rcases List.mem_append.1 hq with hq | hq
  · exact hrep q hq
  · simp only [List.mem_cons, List.not_mem_nil, or_false] at hq; subst hq; rfl
end Go.Proofs.Ytjieepgapjbjlaa.G
