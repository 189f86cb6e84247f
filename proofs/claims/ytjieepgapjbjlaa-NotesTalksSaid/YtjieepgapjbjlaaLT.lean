/- NotesTalks: the law's own contract. -/
import Derived.Test.YtjieepgapjbjlaaNE
import Derived.Test.YtjieepgapjbjlaaVT
namespace Go.Proofs.Ytjieepgapjbjlaa.G
open Go.Gv
set_option linter.unusedVariables false
set_option linter.unusedSimpArgs false
set_option maxRecDepth 100000

structure TI (h : GH) (said : List Reply) (sa : Option Addr) (sn sc : Nat) (bb db : Nat) (F : List Nat) (WB W : List Reply) (wa : Option Addr) (wn wc : Nat) (closed : Bool) : Prop where
  brd : BrdAt h bb ⟨1, [(1, { fixNote with shut := closed, replies := WB })]⟩ F
  doc : SlF kElem F h (some ⟨db, 0, none⟩) 1 1 [fixEl]
  docw : db ∉ ob wa
  want : Own kReply h wa wn wc W
  wantF : ∀ b ∈ ob wa, b ∉ F
  saidS : SlA kReply F h sa sn sc said
  saidw : ∀ p, sa = some p → said ≠ [] → p.block ∉ ob wa

theorem TI.le {h h' : GH} {said : List Reply} {sa : Option Addr} {sn sc : Nat} {bb db : Nat} {F : List Nat} {WB W : List Reply} {wa : Option Addr} {wn wc : Nat} {closed : Bool} (t : TI h said sa sn sc bb db F WB W wa wn wc closed) (hl : h.le h') :
    TI h' said sa sn sc bb db F WB W wa wn wc closed :=
  ⟨t.brd.le hl, t.doc.le hl, t.docw, Go.Gv.Own.agree (Agree.le (F := []) hl) t.want (fun b hb => by simp), t.wantF, t.saidS.le hl, t.saidw⟩

theorem TI.step {h h' : GH} {said : List Reply} {sa : Option Addr} {sn sc : Nat} {bb db : Nat} {F F' : List Nat} {WB WB' W : List Reply} {wa : Option Addr} {wn wc : Nat} {closed closed' : Bool} (t : TI h said sa sn sc bb db F WB W wa wn wc closed)
    (hB : BrdAt h' bb ⟨1, [(1, { fixNote with shut := closed', replies := WB' })]⟩ F') (st : Step F F' h h') : TI h' said sa sn sc bb db F' WB' W wa wn wc closed' :=
  ⟨hB, t.doc.step (by decide) st, t.docw, Go.Gv.Own.agree st.agree t.want t.wantF, fun b hb hF => by
    rcases st.fresh b hF with h1 | h1
    · exact t.wantF b hb h1
    · obtain ⟨o, ho⟩ := Go.Gv.Own.block t.want hb
      rw [h1] at ho; exact absurd ho (by simp), t.saidS.step (by decide) st, t.saidw⟩

theorem TI.app {h h' : GH} {said : List Reply} {sa : Option Addr} {sn sc : Nat} {bb db : Nat} {F : List Nat} {WB W W' : List Reply} {wa wa' : Option Addr} {wn wc wn' wc' : Nat} {closed : Bool} (t : TI h said sa sn sc bb db F WB W wa wn wc closed)
    (ho : Own kReply h' wa' wn' wc' W') (hg : Grow h h' wa wa') : TI h' said sa sn sc bb db F WB W' wa' wn' wc' closed := by
  have hst := hg.step
  refine ⟨t.brd.agree hst.agree fun b hb hb' => t.wantF b hb' hb, t.doc.other hst.agree fun p hp _ => ?_, fun hb => ?_, ho, fun b hb hF => ?_, t.saidS.other hst.agree t.saidw, fun p hp hne hb => ?_⟩
  · simp only [Option.some.injEq] at hp; subst hp; exact t.docw
  · rcases hst.fresh _ hb with h1 | h1
    · exact t.docw h1
    · obtain ⟨o, ho⟩ := sl_alloc (by decide) t.doc.sl rfl (by simp)
      rw [h1] at ho; exact absurd ho (by simp)
  · rcases hst.fresh _ hb with h1 | h1
    · exact t.wantF b h1 hF
    · obtain ⟨o, ho⟩ := t.brd.block hF
      rw [h1] at ho; exact absurd ho (by simp)
  · rcases hst.fresh _ hb with h1 | h1
    · exact t.saidw p hp hne h1
    · obtain ⟨o, ho⟩ := t.saidS.alloc (by decide) hp hne
      rw [h1] at ho; exact absurd ho (by simp)

theorem find1 {n : Note} {g : Int} : findN 1 (Brd.mk g [(1, n)]).notes = some n := by simp [findN]
theorem find2 {n : Note} {g : Int} : findN 2 (Brd.mk g [(1, n)]).notes = none := by simp [findN]
theorem find1' {n m : Note} {g : Int} (h : findN 1 (Brd.mk g [(1, n)]).notes = some m) : m = n := by rw [find1] at h; exact (Option.some.inj h).symm
theorem set1 {n : Note} {f : Note → Note} : setN 1 f [(1, n)] = [(1, f n)] := by simp [setN]

theorem talks_k1 {K : Value → GH → Prop} {J : _ → GH → Prop} {h : GH} {said : List Reply} {sa : Option Addr} {sn sc : Nat} {shut : Int} {bb db : Nat} {F : List Nat} {W : List Reply} {wa : Option Addr} {wn wc : Nat} {closed : Bool} {i c : Int} {s : ByteArray} (t : TI h said sa sn sc bb db F W W wa wn wc closed)
    (hw : W.length * 24 ≤ 140737488355328)
    (hJ : ∀ h', TI h' said sa sn sc bb db F W W wa wn wc closed → J ((sa, sn, sc), shut, some ⟨bb, 0, none⟩, (some ⟨db, 0, none⟩, 1, 1), (wa, wn, wc), closed, w64 (i + 1), ()) h') :
    s_jotterlaw23_NotesTalks_k1 K J sa sn sc shut (some ⟨bb, 0, none⟩) (some ⟨db, 0, none⟩) 1 1 wa wn wc closed i c s h := by
  unfold s_jotterlaw23_NotesTalks_k1
  refine reply_ok t.brd (fun _ => ⟨_, rfl, br_no rfl ?_⟩) (fun nt h1 => by rw [find2] at h1; simp at h1) (fun nt h1 => by rw [find2] at h1; simp at h1) (fun nt h1 => by rw [find2] at h1; simp at h1)
  refine Look_ok t.brd t.doc.sl (by simp) (fun h1 => by rw [find1] at h1; simp at h1) fun nt h1 => ?_
  rw [find1' h1]
  refine ⟨hw, fun a c' h' ho => ⟨_, _, _, _, _, _, _, _, _, _, _, rfl, br_no rfl (br_no (by simp) ?_)⟩⟩
  have t' := t.le ho.le
  exact eqReplies_ok ho.sl t'.want.sl (fun _ => ⟨true, rfl, br_no rfl (hJ h' t')⟩) fun hne => absurd rfl hne

theorem worded_cases (c : Int) (s : ByteArray) : ((c < 1 ∨ 64 < c) ∧ wordedE c s = 235) ∨ (¬ (c < 1 ∨ 64 < c) ∧ mayB s = false ∧ wordedE c s = 231) ∨ (¬ (c < 1 ∨ 64 < c) ∧ mayB s = true ∧ wordedE c s = 0) := by
  unfold wordedE
  by_cases h : c < 1 ∨ 64 < c
  · simp [h]
  · cases hm : mayB s <;> simp [h]

theorem talks_ok {K : Value → GH → Prop} {h : GH} {said : List Reply} {sa : Option Addr} {sn sc : Nat} {shut : Int} (hs : SlA kReply [] h sa sn sc said) (hb : said.length * 24 ≤ 140737488355328) (hk : ∀ h', K (.bool true) h') :
    GC pr n_jotterlaw23_NotesTalks [.slice sa sn sc, .int .i64 shut] h K := by
  refine ok_jotterlaw23_NotesTalks ?_
  unfold s_jotterlaw23_NotesTalks
  have hlen := hs.n_eq
  refine fixed_ok fun bb db F h1 hB hD hl hF hdb => ⟨_, _, _, _, _, rfl, br_no rfl ?_⟩
  refine LoopP.intro (fun t h' => ∃ (F : List Nat) (W : List Reply) (wa : Option Addr) (wn wc : Nat) (closed : Bool) (i : Nat), t = ((sa, sn, sc), shut, some ⟨bb, 0, none⟩, (some ⟨db, 0, none⟩, 1, 1), (wa, wn, wc), closed, (i : Int), ()) ∧
      TI h' said sa sn sc bb db F W W wa wn wc closed ∧ i ≤ said.length ∧ W.length ≤ i ∧ (closed = true → shut < i)) (fun t _ => said.length - t.2.2.2.2.2.2.1.toNat) ?_ ?_
  · refine ⟨F, [], none, 0, 0, false, 0, rfl, ⟨hB, hD, by simp [ob], Own.nil_ _, by simp [ob], hs.far (by decide) hl hF, by simp [ob]⟩, by omega, by simp, by simp⟩
  rintro t h' ⟨F, W, wa, wn, wc, closed, i, rfl, ti, hi, hW, hc⟩
  unfold s_jotterlaw23_NotesTalks_l1
  simp only
  refine br_dec (fun hlt => ?_) (fun hge => hk _)
  have hi' : i < said.length := by omega
  -- what all the ends have in common
  have fin : ∀ {h2 : GH} {F2 : List Nat} {W2 : List Reply} {wa2 : Option Addr} {wn2 wc2 : Nat} {closed2 : Bool} {c : Int} {s : ByteArray}, TI h2 said sa sn sc bb db F2 W2 W2 wa2 wn2 wc2 closed2 → W2.length ≤ i + 1 → (closed2 = true → shut < ((i + 1 : Nat) : Int)) →
      s_jotterlaw23_NotesTalks_k1 K (fun t' h'' => (∃ (F : List Nat) (W : List Reply) (wa : Option Addr) (wn wc : Nat) (closed : Bool) (i : Nat), t' = ((sa, sn, sc), shut, some ⟨bb, 0, none⟩, (some ⟨db, 0, none⟩, 1, 1), (wa, wn, wc), closed, (i : Int), ()) ∧
      TI h'' said sa sn sc bb db F W W wa wn wc closed ∧ i ≤ said.length ∧ W.length ≤ i ∧ (closed = true → shut < i)) ∧ said.length - t'.2.2.2.2.2.2.1.toNat < said.length - (i : Int).toNat) sa sn sc shut (some ⟨bb, 0, none⟩) (some ⟨db, 0, none⟩) 1 1 wa2 wn2 wc2 closed2 (i : Int) c s h2 := by
    intro h2 F2 W2 wa2 wn2 wc2 closed2 c s t2 hW2 hc2
    refine talks_k1 t2 (by omega) fun h3 t3 => ⟨⟨F2, W2, wa2, wn2, wc2, closed2, i + 1, by rw [step64 (by omega)], t3, hi', hW2, hc2⟩, ?_⟩
    simp only
    rw [step64 (by omega)]
    omega
  refine br_eq (fun he => ?_) (fun he => ?_)
  · -- it is shut now
    have hcl : closed = false := by
      cases closed with
      | false => rfl
      | true => have := hc rfl; omega
    subst hcl
    refine shut_ok ti.brd (fun h1 => by rw [find1] at h1; simp at h1) (fun nt h1 h2 => by rw [find1' h1] at h2; simp at h2) fun nt h2 F2 h1 _ hB2 st2 => ⟨_, rfl, br_no rfl ?_⟩
    rw [set1] at hB2
    have t2 : TI h2 said sa sn sc bb db F2 W W wa wn wc true := ti.step hB2 st2
    refine shut_ok t2.brd (fun h1 => by rw [find1] at h1; simp at h1) (fun nt h1 h3 => ⟨_, rfl, br_no rfl ?_⟩) fun nt h2 F2 h1 h3 _ _ => by rw [find1' h1] at h3; simp at h3
    refine t2.saidS.idx hi' fun p hp => ⟨_, _, hp, ?_⟩
    have hsh : shut < ((i + 1 : Nat) : Int) := by omega
    refine reply_ok t2.brd (fun h1 => by rw [find1] at h1; simp at h1) (fun nt _ hw => ?_) (fun nt _ hw _ => ?_) (fun nt h1 hw hs => by rw [find1' h1] at hs; simp at hs)
    · refine ⟨_, rfl, ?_⟩
      rcases worded_cases said[i].client said[i].words with ⟨g1, g2⟩ | ⟨g1, g2, g3⟩ | ⟨g1, g2, g3⟩
      · rw [g2]
        exact br_dec (fun _ => br_no rfl (fin t2 (by omega) fun _ => hsh)) fun _ => br_dec (fun _ => br_no rfl (fin t2 (by omega) fun _ => hsh)) fun _ => absurd g1 (by omega)
      · rw [g3]
        refine br_dec (fun _ => absurd g1 (by omega)) fun _ => br_dec (fun _ => absurd g1 (by omega)) fun _ => may_ok ⟨_, rfl, ?_⟩
        rw [g2]
        exact br_yes rfl (br_no rfl (fin t2 (by omega) fun _ => hsh))
      · exact absurd g3 hw
    · refine ⟨_, rfl, ?_⟩
      rcases worded_cases said[i].client said[i].words with ⟨g1, g2⟩ | ⟨g1, g2, g3⟩ | ⟨g1, g2, g3⟩
      · rw [g2] at hw; exact absurd hw (by decide)
      · rw [g3] at hw; exact absurd hw (by decide)
      · refine br_dec (fun _ => absurd g1 (by omega)) fun _ => br_dec (fun _ => absurd g1 (by omega)) fun _ => may_ok ⟨_, rfl, ?_⟩
        rw [g2]
        exact br_no rfl (br_no rfl (fin t2 (by omega) fun _ => hsh))
  · refine ti.saidS.idx hi' fun p hp => ⟨_, _, hp, ?_⟩
    have hsh : closed = true → shut < ((i + 1 : Nat) : Int) := fun h => by have := hc h; omega
    refine reply_ok ti.brd (fun h1 => by rw [find1] at h1; simp at h1) (fun nt _ hw => ?_) (fun nt h1 hw hs => ?_) (fun nt h1 hw hs => ?_)
    · refine ⟨_, rfl, ?_⟩
      rcases worded_cases said[i].client said[i].words with ⟨g1, g2⟩ | ⟨g1, g2, g3⟩ | ⟨g1, g2, g3⟩
      · rw [g2]
        exact br_dec (fun _ => br_no rfl (fin ti (by omega) hsh)) fun _ => br_dec (fun _ => br_no rfl (fin ti (by omega) hsh)) fun _ => absurd g1 (by omega)
      · rw [g3]
        refine br_dec (fun _ => absurd g1 (by omega)) fun _ => br_dec (fun _ => absurd g1 (by omega)) fun _ => may_ok ⟨_, rfl, ?_⟩
        rw [g2]
        exact br_yes rfl (br_no rfl (fin ti (by omega) hsh))
      · exact absurd g3 hw
    · rw [find1' h1] at hs
      simp only at hs
      subst hs
      refine ⟨_, rfl, ?_⟩
      rcases worded_cases said[i].client said[i].words with ⟨g1, g2⟩ | ⟨g1, g2, g3⟩ | ⟨g1, g2, g3⟩
      · rw [g2] at hw; exact absurd hw (by decide)
      · rw [g3] at hw; exact absurd hw (by decide)
      · refine br_dec (fun _ => absurd g1 (by omega)) fun _ => br_dec (fun _ => absurd g1 (by omega)) fun _ => may_ok ⟨_, rfl, ?_⟩
        rw [g2]
        exact br_no rfl (br_yes rfl (br_no rfl (fin ti (by omega) hsh)))
    · rw [find1' h1] at hs ⊢
      simp only at hs
      subst hs
      refine ⟨by simp only; omega, fun h2 F2 hB2 st2 => ⟨_, rfl, ?_⟩⟩
      rw [set1] at hB2
      have t2 : TI h2 said sa sn sc bb db F2 (W ++ [⟨said[i].client, said[i].words⟩]) W wa wn wc false := ti.step hB2 st2
      rcases worded_cases said[i].client said[i].words with ⟨g1, g2⟩ | ⟨g1, g2, g3⟩ | ⟨g1, g2, g3⟩
      · rw [g2] at hw; exact absurd hw (by decide)
      · rw [g3] at hw; exact absurd hw (by decide)
      · refine br_dec (fun _ => absurd g1 (by omega)) fun _ => br_dec (fun _ => absurd g1 (by omega)) fun _ => may_ok ⟨_, rfl, ?_⟩
        rw [g2]
        refine br_no rfl (br_no rfl (br_no rfl ?_))
        have hwl := t2.want.n_eq
        refine t2.want.app (bytes := 24) (ys := [⟨said[i].client, said[i].words⟩]) rfl rfl (by omega) (by omega) fun a' c' h3 ho hg => ?_
        exact fin (t2.app ho hg) (by simp; omega) (by simp)
end Go.Proofs.Ytjieepgapjbjlaa.G
