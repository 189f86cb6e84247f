/- Look, Put, fixed: contracts. -/
import Derived.Test.YtjieepgapjbjlaaND
import Derived.Laws.Strings
namespace Go.Proofs.Ytjieepgapjbjlaa.G
open Go.Gv
set_option linter.unusedVariables false
set_option linter.unusedSimpArgs false
set_option maxRecDepth 100000

theorem nn_some {p : Addr} {K : Addr → Prop} (h : K p) : nn (some p) K := h

/-- What Look answers of a note. -/
def lookV (id : Int) (nt : Note) (ds : List Elem) (a : Option Addr) (n c : Nat) : Value :=
  .agg ⟨[.int .i64 id, .int .i64 nt.client, .string nt.words, .int .i64 (spanOf nt.elems ds).1, .int .i64 (spanOf nt.elems ds).2, .bool ((spanOf nt.elems ds).2 == 0), .bool nt.shut, .slice a n c]⟩

theorem look_ok {K : Value → GH → Prop} {h : GH} {L : Lay} {nt : Note} (hN : NoteAt h L nt) {id : Int} {da : Option Addr} {dn dc : Nat} {ds : List Elem} (hd : Sl kElem h da dn dc ds) (hb : nt.replies.length * 24 ≤ 140737488355328)
    (hdl : ds.length < 4611686018427387904)
    (hk : ∀ a c h', OwnF kReply h h' a nt.replies.length c nt.replies → K (lookV id nt ds a nt.replies.length c) h') :
    GC pr n_notes_note_look [.pointer (some ⟨L.nb, 0, none⟩), .int .i64 id, .slice da dn dc] h K := by
  refine ok_notes_note_look ?_
  unfold s_notes_note_look
  refine span_ok (by rw [addr0]; exact rds1 hN.cells rfl rfl) hN.elems.sl hd ⟨_, _, rfl, ?_⟩
  refine ⟨nt.client, by rw [addr0]; exact rds1 hN.cells rfl rfl, nt.words, by rw [addr0]; exact rds1 hN.cells rfl rfl, nt.shut, by rw [addr0]; exact rds1 hN.cells rfl rfl, L.ra, L.rn, L.rc, by rw [addr0]; exact rds1 hN.cells rfl rfl, ?_⟩
  have hlen := hN.reps.n_eq
  refine ⟨kReply.cs nt.replies, by rw [Kind.cs_length, hlen]; rfl, hN.reps.sl.rdsO, ?_⟩
  refine (OwnF.nil_ (d := kReply) h).app (bytes := 24) (ys := nt.replies) rfl hlen (by omega) (by omega) fun a' c' h' ho hg => ?_
  have hc := ho.le _ _ hN.cells
  refine ⟨by rw [addr0]; exact rds1 hc rfl rfl, by rw [addr0]; exact rds1 hc rfl rfl, by rw [addr0]; exact rds1 hc rfl rfl, ?_⟩
  rw [List.nil_append, hlen, Nat.zero_add] at ho
  have := hk a' c' h' ho
  rw [hlen, Nat.zero_add]
  exact this

def zeroNote : Value := .agg ⟨[.int .i64 0, .int .i64 0, .string ByteArray.empty, .int .i64 0, .int .i64 0, .bool false, .bool false, .slice none 0 0]⟩

theorem Look_ok {K : Value → GH → Prop} {h : GH} {bb : Nat} {B : Brd} {F : List Nat} (hB : BrdAt h bb B F) {id : Int} {da : Option Addr} {dn dc : Nat} {ds : List Elem} (hd : Sl kElem h da dn dc ds)
    (hdl : ds.length < 4611686018427387904)
    (hk1 : findN id B.notes = none → K (.tuple ⟨[zeroNote, .int .i64 232]⟩) h)
    (hk2 : ∀ nt, findN id B.notes = some nt → nt.replies.length * 24 ≤ 140737488355328 ∧ ∀ a c h', OwnF kReply h h' a nt.replies.length c nt.replies → K (.tuple ⟨[lookV id nt ds a nt.replies.length c, .int .i64 0]⟩) h') :
    GC pr n_notes_Board_Look [.pointer (some ⟨bb, 0, none⟩), .slice da dn dc, .int .i64 id] h K := by
  refine ok_notes_Board_Look ?_
  unfold s_notes_Board_Look
  obtain ⟨mb, hrm, hcase⟩ := look_at hB id
  refine ⟨some mb, by rw [addr0]; exact hrm, ?_⟩
  rcases hcase with ⟨h1, h2⟩ | ⟨L, nt, n1, n2, g1, g2, g3, g4, g5, g6, g7⟩
  · exact ⟨none, ⟨false, h2⟩, br_yes rfl (hk1 h1)⟩
  · refine ⟨_, ⟨true, g4⟩, br_no rfl ?_⟩
    obtain ⟨hb, hk⟩ := hk2 nt g2
    refine look_ok g3 hd hb hdl fun a c h' ho => ?_
    exact ⟨_, _, _, _, _, _, _, _, _, _, rfl, hk a c h' ho⟩

theorem findE_none {h : GH} {id : Int} {es : List MapEntry} {ns : List (Int × Note)} {ls : List Lay} (he : Ents h es ns ls) (hn : ∀ q ∈ ns, q.1 ≠ id) : findE pr 3 (.int .i64 id) es 0 = some none := by
  rcases findE_ents (id := id) he 0 with ⟨_, h2⟩ | ⟨e1, e, e2, n1, nt, n2, l1, L, l2, g1, g2, g3⟩
  · exact h2
  · exact absurd rfl (hn (id, nt) (by rw [g2]; simp))

def putNote (B : Brd) (es : List Elem) (c : Int) (s : ByteArray) : Brd := ⟨B.given + 1, B.notes ++ [(B.given + 1, ⟨es, c, s, false, []⟩)]⟩

theorem Put_ok {K : Value → GH → Prop} {h : GH} {bb : Nat} {B : Brd} {F : List Nat} (hB : BrdAt h bb B F) {da : Option Addr} {dn dc : Nat} {ds : List Elem} (hd : SlF kElem F h da dn dc ds) {f t c : Int} {s : ByteArray}
    (hds : ds.length * 24 ≤ 140737488355328)
    (hk1 : (f < 0 ∨ t > (ds.length : Int) ∨ f ≥ t) → K (.tuple ⟨[.int .i64 0, .int .i64 230]⟩) h)
    (hk2 : 0 ≤ f → f < t → t ≤ (ds.length : Int) → wordedE c s ≠ 0 → K (.tuple ⟨[.int .i64 0, .int .i64 (wordedE c s)]⟩) h)
    (hk3 : 0 ≤ f → f < t → t ≤ (ds.length : Int) → wordedE c s = 0 → B.given ≥ 256 → K (.tuple ⟨[.int .i64 0, .int .i64 234]⟩) h)
    (hk4 : 0 ≤ f → f < t → t ≤ (ds.length : Int) → wordedE c s = 0 → B.given < 256 → ∀ h' F', BrdAt h' bb (putNote B ((ds.take t.toNat).drop f.toNat) c s) F' → Step F F' h h' → K (.tuple ⟨[.int .i64 (B.given + 1), .int .i64 0]⟩) h') :
    GC pr n_notes_Board_Put [.pointer (some ⟨bb, 0, none⟩), .slice da dn dc, .int .i64 f, .int .i64 t, .int .i64 c, .string s] h K := by
  refine ok_notes_Board_Put ?_
  unfold s_notes_Board_Put
  have hlen := hd.sl.n_eq
  have hcap := hd.sl.cap
  refine br_dec (fun h1 => hk1 (.inl h1)) fun h1 => br_dec (fun h2 => hk1 (.inr (.inl (by omega)))) fun h2 => br_dec (fun h3 => hk1 (.inr (.inr h3))) fun h3 => ?_
  refine worded_ok ⟨_, rfl, br_ne (fun hw => hk2 (by omega) (by omega) (by omega) hw) fun hw => ?_⟩
  have hBB := hB
  obtain ⟨⟨mb, es, clock, ls, hF, hnd, hbb, hmb, hents, hborn, hbn⟩, hlow, hids, huniq, hinc⟩ := hB
  refine ⟨B.given, by rw [addr0]; exact rds1 hbb rfl rfl, br_dec (fun hg => hk3 (by omega) (by omega) (by omega) hw hg) fun hg => ?_⟩
  refine ⟨B.given, by rw [addr0]; exact rds1 hbb rfl rfl, ?_⟩
  refine nn_some ?_
  rw [addr0]
  refine wr1 hbb (by simp) ?_
  rw [w64_i (by omega) (by omega)]
  have hmF : mb ∈ F := by rw [hF]; simp
  have hbF : bb ∈ F := by rw [hF]; simp
  have hlF : ∀ L ∈ ls, ∀ b ∈ L.bl, b ∈ F := fun L hL b hb => by rw [hF]; exact List.mem_cons_of_mem _ (List.mem_cons_of_mem _ (List.mem_flatMap.2 ⟨L, hL, hb⟩))
  have hnd' := hnd
  rw [hF, List.nodup_cons, List.nodup_cons] at hnd'
  obtain ⟨n1, n2, n3⟩ := hnd'
  have hmbb : mb ≠ bb := fun e => n1 (by simp [e])
  generalize hh1 : h.set bb (.cells 0 ([Value.int .i64 B.given, .map (some mb)].set (0 + 0) (.int .i64 (B.given + 1))) (some 2)) = h1
  have hag1 : Agree [bb] h h1 := by rw [← hh1]; exact Agree.set (by simp)
  have hb1 : h1 bb = some (.cells 0 [.int .i64 (B.given + 1), .map (some mb)] (some 2)) := by rw [← hh1]; exact GH.set_same _ _ _
  have hm1 : h1 mb = some (.raw (.map es clock)) := hag1 _ _ hmb (by simpa using hmbb)
  have he1 : Ents h1 es.toList B.notes ls := hents.agree hag1 fun L hL b hb => by
    simp only [List.mem_cons, List.not_mem_nil, or_false]
    rintro rfl
    exact n1 (List.mem_cons_of_mem _ (List.mem_flatMap.2 ⟨L, hL, hb⟩))
  have hd1 : Sl kElem h1 da dn dc ds := Go.Gv.Sl.agree hag1 hd.sl fun p hp hne => by
    simp only [List.mem_cons, List.not_mem_nil, or_false]
    intro e
    exact hd.far p hp hne (e ▸ hbF)
  refine ⟨some mb, by rw [addr0]; exact rds1 hb1 rfl rfl, B.given + 1, by rw [addr0]; exact rds1 hb1 rfl rfl, by omega, by omega, by omega, by omega, ?_⟩
  have hcut := (hd1.to (m := t.toNat) (by omega)).from (l := f.toNat) (by omega)
  generalize hxs : (ds.take t.toNat).drop f.toNat = xs at hcut hk4
  have hxl := hcut.n_eq
  refine ⟨kElem.cs xs, by rw [Kind.cs_length, ← hxl]; rfl, hcut.rdsO, ?_⟩
  refine (OwnF.nil_ (d := kElem) h1).app (bytes := 24) (ys := xs) rfl hxl (by omega) (by omega) fun a' c' h2 ho hg => ?_
  rw [List.nil_append] at ho
  have hb2 := ho.le _ _ hb1
  have hm2 := ho.le _ _ hm1
  have he2 : Ents h2 es.toList B.notes ls := he1.agree (Agree.le (F := []) ho.le) fun L hL b hb => by simp
  refine ⟨by rw [addr0]; exact rds1 hb2 rfl rfl, by rw [addr0]; exact rds1 hb2 rfl rfl, fun nb hnb => ?_⟩
  have hl3 : h2.le (h2.set nb (.cells 0 [.slice a' (0 + (t.toNat - f.toNat)) c', .int .i64 c, .string s, .bool false, .slice none 0 0] (some 5))) := GH.le_set hnb
  generalize hh3 : h2.set nb (.cells 0 [.slice a' (0 + (t.toNat - f.toNat)) c', .int .i64 c, .string s, .bool false, .slice none 0 0] (some 5)) = h3 at hl3
  have hb3 := hl3 _ _ hb2
  have hm3 := hl3 _ _ hm2
  have he3 : Ents h3 es.toList B.notes ls := he2.agree (Agree.le (F := []) hl3) fun L hL b hb => by simp
  show Rds h3 _ _ ∧ _
  refine ⟨by rw [addr0]; exact rds1 hb3 rfl rfl, by rw [addr0]; exact rds1 hb3 rfl rfl, es, clock, hm3, none, findE_none he3 (fun q hq e => ?_), ?_⟩
  · have := hids q hq; omega
  let L' : Lay := ⟨nb, a', 0 + (t.toNat - f.toNat), c', none, 0, 0⟩
  have hN3 : NoteAt h3 L' ⟨xs, c, s, false, []⟩ := ⟨by rw [← hh3]; exact GH.set_same _ _ _, Go.Gv.Own.agree (Agree.le (F := []) hl3) ho.own (fun b hb => by simp), Own.nil_ _⟩
  have hbb4 : bb ≠ mb := hmbb.symm
  have new1 : ∀ b ∈ L'.bl, h1 b = none := fun b hb => by
    simp only [L', Lay.bl, ob, List.mem_cons, List.mem_append, Option.toList, List.map_nil, List.not_mem_nil, or_false] at hb
    rcases hb with rfl | hb
    · cases hx : h1 b with
      | none => rfl
      | some o => rw [ho.le _ _ hx] at hnb; exact absurd hnb (by simp)
    · obtain ⟨p, hp, rfl⟩ := mem_ob.1 hb
      exact ho.new p hp
  have new0 : ∀ b ∈ L'.bl, h b = none := fun b hb => by
    cases hx : h b with
    | none => rfl
    | some o =>
      have h5 := new1 b hb
      by_cases hbe : b = bb
      · rw [hbe, hb1] at h5; exact absurd h5 (by simp)
      · rw [hag1 _ _ hx (by simpa using hbe)] at h5; exact absurd h5 (by simp)
  have hfar : ∀ b ∈ L'.bl, b ∉ F := fun b hb hF' => by
    obtain ⟨o, ho⟩ := hBB.block hF'
    rw [new0 b hb] at ho; exact absurd ho (by simp)
  have hLnd : L'.bl.Nodup := by
    have hea : (ob a').Nodup := by cases a' <;> simp [ob]
    simp only [L', Lay.bl, ob, List.nodup_cons, List.mem_append, Option.toList, List.map_nil, List.append_nil, List.not_mem_nil, or_false]
    refine ⟨fun hb => ?_, hea⟩
    obtain ⟨o, ho⟩ := Go.Gv.Own.block ho.own hb
    rw [hnb] at ho; exact absurd ho (by simp)
  generalize hh4 : h3.set mb (.raw (.map (es.push { key := .int .i64 (B.given + 1), val := .pointer (some ⟨nb, 0, none⟩), born := clock }) (clock + 1))) = h4
  have hag4 : Agree [mb] h3 h4 := by rw [← hh4]; exact Agree.set (by simp)
  have hb4 := hag4 _ _ hb3 (by simpa using hbb4)
  refine ⟨B.given + 1, ?_, ?_⟩
  · rw [addr0]; exact rds1 hb4 rfl rfl
  refine hk4 (by omega) (by omega) (by omega) hw (by omega) h4 (bb :: mb :: ((ls ++ [L']).flatMap Lay.bl)) ?_ ?_
  · refine ⟨⟨mb, _, clock + 1, ls ++ [L'], rfl, ?_, hb4, by rw [← hh4]; exact GH.set_same _ _ _, ?_, ?_, ?_⟩, by simp only [putNote]; omega, ?_, ?_, ?_⟩
    · have : bb :: mb :: ((ls ++ [L']).flatMap Lay.bl) = F ++ L'.bl := by rw [hF]; simp [List.flatMap_append]
      rw [this, List.nodup_append]
      exact ⟨hnd, hLnd, fun x hx y hy e => by subst e; exact hfar x hy hx⟩
    · rw [Array.toList_push]
      have hd3 : ∀ L ∈ ls, ∀ b ∈ L.bl, b ∉ [mb] := fun L hL b hb => by
        simp only [List.mem_cons, List.not_mem_nil, or_false]
        rintro rfl
        exact n2 (List.mem_flatMap.2 ⟨L, hL, hb⟩)
      refine (he3.agree hag4 hd3).append (.cons rfl rfl (hN3.agree hag4 fun b hb => ?_) .nil)
      simp only [List.mem_cons, List.not_mem_nil, or_false]
      rintro rfl
      exact hfar _ hb hmF
    · intro e he
      rw [Array.toList_push, List.mem_append] at he
      rcases he with he | he
      · have := hborn e he; omega
      · simp only [List.mem_cons, List.not_mem_nil, or_false] at he; subst he; simp
    · rw [Array.toList_push, List.map_append, List.nodup_append]
      refine ⟨hbn, by simp, fun x hx y hy e => ?_⟩
      obtain ⟨q, hq, rfl⟩ := List.mem_map.1 hx
      simp only [List.map_cons, List.map_nil, List.mem_cons, List.not_mem_nil, or_false] at hy
      have := hborn q hq
      omega
    · intro q hq
      simp only [putNote, List.mem_append, List.mem_cons, List.not_mem_nil, or_false] at hq ⊢
      rcases hq with hq | rfl
      · have := hids q hq; omega
      · simp only; omega
    · simp only [putNote, List.map_append, List.nodup_append]
      refine ⟨huniq, by simp, fun x hx y hy e => ?_⟩
      obtain ⟨q, hq, rfl⟩ := List.mem_map.1 hx
      simp only [List.map_cons, List.map_nil, List.mem_cons, List.not_mem_nil, or_false] at hy
      have := hids q hq
      omega
    · simp only [putNote, List.map_append, List.pairwise_append]
      refine ⟨hinc, by simp, fun x hx y hy => ?_⟩
      obtain ⟨q, hq, rfl⟩ := List.mem_map.1 hx
      simp only [List.map_cons, List.map_nil, List.mem_cons, List.not_mem_nil, or_false] at hy
      have := hids q hq
      omega
  · refine ⟨?_, fun b hb => ?_⟩
    · refine Agree.trans (hag1.mono fun b hb => ?_) (Agree.trans (Agree.le (GH.le_trans ho.le hl3)) (hag4.mono fun b hb => ?_))
      · simp only [List.mem_cons, List.not_mem_nil, or_false] at hb; subst hb; exact hbF
      · simp only [List.mem_cons, List.not_mem_nil, or_false] at hb; subst hb; exact hmF
    · have : bb :: mb :: ((ls ++ [L']).flatMap Lay.bl) = F ++ L'.bl := by rw [hF]; simp [List.flatMap_append]
      rw [this, List.mem_append] at hb
      exact hb.imp id (new0 b)

theorem eqNote_ok {K : Value → GH → Prop} {h : GH} {i i' c c' f f' t t' : Int} {w w' : ByteArray} {g g' s s' : Bool} {aa : Option Addr} {an ac : Nat} {xs : List Reply} {ba : Option Addr} {bn bc : Nat} {ys : List Reply} (ha : Sl kReply h aa an ac xs) (hb : Sl kReply h ba bn bc ys)
    (hk : ∀ b : Bool, (b = true ↔ (i = i' ∧ c = c' ∧ w = w' ∧ f = f' ∧ t = t' ∧ g = g' ∧ s = s' ∧ xs = ys)) → K (.bool b) h) :
    GC pr n_jotterlaw23_eqNote [.agg ⟨[.int .i64 i, .int .i64 c, .string w, .int .i64 f, .int .i64 t, .bool g, .bool s, .slice aa an ac]⟩, .agg ⟨[.int .i64 i', .int .i64 c', .string w', .int .i64 f', .int .i64 t', .bool g', .bool s', .slice ba bn bc]⟩] h K := by
  refine ok_jotterlaw23_eqNote ?_
  unfold s_jotterlaw23_eqNote
  have no : ¬ (i = i' ∧ c = c' ∧ w = w' ∧ f = f' ∧ t = t' ∧ g = g' ∧ s = s' ∧ xs = ys) → K (.bool false) h := fun hn => hk false (by simp [hn])
  refine br_ne (fun e => no fun h => e h.1) fun e1 => br_ne (fun e => no fun h => e h.2.1) fun e2 => br_of (fun e => no fun h => ?_) fun e3 => br_ne (fun e => no fun h => e h.2.2.2.1) fun e4 => br_ne (fun e => no fun h => e h.2.2.2.2.1) fun e5 =>
    br_eq (fun e6 => br_eq (fun e7 => ?_) fun e => no fun h => e h.2.2.2.2.2.2.1) fun e => no fun h => e h.2.2.2.2.2.1
  · rw [h.2.2.1] at e; simp at e
  · have hw : w = w' := by
      have : w.toList = w'.toList := by simpa using e3
      rw [ByteArray.toList_eq, ByteArray.toList_eq] at this
      exact ByteArray.ext (Array.toList_inj.mp this)
    exact eqReplies_ok ha hb (fun e8 => ⟨true, rfl, hk true (by simp [e1, e2, hw, e4, e5, e6, e7, e8])⟩) fun e8 => ⟨false, rfl, no fun h => e8 h.2.2.2.2.2.2.2⟩

theorem one_sl {h : GH} {b : Nat} (hb : h b = none) (x : Elem) : Sl kElem (h.set b (.cells 0 [.int .u8 x.ch, .int .i64 x.client, .int .i64 x.seq] (some 3))) (some ⟨b, 0, none⟩) 1 1 [x] :=
  ⟨rfl, by omega, by omega, fun p hp => by simp only [Option.some.injEq] at hp; subst hp; rfl, fun e => by simp at e, fun p hp => by
    simp only [Option.some.injEq] at hp
    subst hp
    exact rds_block (GH.set_same _ _ _) (Nat.le_refl _) rfl fun i v hv => by simpa [kElem, Kind.cs] using hv⟩

def fixEl : Elem := ⟨120, 1, 1⟩
def fixNote : Note := ⟨[fixEl], 3, ByteArray.mk #[115, 111], false, []⟩

theorem fixed_ok {K : Value → GH → Prop} {h : GH} (hk : ∀ bb db F h', BrdAt h' bb ⟨1, [(1, fixNote)]⟩ F → SlF kElem F h' (some ⟨db, 0, none⟩) 1 1 [fixEl] → h.le h' → (∀ b ∈ F, h b = none) → h db = none → K (.tuple ⟨[.pointer (some ⟨bb, 0, none⟩), .slice (some ⟨db, 0, none⟩) 1 1, .bool true]⟩) h') :
    GC pr n_jotterlaw23_fixed [] h K := by
  refine ok_jotterlaw23_fixed ?_
  unfold s_jotterlaw23_fixed
  refine new_ok fun bb F h1 hB1 hl1 hF1 => ⟨_, rfl, br_no rfl fun db hdb => ?_⟩
  have hl2 := GH.le_set (o := .cells 0 [.int .u8 120, .int .i64 1, .int .i64 1] (some 3)) hdb
  have hB2 := hB1.le hl2
  have hS : SlF kElem F (h1.set db (.cells 0 [.int .u8 120, .int .i64 1, .int .i64 1] (some 3))) (some ⟨db, 0, none⟩) 1 1 [fixEl] := ⟨one_sl hdb fixEl, fun p hp _ hF => by
    simp only [Option.some.injEq] at hp
    subst hp
    obtain ⟨o, ho⟩ := hB1.block hF
    rw [hdb] at ho; exact absurd ho (by simp)⟩
  have hw : wordedE 3 (ByteArray.mk #[115, 111]) = 0 := by decide
  refine Put_ok hB2 hS (by simp) (fun h => ?_) (fun _ _ _ h => absurd hw h) (fun _ _ _ _ h => absurd h (by simp)) fun _ _ _ _ _ h3 F3 hB3 st3 => ?_
  · simp at h
  refine ⟨_, _, rfl, ?_⟩
  have hS3 := hS.step (by decide) st3
  have hl3 : h.le h3 := fun b o hb => st3.agree b o (hl2 _ _ (hl1 _ _ hb)) fun h => by rw [hF1 b h] at hb; exact absurd hb (by simp)
  refine Look_ok hB3 hS3.sl (by simp) (fun h => absurd h (by simp [putNote, findN])) fun nt hnt => ?_
  have hnt' : nt = fixNote := by
    have : findN 1 (putNote ⟨0, []⟩ (([fixEl].take (1 : Int).toNat).drop (0 : Int).toNat) 3 (ByteArray.mk #[115, 111])).notes = some fixNote := by simp [putNote, findN, fixNote]
    rw [this] at hnt
    exact (Option.some.inj hnt).symm
  subst hnt'
  refine ⟨by simp [fixNote], fun a c h4 ho => ⟨_, _, _, _, _, _, _, _, _, _, _, rfl, ?_⟩⟩
  refine br_yes rfl (br_yes rfl (br_yes rfl ?_))
  refine eqNote_ok ho.sl (Sl.nil_ h4) fun b hb => ⟨b, rfl, ?_⟩
  have hbt : b = true := hb.2 ⟨rfl, rfl, rfl, by decide, by decide, by decide, rfl, rfl⟩
  subst hbt
  refine hk bb db F3 h4 (hB3.le ho.le) (hS3.le ho.le) (GH.le_trans hl3 ho.le) (fun b hb => ?_) ?_
  · rcases st3.fresh b hb with h5 | h5
    · exact hF1 b h5
    · cases hx : h b with
      | none => rfl
      | some o => rw [hl2 _ _ (hl1 _ _ hx)] at h5; exact absurd h5 (by simp)
  · cases hx : h db with
    | none => rfl
    | some o => rw [hl1 _ _ hx] at hdb; exact absurd hdb (by simp)
end Go.Proofs.Ytjieepgapjbjlaa.G
