/- NotesTwice: the law's own contract. -/
import Derived.Test.YtjieepgapjbjlaaLF
import Derived.Test.YtjieepgapjbjlaaVU
namespace Go.Proofs.Ytjieepgapjbjlaa.G
open Go.Gv
set_option linter.unusedVariables false
set_option linter.unusedSimpArgs false
set_option maxRecDepth 100000

/-- From and To over a beginning of a text, and what stands there. -/
def SpanI (f : Elem → Bool) (pre : List Elem) (r : Int × Int) : Prop :=
  (pre.filter f = [] ∧ r = (0, 0)) ∨ ∃ a b : Nat, r = ((a : Int), (b : Int) + 1) ∧ a ≤ b ∧ b < pre.length ∧ pre.filter f ≠ [] ∧ pre[a]? = (pre.filter f).head? ∧ pre[b]? = (pre.filter f).getLast?

theorem span_step {f : Elem → Bool} {pre : List Elem} {r : Int × Int} {x : Elem} (h : SpanI f pre r) : SpanI f (pre ++ [x]) (if f x then ((if r.2 = 0 then (pre.length : Int) else r.1), (pre.length : Int) + 1) else r) := by
  cases hx : f x with
  | false =>
    simp only [Bool.false_eq_true, if_false]
    have e : (pre ++ [x]).filter f = pre.filter f := by simp [List.filter_append, hx]
    rcases h with ⟨h1, h2⟩ | ⟨a, b, h1, h2, h3, h4, h5, h6⟩
    · exact .inl ⟨by rw [e]; exact h1, h2⟩
    · exact .inr ⟨a, b, h1, h2, by rw [List.length_append]; omega, by rw [e]; exact h4, by rw [e, List.getElem?_append_left (by omega)]; exact h5, by rw [e, List.getElem?_append_left (by omega)]; exact h6⟩
  | true =>
    simp only [if_true]
    have e : (pre ++ [x]).filter f = pre.filter f ++ [x] := by simp [List.filter_append, hx]
    rcases h with ⟨h1, h2⟩ | ⟨a, b, h1, h2, h3, h4, h5, h6⟩
    · refine .inr ⟨pre.length, pre.length, by rw [h2]; simp, by omega, by simp, by rw [e]; simp, ?_, ?_⟩
      · rw [e, h1]; simp
      · rw [e, h1]; simp
    · refine .inr ⟨a, pre.length, ?_, by omega, by simp, by rw [e]; simp, ?_, ?_⟩
      · rw [h1]; simp only; rw [if_neg (by omega)]
      · rw [e, List.getElem?_append_left (by omega), h5]
        cases hf : pre.filter f with
        | nil => exact absurd hf h4
        | cons y l => rfl
      · rw [e]; simp

theorem span_all {f : Elem → Bool} (xs : List Elem) : ∀ {pre : List Elem} {r : Int × Int}, SpanI f pre r → SpanI f (pre ++ xs) (spanL f xs pre.length r) := by
  induction xs with
  | nil => intro pre r h; simpa [spanL] using h
  | cons x xs ih =>
    intro pre r h
    have h1 := span_step (x := x) h
    have h2 := ih h1
    rw [List.append_assoc, List.singleton_append] at h2
    rw [spanL]
    rw [List.length_append, List.length_singleton] at h2
    exact h2

theorem span_spec (es ds : List Elem) : SpanI (holdsB es) ds (spanOf es ds) := by
  have := span_all (f := holdsB es) ds (pre := []) (r := (0, 0)) (.inl ⟨rfl, rfl⟩)
  simpa [spanOf] using this

theorem put_ok {K : Value → GH → Prop} {h : GH} {bb : Nat} {B : Brd} {F : List Nat} (hB : BrdAt h bb B F) {da : Option Addr} {dn dc : Nat} {ds : List Elem} (hd : SlF kElem F h da dn dc ds) {f0 t0 : Int}
    (hne : 0 < ds.length) (hds : ds.length ≤ 4096) (hg : B.given < 256)
    (hk : ∀ (f t : Nat) h' F', f < t → t ≤ ds.length → BrdAt h' bb (putNote B ((ds.take t).drop f) 5 (ByteArray.mk #[119])) F' → Step F F' h h' → K (.tuple ⟨[.int .i64 (B.given + 1), .int .i64 0]⟩) h') :
    GC pr n_jotterlaw23_put [.pointer (some ⟨bb, 0, none⟩), .slice da dn dc, .int .i64 f0, .int .i64 t0] h K := by
  have hlen := hd.sl.n_eq
  refine ok_jotterlaw23_put ?_
  unfold s_jotterlaw23_put
  refine br_eq (fun h => by omega) fun _ => ?_
  rw [w64_i (n := ((dn : Nat) : Int) - 1) (by omega) (by omega)]
  refine within_ok (by omega) (by omega) (by omega) fun f' hf0 hf1 => ⟨_, rfl, ?_⟩
  obtain ⟨f, rfl⟩ := Int.eq_ofNat_of_zero_le hf0
  rw [step64 (i := f) (by omega)]
  refine within_ok (by omega) (by omega) (by omega) fun t' ht0 ht1 => ⟨_, rfl, ?_⟩
  obtain ⟨t, rfl⟩ := Int.eq_ofNat_of_zero_le (show 0 ≤ t' by omega)
  have hwd : wordedE 5 (ByteArray.mk #[119]) = 0 := by decide
  refine Put_ok hB hd (by omega) (fun h => by omega) (fun _ _ _ h => absurd hwd h) (fun _ _ _ _ h => by omega) fun _ _ _ _ _ h' F' hB' st => ⟨_, _, rfl, ?_⟩
  rw [Int.toNat_natCast, Int.toNat_natCast] at hB'
  exact hk f t h' F' (by omega) (by omega) hB' st

def tailT (K : Value → GH → Prop) (b : Option Addr) (da : Option Addr) (dn : Nat) (dc : Nat) (ca : Option Addr) (cn : Nat) (cc : Nat) (h : GH) : Prop :=
  (GC pr n_notes_Board_Look [.pointer b, .slice da dn dc, .int .i64 1] h fun v_183 h_184 =>
    ∃ (x_ID185 : Int), ∃ (x_Client186 : Int), ∃ (x_Words187 : ByteArray), ∃ (x_From188 : Int), ∃ (x_To189 : Int), ∃ (x_Gone190 : Bool), ∃ (x_Shut191 : Bool), ∃ (x_Replies192a : Option Addr)
    (x_Replies192n : Nat) (x_Replies192c : Nat), ∃ (x_193 : Int), v_183 = (.tuple ⟨[.agg ⟨[.int .i64 x_ID185, .int .i64 x_Client186, .string x_Words187, .int .i64 x_From188, .int .i64 x_To189, .bool x_Gone190, .bool x_Shut191, .slice x_Replies192a x_Replies192n x_Replies192c]⟩, .int .i64 x_193]⟩ : Value) ∧
    GC pr n_notes_Board_Look [.pointer b, .slice ca cn cc, .int .i64 1] h_184 fun v_194 h_195 =>
    ∃ (x_ID196 : Int), ∃ (x_Client197 : Int), ∃ (x_Words198 : ByteArray), ∃ (x_From199 : Int), ∃ (x_To200 : Int), ∃ (x_Gone201 : Bool), ∃ (x_Shut202 : Bool), ∃ (x_Replies203a : Option Addr)
    (x_Replies203n : Nat) (x_Replies203c : Nat), ∃ (x_204 : Int), v_194 = (.tuple ⟨[.agg ⟨[.int .i64 x_ID196, .int .i64 x_Client197, .string x_Words198, .int .i64 x_From199, .int .i64 x_To200, .bool x_Gone201, .bool x_Shut202, .slice x_Replies203a x_Replies203n x_Replies203c]⟩, .int .i64 x_204]⟩ : Value) ∧
    br (x_193 != 0) (K (.bool false) h_195) (br (x_204 != 0) (K (.bool false) h_195)
      (br (!(x_Gone190 == x_Gone201)) (K (.bool false) h_195)
        (br x_Gone190 (br (x_From188 == 0) (br (x_To189 == 0)
              (br (x_From199 == 0) (K (.bool (x_To200 == 0)) h_195)
                (K (.bool false) h_195)) (K (.bool false) h_195))
            (K (.bool false) h_195)) (br (decide (x_From188 < 0))
            (K (.bool false) h_195) (br (decide (x_From188 ≥ x_To189))
              (K (.bool false) h_195) (br (decide (x_To189 > ((dn : Nat) : Int)))
                (K (.bool false) h_195) (br (decide (x_From199 < 0))
                  (K (.bool false) h_195) (br (decide (x_From199 ≥ x_To200))
                    (K (.bool false) h_195) (br (decide (x_To200 > ((cn : Nat) : Int)))
                      (K (.bool false) h_195) (0 ≤ x_From188 ∧
                        x_From188 < ((dn : Nat) : Int) ∧ nn da fun p205 =>
                        ∃ (x_Ch206 : Int), ∃ (x_Client207 : Int), ∃ (x_Seq208 : Int), Rds h_195 (Addr.add p205 (x_From188.toNat * 3)) [.int .u8 x_Ch206, .int .i64 x_Client207, .int .i64 x_Seq208] ∧
                        0 ≤ x_From199 ∧ x_From199 < ((cn : Nat) : Int) ∧
                        nn ca fun p209 => ∃ (x_Ch210 : Int), ∃ (x_Client211 : Int), ∃ (x_Seq212 : Int), Rds h_195 (Addr.add p209 (x_From199.toNat * 3)) [.int .u8 x_Ch210, .int .i64 x_Client211, .int .i64 x_Seq212] ∧
                        br ((x_Ch206 == x_Ch210) && ((x_Client207 == x_Client211) && (x_Seq208 == x_Seq212)))
                        (0 ≤ w64 (x_To189 - 1) ∧ w64 (x_To189 - 1) < ((dn : Nat) : Int) ∧
                        nn da fun p213 => ∃ (x_Ch214 : Int), ∃ (x_Client215 : Int), ∃ (x_Seq216 : Int), Rds h_195 (Addr.add p213 ((w64 (x_To189 - 1)).toNat * 3)) [.int .u8 x_Ch214, .int .i64 x_Client215, .int .i64 x_Seq216] ∧
                        0 ≤ w64 (x_To200 - 1) ∧ w64 (x_To200 - 1) < ((cn : Nat) : Int) ∧
                        nn ca fun p217 => ∃ (x_Ch218 : Int), ∃ (x_Client219 : Int), ∃ (x_Seq220 : Int), Rds h_195 (Addr.add p217 ((w64 (x_To200 - 1)).toNat * 3)) [.int .u8 x_Ch218, .int .i64 x_Client219, .int .i64 x_Seq220] ∧
                        K (.bool ((x_Ch214 == x_Ch218) && ((x_Client215 == x_Client219) && (x_Seq216 == x_Seq220)))) h_195)
                        (K (.bool false) h_195))))))))))))

theorem findU {n : Note} {g : Int} : findN 1 (Brd.mk g [(1, n)]).notes = some n := by simp [findN]
theorem findU' {n m : Note} {g : Int} (h : findN 1 (Brd.mk g [(1, n)]).notes = some m) : m = n := by rw [findU] at h; exact (Option.some.inj h).symm

theorem tail_ok {K : Value → GH → Prop} {h : GH} {bb : Nat} {F : List Nat} {es : List Elem} {g : Int} {w : ByteArray} {c5 : Int} {da : Option Addr} {dn dc : Nat} {ds : List Elem} {ca : Option Addr} {cn cc : Nat} {cs : List Elem}
    (hB : BrdAt h bb ⟨g, [(1, ⟨es, c5, w, false, []⟩)]⟩ F) (hd : Sl kElem h da dn dc ds) (hc : Sl kElem h ca cn cc cs) (hdl : ds.length ≤ 10000) (hcl : cs.length ≤ 10000)
    (he : cs.filter (holdsB es) = ds.filter (holdsB es)) (hk : ∀ h', K (.bool true) h') : tailT K (some ⟨bb, 0, none⟩) da dn dc ca cn cc h := by
  unfold tailT
  have hdn := hd.n_eq
  have hcn := hc.n_eq
  refine Look_ok hB hd (by omega) (fun h => by rw [findU] at h; simp at h) fun nt hnt => ?_
  rw [findU' hnt]
  refine ⟨by simp, fun a1 c1 h1 ho1 => ⟨_, _, _, _, _, _, _, _, _, _, _, rfl, ?_⟩⟩
  refine Look_ok (hB.le ho1.le) (hc.le ho1.le) (by omega) (fun h => by rw [findU] at h; simp at h) fun nt hnt => ?_
  rw [findU' hnt]
  refine ⟨by simp, fun a2 c2 h2 ho2 => ⟨_, _, _, _, _, _, _, _, _, _, _, rfl, br_no rfl (br_no rfl ?_)⟩⟩
  dsimp only
  have hd2 := (hd.le ho1.le).le ho2.le
  have hc2 := (hc.le ho1.le).le ho2.le
  rcases span_spec es ds with ⟨h1, h2⟩ | ⟨a, b, e1, e2, e3, e4, e5, e6⟩
  · rcases span_spec es cs with ⟨h3, h4⟩ | ⟨a', b', e1', e2', e3', e4', e5', e6'⟩
    · rw [h2, h4]
      exact br_no rfl (br_yes rfl (br_yes rfl (br_yes rfl (br_yes rfl (hk _)))))
    · rw [he] at e4'; exact absurd h1 e4'
  · rcases span_spec es cs with ⟨h3, h4⟩ | ⟨a', b', e1', e2', e3', e4', e5', e6'⟩
    · rw [he] at h3; exact absurd h3 e4
    · rw [e1, e1']
      dsimp only
      have z1 : (((b : Int) + 1) == 0) = false := by simp; omega
      have z2 : (((b' : Int) + 1) == 0) = false := by simp; omega
      rw [z1, z2]
      have w1 : w64 ((b : Int) + 1 - 1) = ((b : Nat) : Int) := by rw [w64_i (by omega) (by omega)]; omega
      have w2 : w64 ((b' : Int) + 1 - 1) = ((b' : Nat) : Int) := by rw [w64_i (by omega) (by omega)]; omega
      rw [w1, w2]
      refine br_no rfl (br_no rfl (br_dec (fun h => by omega) fun _ => br_dec (fun h => by omega) fun _ => br_dec (fun h => by omega) fun _ => br_dec (fun h => by omega) fun _ => br_dec (fun h => by omega) fun _ => br_dec (fun h => by omega) fun _ => ?_))
      have ha : a < ds.length := by omega
      have ha' : a' < cs.length := by omega
      rw [he] at e5' e6'
      have q1 : ds[a] = cs[a'] := by
        have : ds[a]? = cs[a']? := by rw [e5, e5']
        rw [List.getElem?_eq_getElem ha, List.getElem?_eq_getElem ha'] at this
        exact Option.some.inj this
      have q2 : ds[b] = cs[b'] := by
        have : ds[b]? = cs[b']? := by rw [e6, e6']
        rw [List.getElem?_eq_getElem e3, List.getElem?_eq_getElem e3'] at this
        exact Option.some.inj this
      refine hd2.idx ha fun p hp => ⟨_, _, _, hp, ?_⟩
      refine hc2.idx ha' fun p hp => ⟨_, _, _, hp, ?_⟩
      refine br_yes (by rw [q1]; simp) ?_
      refine hd2.idx e3 fun p hp => ⟨_, _, _, hp, ?_⟩
      refine hc2.idx e3' fun p hp => ⟨_, _, _, hp, ?_⟩
      have : ((ds[b].ch == cs[b'].ch) && ((ds[b].client == cs[b'].client) && (ds[b].seq == cs[b'].seq))) = true := by rw [q2]; simp
      rw [this]
      exact hk _

theorem filter_ins {f : Elem → Bool} {cs : List Elem} {pos : Nat} {x : Elem} (hx : f x = false) : (turnL cs pos false x).filter f = cs.filter f := by
  simp only [turnL, Bool.false_eq_true, if_false, List.filter_append, List.filter_cons, hx]
  rw [← List.filter_append, List.take_append_drop]

theorem twice_ok {K : Value → GH → Prop} {h : GH} {turns more : List Turn} {ta : Option Addr} {tn tc : Nat} {ma : Option Addr} {mn mc : Nat} {n f0 t0 : Int} (hs : SlA kTurn [] h ta tn tc turns) (hm : SlA kTurn [] h ma mn mc more) (hk : ∀ h', K (.bool true) h') :
    GC pr n_jotterlaw23_NotesTwice [.int .i64 n, .int .i64 f0, .int .i64 t0, .slice ta tn tc, .slice ma mn mc] h K := by
  refine ok_jotterlaw23_NotesTwice ?_
  unfold s_jotterlaw23_NotesTwice
  have htn := hs.n_eq
  have hmn := hm.n_eq
  refine within_ok (by omega) (by omega) (by omega) fun N' hN0 hN1 => ⟨_, rfl, ?_⟩
  obtain ⟨N, rfl⟩ := Int.eq_ofNat_of_zero_le (show 0 ≤ N' by omega)
  refine text_ok (by omega) fun da dc h1 ho1 => ⟨_, _, _, rfl, ?_⟩
  refine new_ok fun bb F h2 hB2 hl2 hF2 => ⟨_, rfl, br_no rfl ?_⟩
  have hd2 : SlF kElem F h2 da N dc (textL N) := sl_far (by decide) ho1.sl hl2 hF2
  have hs2 : SlA kTurn F h2 ta tn tc turns := (hs.le ho1.le).far (by decide) hl2 hF2
  have hm2 : SlA kTurn F h2 ma mn mc more := (hm.le ho1.le).far (by decide) hl2 hF2
  refine put_ok hB2 hd2 (by rw [textL_length]; omega) (by rw [textL_length]; omega) (by simp) fun f t h3 F3 hft htN hB3 st3 => ⟨_, _, rfl, br_no rfl (br_no rfl ?_)⟩
  rw [textL_length] at htN
  have hd3 := hd2.step (by decide) st3
  have hs3 := hs2.step (by decide) st3
  have hm3 := hm2.step (by decide) st3
  generalize hes : ((textL N).take t).drop f = es at hB3
  have hins : ∀ k, holdsB es (insE k) = false := fun k => by rw [← hes]; exact holds_ins (by omega) (by omega) k
  refine LoopP.intro (fun s h' => ∃ (k : Nat) (da : Option Addr) (dn dc : Nat) (ds : List Elem), s = ((ta, tn, tc), (ma, mn, mc), (da, dn, dc), some ⟨bb, 0, none⟩, (k : Int), ()) ∧ k ≤ 1000 ∧ ds.length ≤ 200 + k ∧
      BrdAt h' bb (putNote ⟨0, []⟩ es 5 (ByteArray.mk #[119])) F3 ∧ Sl kElem h' da dn dc ds ∧ SlA kTurn F3 h' ta tn tc turns ∧ SlA kTurn F3 h' ma mn mc more)
    (fun s _ => 1000 - s.2.2.2.2.1.toNat) ⟨0, da, N, dc, textL N, rfl, by omega, by rw [textL_length]; omega, hB3, hd3.sl, hs3, hm3⟩ ?_
  rintro s h5 ⟨k, da, dn, dc, ds, rfl, hk0, hdl, hB5, hd5, hs5, hm5⟩
  unfold s_jotterlaw23_NotesTwice_l1
  dsimp only
  refine br_dec (fun hlt => br_dec (fun hlt2 => ?round) fun _ => ?l2) fun _ => ?l3
  case round =>
    refine hs5.idx (i := k) (by omega) fun p hp => ⟨_, _, hp, ?_⟩
    refine turned_ok hd5 (by omega) (by omega) fun pos o da' dn' dc' h6 hp0 hp1 _ ho6 => ⟨_, _, _, _, _, _, rfl, br_no rfl ?_⟩
    have hle := turnL_length (ds := ds) (pos := pos) (out := o) (x := insE k) hp0
    rw [step64 (by omega)]
    exact ⟨⟨k + 1, da', dn', dc', _, rfl, by omega, by omega, hB5.le ho6.le, ho6.sl, hs5.le ho6.le, hm5.le ho6.le⟩, by omega⟩
  all_goals
    refine LoopP.intro (fun s h' => ∃ (k : Nat) (ca : Option Addr) (cn cc : Nat) (cs : List Elem), s = ((ma, mn, mc), (da, dn, dc), some ⟨bb, 0, none⟩, (ca, cn, cc), (k : Int), ()) ∧ k ≤ 1000 ∧ cs.length ≤ 1200 + k ∧
        BrdAt h' bb (putNote ⟨0, []⟩ es 5 (ByteArray.mk #[119])) F3 ∧ Sl kElem h' da dn dc ds ∧ Sl kElem h' ca cn cc cs ∧ SlA kTurn F3 h' ma mn mc more ∧ cs.filter (holdsB es) = ds.filter (holdsB es))
      (fun s _ => 1000 - s.2.2.2.2.1.toNat) ⟨0, da, dn, dc, ds, rfl, by omega, by omega, hB5, hd5, hd5, hm5, rfl⟩ ?_
    rintro s h6 ⟨i, ca, cn, cc, cs, rfl, hi0, hcl, hB6, hd6, hc6, hm6, he6⟩
    first
      | unfold s_jotterlaw23_NotesTwice_l2 s_jotterlaw23_NotesTwice_k1
      | unfold s_jotterlaw23_NotesTwice_l3 s_jotterlaw23_NotesTwice_k2
    dsimp only
    refine br_dec (fun hlt3 => br_dec (fun hlt4 => ?_) fun _ => tail_ok hB6 hd6 hc6 (by omega) (by omega) he6 hk) fun _ => tail_ok hB6 hd6 hc6 (by omega) (by omega) he6 hk
    have himore : i < more.length := by omega
    refine hm6.idx himore fun p hp => ⟨more[i].n, hp.sub (n := 1) (fun j v hv => ?_), ?_⟩
    · match j, hv with
      | 0, hv => simpa [kTurn] using hv
      | j + 1, hv => simp at hv
    · have ek : w64 ((1000 : Int) + (i : Int)) = ((1000 + i : Nat) : Int) := by rw [w64_i (by omega) (by omega)]; omega
      rw [ek]
      refine turned_ok hc6 (by omega) (by omega) fun pos o ca' cn' cc' h7 hp0 hp1 ho ho7 => ⟨_, _, _, _, _, _, rfl, br_no rfl ?_⟩
      have ho' := ho rfl
      subst ho'
      have hle := turnL_length (ds := cs) (pos := pos) (out := false) (x := insE (1000 + i)) hp0
      rw [step64 (by omega)]
      exact ⟨⟨i + 1, ca', cn', cc', _, rfl, by omega, by omega, hB6.le ho7.le, hd6.le ho7.le, ho7.sl, hm6.le ho7.le, by rw [filter_ins (hins _)]; exact he6⟩, by omega⟩
end Go.Proofs.Ytjieepgapjbjlaa.G
