/- NotesNumbers: the law's own contract. -/
import Derived.Test.YtjieepgapjbjlaaNJ
import Derived.Test.YtjieepgapjbjlaaVN
namespace Go.Proofs.Ytjieepgapjbjlaa.G
open Go.Gv
set_option linter.unusedVariables false
set_option linter.unusedSimpArgs false
set_option maxRecDepth 100000

theorem stays_open {ds : List Elem} {ns : List (Int × Note)} (h : ∀ q ∈ ns, q.2.shut = false) : ns.filter (stays ds) = ns := List.filter_eq_self.2 fun q hq => by simp [stays, h q hq]

theorem find_no {ns : List (Int × Note)} {id : Int} (h : ∀ q ∈ ns, q.1 ≠ id) : findN id ns = none := by
  induction ns with
  | nil => rfl
  | cons q ns ih =>
    obtain ⟨i, nt⟩ := q
    have : ¬ id = i := fun e => h (i, nt) (by simp) e.symm
    rw [findN, if_neg this]
    exact ih fun q hq => h q (by simp [hq])

def esN : List Elem := ((textL 3).take (2 : Int).toNat).drop (0 : Int).toNat

theorem numbers_ok {K : Value → GH → Prop} {h : GH} {sw : List Bool} {sa : Option Addr} {sn sc : Nat} (hs : SlA kBool [] h sa sn sc sw) (hk : ∀ h', K (.bool true) h') :
    GC pr n_jotterlaw23_NotesNumbers [.slice sa sn sc] h K := by
  refine ok_jotterlaw23_NotesNumbers ?_
  unfold s_jotterlaw23_NotesNumbers
  have hsn := hs.n_eq
  have hwd : wordedE 1 (ByteArray.mk #[110]) = 0 := by decide
  have hwr : wordedE 1 (ByteArray.mk #[114]) = 0 := by decide
  have hl3 : (textL 3).length = 3 := textL_length 3
  refine new_ok fun bb F h1 hB1 hl1 hF1 => ⟨_, rfl, br_no rfl ?_⟩
  have hs1 := hs.far (by decide) hl1 hF1
  refine text_ok (n := 3) (by omega) fun da dc h2 ho2 => ⟨_, _, _, rfl, ?_⟩
  have hd2 : SlF kElem F h2 da 3 dc (textL 3) := ho2.slf fun b hb => hB1.block hb
  refine LoopP.intro (fun t h' => ∃ (i : Nat) (ns : List (Int × Note)) (F : List Nat), t = ((sa, sn, sc), some ⟨bb, 0, none⟩, (da, 3, dc), ((ns.length : Nat) : Int), ((i + 1 : Nat) : Int), ()) ∧ i ≤ 256 ∧ ns.length ≤ i ∧ BrdAt h' bb ⟨(i : Int), ns⟩ F ∧
      SlF kElem F h' da 3 dc (textL 3) ∧ SlA kBool F h' sa sn sc sw ∧ (∀ q ∈ ns, q.2.shut = false) ∧ (∀ q ∈ ns, q.2.replies = []))
    (fun t _ => 257 - t.2.2.2.2.1.toNat) ⟨0, [], F, rfl, by omega, by simp, hB1.le ho2.le, hd2, hs1.le ho2.le, by simp, by simp⟩ ?_
  rintro t h3 ⟨i, ns, F, rfl, hi, hlen, hB3, hd3, hs3, hopen, hrep⟩
  unfold s_jotterlaw23_NotesNumbers_l1 s_jotterlaw23_NotesNumbers_k1
  dsimp only
  refine br_dec (fun hlt => ?_) fun hge => ?_
  · refine Put_ok hB3 hd3 (by omega) (fun h => by omega) (fun _ _ _ h => absurd hwd h) (fun _ _ _ _ h => by dsimp only at h; omega) fun _ _ _ _ _ h4 F4 hB4 st4 => ⟨_, _, rfl, br_no (by simp) (br_no rfl ?_)⟩
    have hd4 := hd3.step (by decide) st4
    have hs4 := hs3.step (by decide) st4
    have hB4' : BrdAt h4 bb ⟨((i + 1 : Nat) : Int), ns ++ [(((i + 1 : Nat) : Int), ⟨esN, 1, ByteArray.mk #[110], false, []⟩)]⟩ F4 := hB4
    have hids := hB3.ids
    have hno : ∀ q ∈ ns, q.1 ≠ ((i + 1 : Nat) : Int) := fun q hq => by have := (hids q hq).2; dsimp only at this; omega
    have hrep4 : ∀ q ∈ ns ++ [(((i + 1 : Nat) : Int), (⟨esN, 1, ByteArray.mk #[110], false, []⟩ : Note))], q.2.replies = [] := fun q hq => by
      rcases List.mem_append.1 hq with hq | hq
      · exact hrep q hq
      · simp only [List.mem_cons, List.not_mem_nil, or_false] at hq; subst hq; rfl
    have hopen4 : ∀ q ∈ ns ++ [(((i + 1 : Nat) : Int), (⟨esN, 1, ByteArray.mk #[110], false, []⟩ : Note))], q.2.shut = false := fun q hq => by
      rcases List.mem_append.1 hq with hq | hq
      · exact hopen q hq
      · simp only [List.mem_cons, List.not_mem_nil, or_false] at hq; subst hq; rfl
    have ht1 : w64 (((ns.length : Nat) : Int) + 1) = ((ns.length + 1 : Nat) : Int) := step64 (by omega)
    have ht0 : w64 (((ns.length + 1 : Nat) : Int) - 1) = ((ns.length : Nat) : Int) := by rw [w64_i (by omega) (by omega)]; omega
    have hin : w64 (((i + 1 : Nat) : Int) + 1) = ((i + 1 + 1 : Nat) : Int) := step64 (by omega)
    have hiw : w64 (((i + 1 : Nat) : Int) - 1) = ((i : Nat) : Int) := by rw [w64_i (by omega) (by omega)]; omega
    rw [ht1, ht0, hin, hiw]
    -- it stays
    have here : ∀ {h5 : GH}, h4 = h5 → GC pr n_notes_Board_All [.pointer (some ⟨bb, 0, none⟩), .slice da 3 dc] h5 fun v h' => ∃ (xa : Option Addr) (xn : Nat) (xc : Nat), v = (.slice xa xn xc : Value) ∧ br (((xn : Nat) : Int) != ((ns.length + 1 : Nat) : Int)) (K (.bool false) h')
        ((∃ (i' : Nat) (ns' : List (Int × Note)) (F : List Nat), (((sa, sn, sc), some (⟨bb, 0, none⟩ : Addr), (da, 3, dc), ((ns.length + 1 : Nat) : Int), ((i + 1 + 1 : Nat) : Int), ()) : (Option Addr × Nat × Nat) × Option Addr × (Option Addr × Nat × Nat) × Int × Int × Unit) = ((sa, sn, sc), some ⟨bb, 0, none⟩, (da, 3, dc), ((ns'.length : Nat) : Int), ((i' + 1 : Nat) : Int), ()) ∧ i' ≤ 256 ∧ ns'.length ≤ i' ∧ BrdAt h' bb ⟨(i' : Int), ns'⟩ F ∧
          SlF kElem F h' da 3 dc (textL 3) ∧ SlA kBool F h' sa sn sc sw ∧ (∀ q ∈ ns', q.2.shut = false) ∧ (∀ q ∈ ns', q.2.replies = [])) ∧ 257 - (((i + 1 + 1 : Nat) : Int)).toNat < 257 - (((i + 1 : Nat) : Int)).toNat) := by
      rintro h5 rfl
      refine All_ok hB4' hd4.sl (by omega) (by simp; omega) (fun q hq => by rw [hrep4 q hq]; simp) fun a c h6 ss hss _ => ⟨_, _, _, rfl, br_no (by simp) ?_⟩
      exact ⟨⟨i + 1, _, F4, by simp, by omega, by simp; omega, hB4'.le hss.le, hd4.le hss.le, hs4.le hss.le, hopen4, hrep4⟩, by omega⟩
    refine br_dec (fun h5 => ?_) fun _ => here rfl
    have hisw : i < sw.length := by omega
    refine hs4.idx hisw fun p hp => ⟨_, hp, br_of (fun hsw => ?_) fun _ => here rfl⟩
    have hf4 : findN ((i + 1 : Nat) : Int) (ns ++ [(((i + 1 : Nat) : Int), (⟨esN, 1, ByteArray.mk #[110], false, []⟩ : Note))]) = some ⟨esN, 1, ByteArray.mk #[110], false, []⟩ := find_mem (q := (((i + 1 : Nat) : Int), ⟨esN, 1, ByteArray.mk #[110], false, []⟩)) hB4'.uniq (by simp)
    refine shut_ok hB4' (fun h => by dsimp only at h; rw [hf4] at h; simp at h) (fun nt h1 h2 => by dsimp only at h1; rw [hf4] at h1; rw [← Option.some.inj h1] at h2; simp at h2) fun nt h5 F5 _ _ hB5 st5 => ⟨_, rfl, br_no rfl ?_⟩
    dsimp only at hB5
    rw [setN_at (n2 := []) hB4'.uniq] at hB5
    dsimp only at hB5
    have hd5 := hd4.step (by decide) st5
    have hs5 := hs4.step (by decide) st5
    have hall : (ns ++ [(((i + 1 : Nat) : Int), (⟨esN, 1, ByteArray.mk #[110], true, []⟩ : Note))]).filter (stays (textL 3)) = ns ++ [(((i + 1 : Nat) : Int), (⟨esN, 1, ByteArray.mk #[110], true, []⟩ : Note))] := by
      rw [List.filter_append, stays_open hopen]
      congr 1
    have hone : (ns ++ [(((i + 1 : Nat) : Int), (⟨esN, 1, ByteArray.mk #[110], true, []⟩ : Note))]).filter (stays ((textL 3).drop 2)) = ns := by
      rw [List.filter_append, stays_open hopen]
      have : [(((i + 1 : Nat) : Int), (⟨esN, 1, ByteArray.mk #[110], true, []⟩ : Note))].filter (stays ((textL 3).drop 2)) = [] := rfl
      rw [this, List.append_nil]
    refine Sweep_ok hB5 hd5 (by omega) (by simp; omega) fun h6 F6 hB6 st6 => ?_
    dsimp only at hB6 ⊢
    rw [hall] at hB6 ⊢
    refine ⟨_, rfl, br_no (by simp) ⟨by omega, by omega, ?_⟩⟩
    have hd6 := hd5.step (by decide) st6
    have hs6 := hs5.step (by decide) st6
    have hcut : SlF kElem F6 h6 (cutA da ((2 : Int).toNat) dc 3) (3 - (2 : Int).toNat) (dc - (2 : Int).toNat) ((textL 3).drop 2) := ⟨hd6.sl.from (l := 2) (by omega), fun p hp _ => by
      unfold cutA at hp
      split at hp
      · exact hd6.far p hp (by simp [textL])
      · cases hda : da with
        | none => rw [hda] at hp; simp at hp
        | some q =>
          rw [hda] at hp
          simp only [Option.map_some, Option.some.injEq] at hp
          subst hp
          have := hd6.far q hda (by simp [textL])
          rw [addr_add (hd6.sl.spot q hda)]
          exact this⟩
    refine Sweep_ok hB6 hcut (by simp [textL]) (by simp; omega) fun h7 F7 hB7 st7 => ?_
    dsimp only at hB7 ⊢
    rw [hone] at hB7 ⊢
    have hcnt : (((ns ++ [(((i + 1 : Nat) : Int), (⟨esN, 1, ByteArray.mk #[110], true, []⟩ : Note))]).length - ns.length : Nat) : Int) = 1 := by simp
    rw [hcnt]
    refine ⟨_, rfl, br_no rfl ?_⟩
    have hd7 := hd6.step (by decide) st7
    have hs7 := hs6.step (by decide) st7
    refine Look_ok hB7 hd7.sl (by omega) (fun _ => ⟨_, _, _, _, _, _, _, _, _, _, _, rfl, br_no rfl ?_⟩) fun nt h1 => by dsimp only at h1; rw [find_no hno] at h1; simp at h1
    refine shut_ok hB7 (fun _ => ⟨_, rfl, br_no rfl ?_⟩) (fun nt h1 _ => by dsimp only at h1; rw [find_no hno] at h1; simp at h1) fun nt _ _ h1 _ _ _ => by dsimp only at h1; rw [find_no hno] at h1; simp at h1
    refine reply_ok hB7 (fun _ => ⟨_, rfl, br_no rfl ?_⟩) (fun nt h1 _ => by dsimp only at h1; rw [find_no hno] at h1; simp at h1) (fun nt h1 _ _ => by dsimp only at h1; rw [find_no hno] at h1; simp at h1) fun nt h1 _ _ => by dsimp only at h1; rw [find_no hno] at h1; simp at h1
    refine All_ok hB7 hd7.sl (by omega) (by dsimp only; omega) (fun q hq => by rw [hrep q hq]; simp) fun a c h8 ss hss _ => ⟨_, _, _, rfl, br_no (by simp) ?_⟩
    exact ⟨⟨i + 1, ns, F7, rfl, by omega, by omega, hB7.le hss.le, hd7.le hss.le, hs7.le hss.le, hopen, hrep⟩, by omega⟩
  · have hi2 : i = 256 := by omega
    subst hi2
    refine Put_ok hB3 hd3 (by omega) (fun h => by omega) (fun _ _ _ h => absurd hwd h) (fun _ _ _ _ _ => ⟨_, _, rfl, br_no rfl (br_no rfl ?_)⟩) fun _ _ _ _ h => by dsimp only at h; omega
    refine Sweep_ok (ds := []) hB3 ⟨Sl.nil_ h3, fun p hp => by simp at hp⟩ (by simp) (by dsimp only; omega) fun h4 F4 hB4 st4 => ⟨_, rfl, ?_⟩
    dsimp only at hB4
    rw [stays_open hopen] at hB4
    have hd4 := hd3.step (by decide) st4
    refine Put_ok hB4 hd4 (by omega) (fun h => by omega) (fun _ _ _ h => absurd hwd h) (fun _ _ _ _ _ => ⟨_, _, rfl, br_yes rfl (br_yes rfl ?_)⟩) fun _ _ _ _ h => by dsimp only at h; omega
    refine All_ok (ds := []) hB4 (Sl.nil_ h4) (by simp) (by dsimp only; omega) (fun q hq => by rw [hrep q hq]; simp) fun a c h5 ss hss _ => ⟨_, _, _, rfl, ?_⟩
    have : (((ns.length : Nat) : Int) == ((ns.length : Nat) : Int)) = true := by simp
    dsimp only
    rw [this]
    exact hk _
end Go.Proofs.Ytjieepgapjbjlaa.G
