/- The law's own small functions: within, text, doc's Apply, turned, follow, where: contracts. -/
import Derived.Test.YtjieepgapjbjlaaNE
namespace Go.Proofs.Ytjieepgapjbjlaa.G
open Go.Gv
set_option linter.unusedVariables false
set_option linter.unusedSimpArgs false
set_option maxRecDepth 100000

structure Turn where
  out : Bool
  n : Int
def kTurn : Kind Turn := ⟨2, fun t => [.bool t.out, .int .i64 t.n], fun _ => rfl, fun _ => rfl⟩
def kInt : Kind Int := ⟨1, fun t => [.int .i64 t], fun _ => rfl, fun _ => rfl⟩

theorem within_ok {K : Value → GH → Prop} {h : GH} {v lo hi : Int} (h0 : 0 ≤ lo) (h1 : lo ≤ hi) (h2 : hi ≤ 1000000) (hk : ∀ r, lo ≤ r → r ≤ hi → K (.int .i64 r) h) : GC pr n_jotterlaw23_within [.int .i64 v, .int .i64 lo, .int .i64 hi] h K := by
  refine ok_jotterlaw23_within ?_
  unfold s_jotterlaw23_within
  have e1 : w64 (w64 (hi - lo) + 1) = hi - lo + 1 := by rw [w64_i (n := hi - lo) (by omega) (by omega), w64_i (by omega) (by omega)]
  rw [e1]
  have h3 : v.tmod (hi - lo + 1) < hi - lo + 1 := Int.tmod_lt_of_pos v (by omega)
  have h4 : -(hi - lo + 1) < v.tmod (hi - lo + 1) := Int.lt_tmod_of_pos v (by omega)
  have rest : hi - lo + 1 ≠ 0 ∧ br (decide (v.tmod (hi - lo + 1) < 0)) (K (.int .i64 (w64 (lo + w64 (w64 (w64 (v.tmod (hi - lo + 1) + hi) - lo) + 1)))) h) (K (.int .i64 (w64 (lo + v.tmod (hi - lo + 1)))) h) := by
    refine ⟨by omega, br_dec (fun h5 => ?_) fun h5 => ?_⟩
    · rw [w64_i (n := v.tmod (hi - lo + 1) + hi) (by omega) (by omega), w64_i (n := v.tmod (hi - lo + 1) + hi - lo) (by omega) (by omega), w64_i (n := v.tmod (hi - lo + 1) + hi - lo + 1) (by omega) (by omega), w64_i (by omega) (by omega)]
      exact hk _ (by omega) (by omega)
    · rw [w64_i (by omega) (by omega)]
      exact hk _ (by omega) (by omega)
  exact br_dec (fun h5 => br_dec (fun h6 => hk _ h5 h6) fun _ => rest) fun _ => rest

def textE (i : Nat) : Elem := ⟨97 + (i : Int) % 26, 1 + (i : Int) / 64, 1 + (i : Int) % 64⟩
def textL (n : Nat) : List Elem := (List.range n).map textE

theorem textL_length (n : Nat) : (textL n).length = n := by simp [textL]
theorem textL_succ (n : Nat) : textL (n + 1) = textL n ++ [textE n] := by simp [textL, List.range_succ]

theorem text_ok {K : Value → GH → Prop} {h : GH} {n : Nat} (hn : n ≤ 4096) (hk : ∀ a c h', OwnF kElem h h' a n c (textL n) → K (.slice a n c) h') : GC pr n_jotterlaw23_text [.int .i64 (n : Int)] h K := by
  refine ok_jotterlaw23_text ?_
  unfold s_jotterlaw23_text
  refine LoopP.intro (fun t h' => ∃ (i : Nat) (a : Option Addr) (c : Nat), t = ((n : Int), (a, i, c), (i : Int), ()) ∧ i ≤ n ∧ OwnF kElem h h' a i c (textL i)) (fun t _ => n - t.2.2.1.toNat) ⟨0, none, 0, rfl, by omega, OwnF.nil_ h⟩ ?_
  rintro t h' ⟨i, a, c, rfl, hi, ho⟩
  unfold s_jotterlaw23_text_l1
  dsimp only
  refine br_dec (fun hlt => ⟨by decide, by decide, by decide, ?_⟩) (fun hge => ?_)
  · have e1 : ((i : Int).tmod 26) = (i : Int) % 26 := Int.tmod_eq_emod_of_nonneg (by omega)
    have e2 : ((i : Int).tmod 64) = (i : Int) % 64 := Int.tmod_eq_emod_of_nonneg (by omega)
    have e3 : ((i : Int).tdiv 64) = (i : Int) / 64 := Int.tdiv_eq_ediv_of_nonneg (by omega)
    rw [e1, e2, e3, w64_i (n := (97 : Int) + (i : Int) % 26) (by omega) (by omega), w64_i (n := (i : Int) / 64) (by omega) (by omega), w64_i (n := (1 : Int) + (i : Int) / 64) (by omega) (by omega), w64_i (n := (1 : Int) + (i : Int) % 64) (by omega) (by omega), wu8_in (by omega) (by omega)]
    refine ho.app (bytes := 24) (ys := [textE i]) rfl rfl (by omega) (by omega) fun a' c' h2 ho' _ => ?_
    refine ⟨⟨i + 1, a', c', by rw [step64 (by omega)], by omega, by rw [textL_succ]; exact ho'⟩, ?_⟩
    try dsimp only
    rw [step64 (by omega)]
    omega
  · have : i = n := by omega
    subst this
    exact hk a c h' ho

theorem dwithin_ok {K : Value → GH → Prop} {h : GH} {n lo hi : Int} (hk : K (.bool (decide (lo ≤ n ∧ n ≤ hi))) h) : GC pr n_doc_within [.int .i64 n, .int .i64 lo, .int .i64 hi] h K := by
  refine ok_doc_within ?_
  unfold s_doc_within
  refine br_dec (fun h1 => ?_) (fun h1 => ?_)
  · have : decide (lo ≤ n ∧ n ≤ hi) = decide (n ≤ hi) := by simp [h1]
    rw [this] at hk; exact hk
  · have : decide (lo ≤ n ∧ n ≤ hi) = false := by simp [h1]
    rw [this] at hk; exact hk

theorem dwithin_yes {K : Value → GH → Prop} {h : GH} {n lo hi : Int} (h1 : lo ≤ n) (h2 : n ≤ hi) (hk : K (.bool true) h) : GC pr n_doc_within [.int .i64 n, .int .i64 lo, .int .i64 hi] h K :=
  dwithin_ok (by rw [decide_eq_true ⟨h1, h2⟩]; exact hk)

/-- A change of a list at a place: one taken out, or one put in. -/
def turnL {α : Type} (ds : List α) (pos : Nat) (out : Bool) (x : α) : List α := if out then ds.take pos ++ ds.drop (pos + 1) else ds.take pos ++ x :: ds.drop pos

theorem turnL_map {α β : Type} (f : α → β) (ds : List α) (pos : Nat) (out : Bool) (x : α) : (turnL ds pos out x).map f = turnL (ds.map f) pos out (f x) := by
  cases out <;> simp [turnL, List.map_take, List.map_drop]

theorem turnL_length {α : Type} {ds : List α} {pos : Nat} {out : Bool} {x : α} (hp : pos ≤ ds.length) : (turnL ds pos out x).length ≤ ds.length + 1 := by
  cases out <;> simp [turnL] <;> omega

structure Op where
  kind : Int
  pos : Int
  ch : Int
  client : Int
  seq : Int

def Op.good (op : Op) (n : Nat) : Prop := 1 ≤ op.client ∧ op.client ≤ 64 ∧ 1 ≤ op.seq ∧ op.seq ≤ 64 ∧ n ≤ 4096 ∧ 0 ≤ op.pos ∧ ((op.kind = 1 ∧ 32 ≤ op.ch ∧ op.ch ≤ 126 ∧ op.pos ≤ n ∧ n < 4096) ∨ (op.kind = 2 ∧ op.ch = 0 ∧ op.pos < n))

theorem Valid_ok {K : Value → GH → Prop} {h : GH} {op : Op} {n : Nat} (hg : op.good n) (hk : K (.int .i64 0) h) : GC pr n_doc_Valid [.agg ⟨[.int .i64 op.kind, .int .i64 op.pos, .int .u8 op.ch, .int .i64 op.client, .int .i64 op.seq]⟩] h K := by
  obtain ⟨kind, pos, ch, client, seq⟩ := op
  obtain ⟨g1, g2, g3, g4, g5, g6, g7⟩ := hg
  refine ok_doc_Valid ?_
  unfold s_doc_Valid
  simp only at g1 g2 g3 g4 g5 g6 g7 ⊢
  refine dwithin_yes (by omega) (by omega) ⟨_, rfl, br_no rfl ?_⟩
  refine dwithin_yes (by omega) (by omega) ⟨_, rfl, br_no rfl ?_⟩
  refine dwithin_yes (by omega) (by omega) ⟨_, rfl, br_no rfl ?_⟩
  refine br_eq (fun h1 => ?_) fun h1 => ?_
  · rw [w64_i (by omega) (by omega)]
    refine dwithin_yes (by omega) (by omega) ⟨_, rfl, br_no rfl ?_⟩
    refine br_eq (fun h2 => by omega) fun h2 => ?_
    exact dwithin_yes (by omega) (by omega) ⟨_, rfl, br_no rfl hk⟩
  · refine br_ne (fun h2 => by omega) fun h2 => br_eq (fun h3 => by omega) fun h3 => ?_
    exact dwithin_yes (by omega) (by omega) ⟨_, rfl, br_no rfl hk⟩

theorem Fits_ok {K : Value → GH → Prop} {h : GH} {op : Op} {n : Nat} (hg : op.good n) (hk : K (.int .i64 0) h) : GC pr n_doc_Fits [.int .i64 ((n : Nat) : Int), .agg ⟨[.int .i64 op.kind, .int .i64 op.pos, .int .u8 op.ch, .int .i64 op.client, .int .i64 op.seq]⟩] h K := by
  have hg' := hg
  obtain ⟨g1, g2, g3, g4, g5, g6, g7⟩ := hg'
  refine ok_doc_Fits ?_
  unfold s_doc_Fits
  refine Valid_ok hg ⟨_, rfl, br_no rfl ?_⟩
  refine dwithin_yes (by omega) (by omega) ⟨_, rfl, br_no rfl ?_⟩
  have end2 : br (op.kind == 2) (br (decide (op.pos ≥ (n : Int))) (K (.int .i64 43) h) (K (.int .i64 0) h)) (K (.int .i64 0) h) := br_eq (fun h1 => br_dec (fun h2 => by omega) fun _ => hk) fun _ => hk
  have end1 : br (op.kind == 1) (br (decide (op.pos > (n : Int))) (K (.int .i64 43) h) (br (op.kind == 2) (br (decide (op.pos ≥ (n : Int))) (K (.int .i64 43) h) (K (.int .i64 0) h)) (K (.int .i64 0) h))) (br (op.kind == 2) (br (decide (op.pos ≥ (n : Int))) (K (.int .i64 43) h) (K (.int .i64 0) h)) (K (.int .i64 0) h)) :=
    br_eq (fun h1 => br_dec (fun h2 => by omega) fun _ => end2) fun _ => end2
  exact br_eq (fun h1 => br_eq (fun h2 => by omega) fun _ => end1) fun _ => end1

theorem _root_.Go.Gv.OwnF.slf {α : Type} {d : Kind α} {F : List Nat} {h0 h : GH} {a : Option Addr} {n c : Nat} {xs : List α} (ho : OwnF d h0 h a n c xs) (hF : ∀ b ∈ F, ∃ o, h0 b = some o) : SlF d F h a n c xs :=
  ⟨ho.sl, fun p hp _ hb => by
    obtain ⟨o, ho'⟩ := hF _ hb
    rw [ho.new p hp] at ho'
    exact absurd ho' (by simp)⟩

theorem Apply_ok {K : Value → GH → Prop} {h : GH} {op : Op} {da : Option Addr} {dn dc : Nat} {ds : List Elem} (hd : Sl kElem h da dn dc ds) (hg : op.good ds.length)
    (hk : ∀ a n c h', OwnF kElem h h' a n c (turnL ds op.pos.toNat (op.kind == 2) ⟨op.ch, op.client, op.seq⟩) → K (.tuple ⟨[.slice a n c, .int .i64 0]⟩) h') :
    GC pr n_doc_Apply [.slice da dn dc, .agg ⟨[.int .i64 op.kind, .int .i64 op.pos, .int .u8 op.ch, .int .i64 op.client, .int .i64 op.seq]⟩] h K := by
  have hg' := hg
  obtain ⟨g1, g2, g3, g4, g5, g6, g7⟩ := hg'
  have hlen := hd.n_eq
  have hcap := hd.cap
  refine ok_doc_Apply ?_
  unfold s_doc_Apply
  rw [hlen]
  refine Fits_ok hg ⟨_, rfl, br_no rfl ?_⟩
  have e1 : w64 (((ds.length : Nat) : Int) + 1) = ((ds.length + 1 : Nat) : Int) := step64 (by omega)
  rw [e1]
  refine ⟨by omega, by omega, by omega, fun b hb => ?_⟩
  have hm := OwnF.made (d := kElem) (GH.le_refl h) hb [.int .u8 0, .int .i64 0, .int .i64 0] (c := (((ds.length + 1 : Nat) : Int)).toNat) (by omega)
  have front : ∀ {h' : GH} {a : Option Addr} {n c : Nat} {xs : List Elem}, h.le h' → Sl kElem h' da op.pos.toNat dc (ds.take op.pos.toNat) := fun hl => (hd.le hl).to (by omega)
  refine br_eq (fun h1 => ?_) fun h1 => ?_
  · have hout : (op.kind == 2) = false := by rw [h1]; rfl
    rw [hout] at hk
    refine ⟨g6, by omega, kElem.cs (ds.take op.pos.toNat), by rw [Kind.cs_length, List.length_take]; show min _ _ * 3 = _; omega, ?_, ?_⟩
    · exact ((hd.le hm.le).to (m := op.pos.toNat) (by omega)).rdsO
    refine hm.app (bytes := 24) (ys := ds.take op.pos.toNat) rfl (by rw [List.length_take]; omega) (by omega) (by omega) fun a1 c1 h1' ho1 _ => ?_
    refine ho1.app (bytes := 24) (ys := [⟨op.ch, op.client, op.seq⟩]) rfl rfl (by omega) (by omega) fun a2 c2 h2 ho2 _ => ?_
    refine ⟨g6, by omega, kElem.cs (ds.drop op.pos.toNat), by rw [Kind.cs_length, List.length_drop]; rfl, ?_, ?_⟩
    · have := ((hd.le ho2.le).from (l := op.pos.toNat) (by omega)).rdsO
      exact this
    refine ho2.app (bytes := 24) (ys := ds.drop op.pos.toNat) rfl (by rw [List.length_drop]) (by omega) (by omega) fun a3 c3 h3 ho3 _ => ?_
    refine hk a3 _ c3 h3 ?_
    simpa [turnL] using ho3
  · have h2 : op.kind = 2 := by omega
    have hout : (op.kind == 2) = true := by rw [h2]; rfl
    rw [hout] at hk
    refine br_yes hout ?_
    have e2 : w64 (op.pos + 1) = op.pos + 1 := w64_i (by omega) (by omega)
    rw [e2]
    refine ⟨g6, by omega, kElem.cs (ds.take op.pos.toNat), by rw [Kind.cs_length, List.length_take]; show min _ _ * 3 = _; omega, ?_, ?_⟩
    · exact ((hd.le hm.le).to (m := op.pos.toNat) (by omega)).rdsO
    refine hm.app (bytes := 24) (ys := ds.take op.pos.toNat) rfl (by rw [List.length_take]; omega) (by omega) (by omega) fun a1 c1 h1' ho1 _ => ?_
    have e3 : (op.pos + 1).toNat = op.pos.toNat + 1 := by omega
    rw [e3]
    refine ⟨by omega, by omega, kElem.cs (ds.drop (op.pos.toNat + 1)), by rw [Kind.cs_length, List.length_drop]; rfl, ?_, ?_⟩
    · have := ((hd.le ho1.le).from (l := op.pos.toNat + 1) (by omega)).rdsO
      exact this
    refine ho1.app (bytes := 24) (ys := ds.drop (op.pos.toNat + 1)) rfl (by rw [List.length_drop]) (by omega) (by omega) fun a3 c3 h3 ho3 _ => ?_
    refine hk a3 _ c3 h3 ?_
    simpa [turnL] using ho3

def insE (k : Nat) : Elem := ⟨90, 33 + (k : Int) / 64, 1 + (k : Int) % 64⟩

theorem turned_ok {K : Value → GH → Prop} {h : GH} {da : Option Addr} {dn dc : Nat} {ds : List Elem} {out : Bool} {N : Int} {k : Nat} (hd : Sl kElem h da dn dc ds) (hl : ds.length < 4096) (hk0 : k < 2048)
    (hk : ∀ (pos : Nat) (o : Bool) a n c h', pos ≤ ds.length → (o = true → pos < ds.length) → (out = false → o = false) → OwnF kElem h h' a n c (turnL ds pos o (insE k)) → K (.tuple ⟨[.slice a n c, .int .i64 (pos : Int), .bool o, .bool true]⟩) h') :
    GC pr n_jotterlaw23_turned [.slice da dn dc, .agg ⟨[.bool out, .int .i64 N]⟩, .int .i64 (k : Int)] h K := by
  have hlen := hd.n_eq
  refine ok_jotterlaw23_turned ?_
  unfold s_jotterlaw23_turned
  have e2 : ((k : Int).tmod 64) = (k : Int) % 64 := Int.tmod_eq_emod_of_nonneg (by omega)
  have e3 : ((k : Int).tdiv 64) = (k : Int) / 64 := Int.tdiv_eq_ediv_of_nonneg (by omega)
  rw [e2, e3, w64_i (n := (k : Int) / 64) (by omega) (by omega), w64_i (n := (33 : Int) + (k : Int) / 64) (by omega) (by omega), w64_i (n := (1 : Int) + (k : Int) % 64) (by omega) (by omega)]
  refine within_ok (by omega) (by omega) (by omega) fun r hr0 hr1 => ⟨_, rfl, by decide, by decide, ?_⟩
  have ins : GC pr n_doc_Apply [.slice da dn dc, .agg ⟨[.int .i64 1, .int .i64 r, .int .u8 90, .int .i64 (33 + (k : Int) / 64), .int .i64 (1 + (k : Int) % 64)]⟩] h fun v_15 h_16 =>
      ∃ (x_17a : Option Addr) (x_17n : Nat) (x_17c : Nat), ∃ (x_18 : Int), v_15 = (.tuple ⟨[.slice x_17a x_17n x_17c, .int .i64 x_18]⟩ : Value) ∧
      K (.tuple ⟨[.slice x_17a x_17n x_17c, .int .i64 r, .bool ((1 : Int) == 2), .bool (x_18 == 0)]⟩) h_16 := by
    refine Apply_ok (op := ⟨1, r, 90, 33 + (k : Int) / 64, 1 + (k : Int) % 64⟩) hd ?_ fun a n c h' ho => ⟨a, n, c, 0, rfl, ?_⟩
    · unfold Op.good; dsimp only; exact ⟨by omega, by omega, by omega, by omega, by omega, by omega, .inl ⟨rfl, by omega, by omega, by omega, by omega⟩⟩
    · have := hk r.toNat false a n c h' (by omega) (by simp) (fun _ => rfl) ho
      rw [Int.toNat_of_nonneg hr0] at this
      exact this
  refine br_of (fun ho => br_dec (fun h1 => ?_) fun _ => ins) fun _ => ins
  rw [w64_i (n := ((dn : Nat) : Int) - 1) (by omega) (by omega)]
  refine within_ok (by omega) (by omega) (by omega) fun r hr0 hr1 => ⟨_, rfl, ?_⟩
  refine Apply_ok (op := ⟨2, r, 0, 33 + (k : Int) / 64, 1 + (k : Int) % 64⟩) hd ?_ fun a n c h' hw => ⟨a, n, c, 0, rfl, ?_⟩
  · unfold Op.good; dsimp only; exact ⟨by omega, by omega, by omega, by omega, by omega, by omega, .inr ⟨rfl, rfl, by omega⟩⟩
  · have := hk r.toNat true a n c h' (by omega) (fun _ => by omega) (fun h => by rw [h] at ho; exact absurd ho (by simp)) (by
      have e : turnL ds r.toNat true (insE k) = turnL ds r.toNat true ⟨0, 33 + (k : Int) / 64, 1 + (k : Int) % 64⟩ := rfl
      rw [e]; exact hw)
    rw [Int.toNat_of_nonneg hr0] at this
    exact this

theorem follow_ok {K : Value → GH → Prop} {h : GH} {ma : Option Addr} {mn mc : Nat} {ms : List Bool} {pos : Nat} {out : Bool} (hm : Sl kBool h ma mn mc ms) (hp : pos ≤ ms.length) (ho : out = true → pos < ms.length) (hl : ms.length ≤ 100000)
    (hk : ∀ a n c h', OwnF kBool h h' a n c (turnL ms pos out false) → K (.slice a n c) h') : GC pr n_jotterlaw23_follow [.slice ma mn mc, .int .i64 (pos : Int), .bool out] h K := by
  have hlen := hm.n_eq
  have hcap := hm.cap
  refine ok_jotterlaw23_follow ?_
  unfold s_jotterlaw23_follow
  rw [step64 (by omega), Int.toNat_natCast, Int.toNat_natCast]
  refine ⟨by omega, by omega, kBool.cs (ms.take pos), by rw [Kind.cs_length, List.length_take]; show min _ _ * 1 = _; omega, (hm.to (m := pos) (by omega)).rdsO, ?_⟩
  refine (OwnF.nil_ (d := kBool) h).app (bytes := 1) (ys := ms.take pos) rfl (by rw [List.length_take]; omega) (by omega) (by omega) fun a1 c1 h1 ho1 _ => ?_
  refine br_of (fun hx => ?_) fun hx => ?_
  · subst hx
    have := ho rfl
    refine ⟨by omega, by omega, kBool.cs (ms.drop (pos + 1)), by rw [Kind.cs_length, List.length_drop, hlen]; rfl, ((hm.le ho1.le).from (l := pos + 1) (by omega)).rdsO, ?_⟩
    refine ho1.app (bytes := 1) (ys := ms.drop (pos + 1)) rfl (by rw [List.length_drop, hlen]) (by omega) (by omega) fun a2 c2 h2 ho2 _ => ?_
    refine hk _ _ _ _ ?_
    simpa [turnL] using ho2
  · subst hx
    refine ho1.app (bytes := 1) (ys := [false]) rfl rfl (by omega) (by omega) fun a2 c2 h2 ho2 _ => ?_
    refine ⟨by omega, by omega, kBool.cs (ms.drop pos), by rw [Kind.cs_length, List.length_drop, hlen]; rfl, ((hm.le ho2.le).from (l := pos) (by omega)).rdsO, ?_⟩
    refine ho2.app (bytes := 1) (ys := ms.drop pos) rfl (by rw [List.length_drop, hlen]) (by omega) (by omega) fun a3 c3 h3 ho3 _ => ?_
    refine hk _ _ _ _ ?_
    simpa [turnL] using ho3

/-- From and To of marks. -/
def spanG : List Bool → Nat → Int × Int → Int × Int
  | [], _, r => r
  | x :: xs, i, r => spanG xs (i + 1) (if x then ((if r.2 = 0 then (i : Int) else r.1), (i : Int) + 1) else r)

theorem spanL_eq (f : Elem → Bool) (ds : List Elem) (i : Nat) (r : Int × Int) : spanL f ds i r = spanG (ds.map f) i r := by
  induction ds generalizing i r with
  | nil => rfl
  | cons x xs ih => rw [spanL, List.map_cons, spanG, ih]

theorem where_ok {K : Value → GH → Prop} {h : GH} {ma : Option Addr} {mn mc : Nat} {ms : List Bool} (hm : Sl kBool h ma mn mc ms) (hl : ms.length ≤ 100000)
    (hk : K (.tuple ⟨[.int .i64 (spanG ms 0 (0, 0)).1, .int .i64 (spanG ms 0 (0, 0)).2, .bool ((spanG ms 0 (0, 0)).2 == 0)]⟩) h) : GC pr n_jotterlaw23_where [.slice ma mn mc] h K := by
  have hlen := hm.n_eq
  refine ok_jotterlaw23_where ?_
  unfold s_jotterlaw23_where
  refine LoopP.intro (fun t h' => ∃ (i : Nat) (r : Int × Int), t = ((ma, mn, mc), r.1, r.2, (r.2 == 0), (i : Int), ()) ∧ h' = h ∧ i ≤ ms.length ∧ spanG ms 0 (0, 0) = spanG (ms.drop i) i r ∧ 0 ≤ r.2) (fun t _ => ms.length - t.2.2.2.2.1.toNat) ⟨0, (0, 0), rfl, rfl, by omega, rfl, by simp⟩ ?_
  rintro t h' ⟨i, r, rfl, rfl, hi, hr, hr0⟩
  unfold s_jotterlaw23_where_l1 s_jotterlaw23_where_k1
  dsimp only
  refine br_dec (fun hlt => ?_) (fun hge => ?_)
  · have hi' : i < ms.length := by omega
    refine hm.idx hi' fun p hp => ⟨_, hp, ?_⟩
    rw [List.drop_eq_getElem_cons hi', spanG] at hr
    rw [step64 (by omega)]
    have fin : ms.length - (((i + 1 : Nat) : Int)).toNat < ms.length - ((i : Nat) : Int).toNat := by omega
    refine br_of (fun hb => ?_) (fun hb => ?_)
    · rw [hb, if_pos rfl] at hr
      refine br_eq (fun h0 => ?_) (fun h0 => ?_)
      · rw [if_pos h0] at hr
        exact ⟨⟨i + 1, ((i : Int), (i : Int) + 1), by simp; omega, rfl, hi', hr, by simp only; omega⟩, fin⟩
      · rw [if_neg h0] at hr
        exact ⟨⟨i + 1, (r.1, (i : Int) + 1), by simp; omega, rfl, hi', hr, by simp only; omega⟩, fin⟩
    · rw [hb] at hr
      exact ⟨⟨i + 1, r, rfl, rfl, hi', hr, hr0⟩, fin⟩
  · have : i = ms.length := by omega
    subst this
    rw [List.drop_length, spanG] at hr
    rw [hr] at hk
    exact hk
end Go.Proofs.Ytjieepgapjbjlaa.G
