/- What the ghost machine asks of functions of the program. -/
import Derived.Test.YtjieepgapjbjlaaV11
import Derived.Test.YtjieepgapjbjlaaChecked
namespace Go.Proofs.Ytjieepgapjbjlaa.G
open Go.Gv
set_option linter.unusedVariables false
set_option maxRecDepth 100000
noncomputable abbrev pr : Program := Try.prog
theorem mixed : pr.follows .mixedOrders = true := by kernel_rfl
abbrev n_jotterlaw23_fixed : FuncId := 10
abbrev n_notes_Board_Shut : FuncId := 11
abbrev n_notes_Board_Reply : FuncId := 12
abbrev n_jotterlaw23_may : FuncId := 13
abbrev n_notes_Board_Look : FuncId := 14
abbrev n_jotterlaw23_eqReplies : FuncId := 15
abbrev n_jotterlaw23_within : FuncId := 16
abbrev n_jotterlaw23_text : FuncId := 17
abbrev n_notes_New : FuncId := 18
abbrev n_notes_Board_Put : FuncId := 19
abbrev n_jotterlaw23_turned : FuncId := 20
abbrev n_jotterlaw23_follow : FuncId := 21
abbrev n_jotterlaw23_where : FuncId := 22
abbrev n_jotterlaw23_put : FuncId := 23
abbrev n_jotterlaw23_eqNote : FuncId := 31
abbrev n_notes_worded : FuncId := 32
abbrev n_notes_note_look : FuncId := 33
abbrev n_doc_Apply : FuncId := 34
abbrev n_notes_note_span : FuncId := 36
abbrev n_doc_Fits : FuncId := 48
abbrev n_notes_note_holds : FuncId := 50
abbrev n_doc_Valid : FuncId := 58
abbrev n_doc_within : FuncId := 59
/-! jotter/jotterlaw23.fixed -/
def an_jotterlaw23_fixed : Ann := .seq .leaf (.seq .leaf (.seq (.seq .leaf (.cond (.seq .leaf .leaf) .leaf)) (.seq .leaf (.seq .leaf (.seq .leaf (.seq .leaf (.seq .leaf .leaf)))))))
def s_jotterlaw23_fixed (K : Value → GH → Prop) (h : GH) : Prop :=
  GC pr n_notes_New [] h fun v_1 h_2 => ∃ (x_3 : Option Addr), v_1 = (.pointer x_3 : Value) ∧
  br x_3.isNone (K (.tuple ⟨[.pointer none, .slice none 0 0, .bool false]⟩) h_2)
  (New h_2 [.int .u8 120, .int .i64 1, .int .i64 1] fun b4 h_5 =>
    GC pr n_notes_Board_Put [.pointer x_3, .slice (some ⟨b4, 0, none⟩) 1 1, .int .i64 0, .int .i64 1, .int .i64 3, .string (ByteArray.mk #[115, 111])] h_5 fun v_6 h_7 =>
    ∃ (x_8 : Int), ∃ (x_9 : Int), v_6 = (.tuple ⟨[.int .i64 x_8, .int .i64 x_9]⟩ : Value) ∧
    GC pr n_notes_Board_Look [.pointer x_3, .slice (some ⟨b4, 0, none⟩) 1 1, .int .i64 1] h_7 fun v_10 h_11 =>
    ∃ (x_ID12 : Int), ∃ (x_Client13 : Int), ∃ (x_Words14 : ByteArray), ∃ (x_From15 : Int), ∃ (x_To16 : Int), ∃ (x_Gone17 : Bool), ∃ (x_Shut18 : Bool), ∃ (x_Replies19a : Option Addr)
    (x_Replies19n : Nat) (x_Replies19c : Nat), ∃ (x_20 : Int), v_10 = (.tuple ⟨[.agg ⟨[.int .i64 x_ID12, .int .i64 x_Client13, .string x_Words14, .int .i64 x_From15, .int .i64 x_To16, .bool x_Gone17, .bool x_Shut18, .slice x_Replies19a x_Replies19n x_Replies19c]⟩, .int .i64 x_20]⟩ : Value) ∧
    br (x_8 == 1) (br (x_9 == 0) (br (x_20 == 0) (GC pr n_jotterlaw23_eqNote [.agg ⟨[.int .i64 x_ID12, .int .i64 x_Client13, .string x_Words14, .int .i64 x_From15, .int .i64 x_To16, .bool x_Gone17, .bool x_Shut18, .slice x_Replies19a x_Replies19n x_Replies19c]⟩, .agg ⟨[.int .i64 1, .int .i64 3, .string (ByteArray.mk #[115, 111]), .int .i64 0, .int .i64 1, .bool false, .bool false, .slice none 0 0]⟩] h_11 fun v_21 h_22 =>
          ∃ (x_23 : Bool), v_21 = (.bool x_23 : Value) ∧ K (.tuple ⟨[.pointer x_3, .slice (some ⟨b4, 0, none⟩) 1 1, .bool x_23]⟩) h_22)
        (K (.tuple ⟨[.pointer x_3, .slice (some ⟨b4, 0, none⟩) 1 1, .bool false]⟩) h_11))
      (K (.tuple ⟨[.pointer x_3, .slice (some ⟨b4, 0, none⟩) 1 1, .bool false]⟩) h_11))
    (K (.tuple ⟨[.pointer x_3, .slice (some ⟨b4, 0, none⟩) 1 1, .bool false]⟩) h_11))
theorem ok_jotterlaw23_fixed {K : Value → GH → Prop} {h : GH} (H : s_jotterlaw23_fixed K h) : GC pr n_jotterlaw23_fixed [] h K :=
  GC_of mixed Try.func10 (hp := [14]) (an := an_jotterlaw23_fixed) (Eq.mp (by kernel_rfl : s_jotterlaw23_fixed K h = fnVC pr Try.f10 [14] an_jotterlaw23_fixed [] h K) H)

/-! (*jotter/notes.Board).Shut -/
def an_notes_Board_Shut : Ann := .seq .leaf (.seq .leaf (.seq (.seq .leaf (.cond (.seq .leaf .leaf) .leaf)) (.seq (.seq .leaf (.cond (.seq .leaf .leaf) .leaf)) (.seq .leaf (.seq .leaf .leaf)))))
def s_notes_Board_Shut (K : Value → GH → Prop) (b1 : Option Addr)
  (id2 : Int) (h : GH) : Prop :=
  nn b1 fun p3 => ∃ (x_4 : Option Nat), Rds h (Addr.add p3 1) [.map x_4] ∧
  ∃ (x_6 : Option Addr), (∃ ok5 : Bool, Lk pr h 3 79 x_4 (.int .i64 id2)
    (.pointer x_6) ok5) ∧ br x_6.isNone (K (.int .i64 232) h)
  (nn x_6 fun p7 => ∃ (x_8 : Bool), Rds h (Addr.add p7 3) [.bool x_8] ∧
    br x_8 (K (.int .i64 233) h) (nn x_6 fun p9 => Wr h (Addr.add p9 3) [.bool true] fun h_10 =>
      K (.int .i64 0) h_10))
theorem ok_notes_Board_Shut {K : Value → GH → Prop} {b1 : Option Addr} {id2 : Int} {h : GH} (H : s_notes_Board_Shut K b1 id2 h) : GC pr n_notes_Board_Shut [.pointer b1, .int .i64 id2] h K :=
  GC_of mixed Try.func11 (hp := []) (an := an_notes_Board_Shut) (Eq.mp (by kernel_rfl : s_notes_Board_Shut K b1 id2 h = fnVC pr Try.f11 [] an_notes_Board_Shut [.pointer b1, .int .i64 id2] h K) H)

/-! (*jotter/notes.Board).Reply -/
def an_notes_Board_Reply : Ann := .seq .leaf (.seq .leaf (.seq (.seq .leaf (.cond (.seq .leaf .leaf) .leaf)) (.seq (.seq .leaf (.seq .leaf (.cond (.seq .leaf .leaf) .leaf))) (.seq (.seq .leaf (.cond (.seq .leaf .leaf) .leaf)) (.seq .leaf (.seq .leaf .leaf))))))
def s_notes_Board_Reply (K : Value → GH → Prop) (b1 : Option Addr)
  (id2 : Int) (client3 : Int) (words4 : ByteArray) (h : GH) : Prop :=
  nn b1 fun p5 => ∃ (x_6 : Option Nat), Rds h (Addr.add p5 1) [.map x_6] ∧
  ∃ (x_8 : Option Addr), (∃ ok7 : Bool, Lk pr h 3 79 x_6 (.int .i64 id2)
    (.pointer x_8) ok7) ∧ br x_8.isNone (K (.int .i64 232) h)
  (GC pr n_notes_worded [.int .i64 client3, .string words4] h fun v_9 h_10 =>
    ∃ (x_11 : Int), v_9 = (.int .i64 x_11 : Value) ∧ br (x_11 != 0)
    (K (.int .i64 x_11) h_10) (nn x_8 fun p12 => ∃ (x_13 : Bool), Rds h_10 (Addr.add p12 3) [.bool x_13] ∧
      br x_13 (K (.int .i64 233) h_10) (nn x_8 fun p14 => ∃ (x_15a : Option Addr)
        (x_15n : Nat) (x_15c : Nat), Rds h_10 (Addr.add p14 4) [.slice x_15a x_15n x_15c] ∧
        AppK h_10 x_15a x_15n x_15c 2 24 ([.int .i64 client3, .string words4]) 1 fun a16 c17 h_18 =>
        nn x_8 fun p19 => Wr h_18 (Addr.add p19 4) [.slice a16 (x_15n + 1) c17] fun h_20 =>
        K (.int .i64 0) h_20)))
theorem ok_notes_Board_Reply {K : Value → GH → Prop} {b1 : Option Addr} {id2 : Int} {client3 : Int} {words4 : ByteArray} {h : GH} (H : s_notes_Board_Reply K b1 id2 client3 words4 h) : GC pr n_notes_Board_Reply [.pointer b1, .int .i64 id2, .int .i64 client3, .string words4] h K :=
  GC_of mixed Try.func12 (hp := []) (an := an_notes_Board_Reply) (Eq.mp (by kernel_rfl : s_notes_Board_Reply K b1 id2 client3 words4 h = fnVC pr Try.f12 [] an_notes_Board_Reply [.pointer b1, .int .i64 id2, .int .i64 client3, .string words4] h K) H)

/-! jotter/jotterlaw23.may -/
def an_jotterlaw23_may : Ann := .seq .leaf (.seq (.seq .leaf (.cond (.seq .leaf .leaf) .leaf)) (.seq (.seq .leaf (.one (.loop ⟨[(0, .str), (3, .int .i64)], [], []⟩ (.seq (.seq .leaf (.cond .leaf .leaf)) (.seq (.one (.seq .leaf (.cond (.seq .leaf .leaf) .leaf))) .leaf))))) (.seq .leaf .leaf)))
def s_jotterlaw23_may_l1 (K : Value → GH → Prop) (J1 : (ByteArray × Int × Unit) → GH → Prop)
  (words2 : ByteArray) (i3 : Int) (h : GH) : Prop :=
  br (decide (i3 < ((words2.size : Nat) : Int))) (0 ≤ i3 ∧ i3 < ((words2.size : Nat) : Int) ∧
    br (decide ((bt words2 i3) < 32)) (K (.bool false) h) (0 ≤ i3 ∧
      i3 < ((words2.size : Nat) : Int) ∧ br (decide ((bt words2 i3) > 126))
      (K (.bool false) h) (J1 (words2, w64 (i3 + 1), ()) h)))
  (K (.bool true) h)
def s_jotterlaw23_may (K : Value → GH → Prop) (words1 : ByteArray)
  (h : GH) : Prop :=
  br (decide (((words1.size : Nat) : Int) < 1)) (K (.bool false) h)
  (br (decide (((words1.size : Nat) : Int) > 120)) (K (.bool false) h)
    (LoopP (T := ByteArray × Int × Unit) (fun J => J (words1, 0, ()) h)
      (fun J t h => s_jotterlaw23_may_l1 K J t.1 t.2.1 h)))
theorem ok_jotterlaw23_may {K : Value → GH → Prop} {words1 : ByteArray} {h : GH} (H : s_jotterlaw23_may K words1 h) : GC pr n_jotterlaw23_may [.string words1] h K :=
  GC_of mixed Try.func13 (hp := []) (an := an_jotterlaw23_may) (Eq.mp (by kernel_rfl : s_jotterlaw23_may K words1 h = fnVC pr Try.f13 [] an_jotterlaw23_may [.string words1] h K) H)

/-! (*jotter/notes.Board).Look -/
def an_notes_Board_Look : Ann := .seq .leaf (.seq .leaf (.seq (.seq .leaf (.cond (.seq .leaf .leaf) .leaf)) (.seq .leaf .leaf)))
def s_notes_Board_Look (K : Value → GH → Prop) (b1 : Option Addr)
  (doc2a : Option Addr) (doc2n : Nat) (doc2c : Nat) (id3 : Int)
  (h : GH) : Prop :=
  nn b1 fun p4 => ∃ (x_5 : Option Nat), Rds h (Addr.add p4 1) [.map x_5] ∧
  ∃ (x_7 : Option Addr), (∃ ok6 : Bool, Lk pr h 3 79 x_5 (.int .i64 id3)
    (.pointer x_7) ok6) ∧ br x_7.isNone (K (.tuple ⟨[.agg ⟨[.int .i64 0, .int .i64 0, .string ByteArray.empty, .int .i64 0, .int .i64 0, .bool false, .bool false, .slice none 0 0]⟩, .int .i64 232]⟩) h)
  (GC pr n_notes_note_look [.pointer x_7, .int .i64 id3, .slice doc2a doc2n doc2c] h fun v_8 h_9 =>
    ∃ (x_ID10 : Int), ∃ (x_Client11 : Int), ∃ (x_Words12 : ByteArray), ∃ (x_From13 : Int), ∃ (x_To14 : Int), ∃ (x_Gone15 : Bool), ∃ (x_Shut16 : Bool), ∃ (x_Replies17a : Option Addr)
    (x_Replies17n : Nat) (x_Replies17c : Nat), v_8 = (.agg ⟨[.int .i64 x_ID10, .int .i64 x_Client11, .string x_Words12, .int .i64 x_From13, .int .i64 x_To14, .bool x_Gone15, .bool x_Shut16, .slice x_Replies17a x_Replies17n x_Replies17c]⟩ : Value) ∧
    K (.tuple ⟨[.agg ⟨[.int .i64 x_ID10, .int .i64 x_Client11, .string x_Words12, .int .i64 x_From13, .int .i64 x_To14, .bool x_Gone15, .bool x_Shut16, .slice x_Replies17a x_Replies17n x_Replies17c]⟩, .int .i64 0]⟩) h_9)
theorem ok_notes_Board_Look {K : Value → GH → Prop} {b1 : Option Addr} {doc2a : Option Addr} {doc2n : Nat} {doc2c : Nat} {id3 : Int} {h : GH} (H : s_notes_Board_Look K b1 doc2a doc2n doc2c id3 h) : GC pr n_notes_Board_Look [.pointer b1, .slice doc2a doc2n doc2c, .int .i64 id3] h K :=
  GC_of mixed Try.func14 (hp := []) (an := an_notes_Board_Look) (Eq.mp (by kernel_rfl : s_notes_Board_Look K b1 doc2a doc2n doc2c id3 h = fnVC pr Try.f14 [] an_notes_Board_Look [.pointer b1, .slice doc2a doc2n doc2c, .int .i64 id3] h K) H)

/-! jotter/jotterlaw23.eqReplies -/
def an_jotterlaw23_eqReplies : Ann := .seq .leaf (.seq (.seq .leaf (.cond (.seq .leaf .leaf) .leaf)) (.seq (.seq .leaf (.one (.loop ⟨[(0, .slice), (1, .slice), (5, .int .i64)], [], []⟩ (.seq (.seq .leaf (.cond .leaf .leaf)) (.seq (.one (.seq .leaf (.cond (.seq .leaf .leaf) .leaf))) .leaf))))) (.seq .leaf .leaf)))
def s_jotterlaw23_eqReplies_l1 (K : Value → GH → Prop) (J1 : ((Option Addr × Nat × Nat) × (Option Addr × Nat × Nat) × Int × Unit) → GH → Prop)
  (a3a : Option Addr) (a3n : Nat) (a3c : Nat) (b4a : Option Addr)
  (b4n : Nat) (b4c : Nat) (i5 : Int) (h : GH) : Prop :=
  br (decide (i5 < ((a3n : Nat) : Int))) (0 ≤ i5 ∧ i5 < ((a3n : Nat) : Int) ∧
    nn a3a fun p6 => ∃ (x_Client7 : Int), ∃ (x_Words8 : ByteArray), Rds h (Addr.add p6 (i5.toNat * 2)) [.int .i64 x_Client7, .string x_Words8] ∧
    0 ≤ i5 ∧ i5 < ((b4n : Nat) : Int) ∧ nn b4a fun p9 => ∃ (x_Client10 : Int), ∃ (x_Words11 : ByteArray), Rds h (Addr.add p9 (i5.toNat * 2)) [.int .i64 x_Client10, .string x_Words11] ∧
    br (!((x_Client7 == x_Client10) && (x_Words8 == x_Words11)))
    (K (.bool false) h) (J1 ((a3a, a3n, a3c), (b4a, b4n, b4c), w64 (i5 + 1), ()) h))
  (K (.bool true) h)
def s_jotterlaw23_eqReplies (K : Value → GH → Prop) (a1a : Option Addr)
  (a1n : Nat) (a1c : Nat) (b2a : Option Addr) (b2n : Nat) (b2c : Nat)
  (h : GH) : Prop :=
  br (((a1n : Nat) : Int) != ((b2n : Nat) : Int)) (K (.bool false) h)
  (LoopP (T := (Option Addr × Nat × Nat) × (Option Addr × Nat × Nat) × Int × Unit)
    (fun J => J ((a1a, a1n, a1c), (b2a, b2n, b2c), 0, ()) h) (fun J t h =>
      s_jotterlaw23_eqReplies_l1 K J t.1.1 t.1.2.1 t.1.2.2 t.2.1.1 t.2.1.2.1 t.2.1.2.2 t.2.2.1 h))
theorem ok_jotterlaw23_eqReplies {K : Value → GH → Prop} {a1a : Option Addr} {a1n : Nat} {a1c : Nat} {b2a : Option Addr} {b2n : Nat} {b2c : Nat} {h : GH} (H : s_jotterlaw23_eqReplies K a1a a1n a1c b2a b2n b2c h) : GC pr n_jotterlaw23_eqReplies [.slice a1a a1n a1c, .slice b2a b2n b2c] h K :=
  GC_of mixed Try.func15 (hp := []) (an := an_jotterlaw23_eqReplies) (Eq.mp (by kernel_rfl : s_jotterlaw23_eqReplies K a1a a1n a1c b2a b2n b2c h = fnVC pr Try.f15 [] an_jotterlaw23_eqReplies [.slice a1a a1n a1c, .slice b2a b2n b2c] h K) H)

/-! jotter/jotterlaw23.within -/
def an_jotterlaw23_within : Ann := .seq .leaf (.seq (.seq .leaf (.cond (.seq .leaf .leaf) .leaf)) (.seq .leaf (.seq (.seq .leaf (.cond .leaf .leaf)) (.seq .leaf .leaf))))
def s_jotterlaw23_within (K : Value → GH → Prop) (v_1 : Int) (lo2 : Int)
  (hi3 : Int) (h : GH) : Prop :=
  br (decide (v_1 ≥ lo2)) (br (decide (v_1 ≤ hi3)) (K (.int .i64 v_1) h)
    ((w64 ((w64 (hi3 - lo2)) + 1)) ≠ 0 ∧ br (decide ((v_1.tmod (w64 ((w64 (hi3 - lo2)) + 1))) < 0))
      (K (.int .i64 (w64 (lo2 + (w64 ((w64 ((w64 ((v_1.tmod (w64 ((w64 (hi3 - lo2)) + 1))) + hi3)) - lo2)) + 1))))) h)
      (K (.int .i64 (w64 (lo2 + (v_1.tmod (w64 ((w64 (hi3 - lo2)) + 1)))))) h)))
  ((w64 ((w64 (hi3 - lo2)) + 1)) ≠ 0 ∧ br (decide ((v_1.tmod (w64 ((w64 (hi3 - lo2)) + 1))) < 0))
    (K (.int .i64 (w64 (lo2 + (w64 ((w64 ((w64 ((v_1.tmod (w64 ((w64 (hi3 - lo2)) + 1))) + hi3)) - lo2)) + 1))))) h)
    (K (.int .i64 (w64 (lo2 + (v_1.tmod (w64 ((w64 (hi3 - lo2)) + 1)))))) h))
theorem ok_jotterlaw23_within {K : Value → GH → Prop} {v_1 : Int} {lo2 : Int} {hi3 : Int} {h : GH} (H : s_jotterlaw23_within K v_1 lo2 hi3 h) : GC pr n_jotterlaw23_within [.int .i64 v_1, .int .i64 lo2, .int .i64 hi3] h K :=
  GC_of mixed Try.func16 (hp := []) (an := an_jotterlaw23_within) (Eq.mp (by kernel_rfl : s_jotterlaw23_within K v_1 lo2 hi3 h = fnVC pr Try.f16 [] an_jotterlaw23_within [.int .i64 v_1, .int .i64 lo2, .int .i64 hi3] h K) H)

/-! jotter/jotterlaw23.text -/
def an_jotterlaw23_text : Ann := .seq .leaf (.seq .leaf (.seq (.seq .leaf (.one (.loop ⟨[(0, .int .i64), (3, .slice), (4, .int .i64)], [], []⟩ (.seq (.seq .leaf (.cond .leaf .leaf)) (.seq (.one .leaf) .leaf))))) (.seq .leaf .leaf)))
def s_jotterlaw23_text_l1 (K : Value → GH → Prop) (J1 : (Int × (Option Addr × Nat × Nat) × Int × Unit) → GH → Prop)
  (n2 : Int) (d3a : Option Addr) (d3n : Nat) (d3c : Nat) (i4 : Int)
  (h : GH) : Prop :=
  br (decide (i4 < n2)) ((26 : Int) ≠ 0 ∧ (64 : Int) ≠ 0 ∧ (64 : Int) ≠ 0 ∧
    AppK h d3a d3n d3c 3 24 ([.int .u8 (IntKind.wrap .u8 (w64 ((97 : Int) + (i4.tmod 26)))), .int .i64 (w64 ((1 : Int) + (w64 (i4.tdiv 64)))), .int .i64 (w64 ((1 : Int) + (i4.tmod 64)))]) 1 fun a5 c6 h_7 =>
    J1 (n2, (a5, (d3n + 1), c6), w64 (i4 + 1), ()) h_7) (K (.slice d3a d3n d3c) h)
def s_jotterlaw23_text (K : Value → GH → Prop) (n1 : Int) (h : GH) : Prop :=
  LoopP (T := Int × (Option Addr × Nat × Nat) × Int × Unit) (fun J =>
    J (n1, (none, 0, 0), 0, ()) h) (fun J t h => s_jotterlaw23_text_l1 K J t.1 t.2.1.1 t.2.1.2.1 t.2.1.2.2 t.2.2.1 h)
theorem ok_jotterlaw23_text {K : Value → GH → Prop} {n1 : Int} {h : GH} (H : s_jotterlaw23_text K n1 h) : GC pr n_jotterlaw23_text [.int .i64 n1] h K :=
  GC_of mixed Try.func17 (hp := []) (an := an_jotterlaw23_text) (Eq.mp (by kernel_rfl : s_jotterlaw23_text K n1 h = fnVC pr Try.f17 [] an_jotterlaw23_text [.int .i64 n1] h K) H)

/-! jotter/notes.New -/
def an_notes_New : Ann := .seq .leaf (.seq .leaf .leaf)
def s_notes_New (K : Value → GH → Prop) (h : GH) : Prop :=
  NewRaw h (.map #[] 0) fun b1 h_2 => New h_2 [.int .i64 0, .map (some b1)] fun b3 h_4 =>
  K (.pointer (some ⟨b3, 0, none⟩)) h_4
theorem ok_notes_New {K : Value → GH → Prop} {h : GH} (H : s_notes_New K h) : GC pr n_notes_New [] h K :=
  GC_of mixed Try.func18 (hp := [3]) (an := an_notes_New) (Eq.mp (by kernel_rfl : s_notes_New K h = fnVC pr Try.f18 [3] an_notes_New [] h K) H)

/-! (*jotter/notes.Board).Put -/
def an_notes_Board_Put : Ann := .seq .leaf (.seq (.seq .leaf (.cond (.seq .leaf .leaf) .leaf)) (.seq (.seq .leaf (.seq .leaf (.cond (.seq .leaf .leaf) .leaf))) (.seq (.seq .leaf (.cond (.seq .leaf .leaf) .leaf)) (.seq .leaf (.seq .leaf (.seq .leaf .leaf))))))
def s_notes_Board_Put (K : Value → GH → Prop) (b1 : Option Addr)
  (doc2a : Option Addr) (doc2n : Nat) (doc2c : Nat) (from_3 : Int)
  (to_4 : Int) (client5 : Int) (words6 : ByteArray) (h : GH) : Prop :=
  br (decide (from_3 < 0)) (K (.tuple ⟨[.int .i64 0, .int .i64 230]⟩) h)
  (br (decide (to_4 > ((doc2n : Nat) : Int))) (K (.tuple ⟨[.int .i64 0, .int .i64 230]⟩) h)
    (br (decide (from_3 ≥ to_4)) (K (.tuple ⟨[.int .i64 0, .int .i64 230]⟩) h)
      (GC pr n_notes_worded [.int .i64 client5, .string words6] h fun v_7 h_8 =>
        ∃ (x_9 : Int), v_7 = (.int .i64 x_9 : Value) ∧ br (x_9 != 0)
        (K (.tuple ⟨[.int .i64 0, .int .i64 x_9]⟩) h_8) (nn b1 fun p10 =>
          ∃ (x_11 : Int), Rds h_8 (Addr.add p10 0) [.int .i64 x_11] ∧
          br (decide (x_11 ≥ 256)) (K (.tuple ⟨[.int .i64 0, .int .i64 234]⟩) h_8)
          (nn b1 fun p12 => ∃ (x_13 : Int), Rds h_8 (Addr.add p12 0) [.int .i64 x_13] ∧
            nn b1 fun p14 => Wr h_8 (Addr.add p14 0) [.int .i64 (w64 (x_13 + 1))] fun h_15 =>
            nn b1 fun p16 => ∃ (x_17 : Option Nat), Rds h_15 (Addr.add p16 1) [.map x_17] ∧
            nn b1 fun p18 => ∃ (x_19 : Int), Rds h_15 (Addr.add p18 0) [.int .i64 x_19] ∧
            0 ≤ to_4 ∧ to_4 ≤ ((doc2c : Nat) : Int) ∧ 0 ≤ from_3 ∧
            from_3 ≤ ((to_4.toNat : Nat) : Int) ∧ ∃ Y23 : List Value, Y23.length = (to_4.toNat - from_3.toNat) * 3 ∧
            RdsO h_15 (cutA doc2a from_3.toNat doc2c 3) Y23 ∧ AppK h_15 none 0 0 3 24 Y23 (to_4.toNat - from_3.toNat) fun a20 c21 h_22 =>
            Rds h_22 (Addr.add p18 0) [.int .i64 x_19] ∧ Rds h_22 (Addr.add p16 1) [.map x_17] ∧
            New h_22 [.slice a20 (0 + (to_4.toNat - from_3.toNat)) c21, .int .i64 client5, .string words6, .bool false, .slice none 0 0] fun b24 h_25 =>
            Rds h_25 (Addr.add p18 0) [.int .i64 x_19] ∧ Rds h_25 (Addr.add p16 1) [.map x_17] ∧
            MUp pr h_25 3 x_17 (.int .i64 x_19) (.pointer (some ⟨b24, 0, none⟩)) fun h_26 =>
            nn b1 fun p27 => ∃ (x_28 : Int), Rds h_26 (Addr.add p27 0) [.int .i64 x_28] ∧
            K (.tuple ⟨[.int .i64 x_28, .int .i64 0]⟩) h_26)))))
theorem ok_notes_Board_Put {K : Value → GH → Prop} {b1 : Option Addr} {doc2a : Option Addr} {doc2n : Nat} {doc2c : Nat} {from_3 : Int} {to_4 : Int} {client5 : Int} {words6 : ByteArray} {h : GH} (H : s_notes_Board_Put K b1 doc2a doc2n doc2c from_3 to_4 client5 words6 h) : GC pr n_notes_Board_Put [.pointer b1, .slice doc2a doc2n doc2c, .int .i64 from_3, .int .i64 to_4, .int .i64 client5, .string words6] h K :=
  GC_of mixed Try.func19 (hp := [62]) (an := an_notes_Board_Put) (Eq.mp (by kernel_rfl : s_notes_Board_Put K b1 doc2a doc2n doc2c from_3 to_4 client5 words6 h = fnVC pr Try.f19 [62] an_notes_Board_Put [.pointer b1, .slice doc2a doc2n doc2c, .int .i64 from_3, .int .i64 to_4, .int .i64 client5, .string words6] h K) H)

/-! jotter/jotterlaw23.turned -/
def an_jotterlaw23_turned : Ann := .seq .leaf (.seq .leaf (.seq (.seq .leaf (.cond (.seq .leaf (.seq .leaf .leaf)) .leaf)) (.seq .leaf (.seq .leaf .leaf))))
def s_jotterlaw23_turned (K : Value → GH → Prop) (d1a : Option Addr)
  (d1n : Nat) (d1c : Nat) (t_Out2 : Bool) (t_N3 : Int) (k4 : Int)
  (h : GH) : Prop :=
  GC pr n_jotterlaw23_within [.int .i64 t_N3, .int .i64 0, .int .i64 ((d1n : Nat) : Int)] h fun v_5 h_6 =>
  ∃ (x_7 : Int), v_5 = (.int .i64 x_7 : Value) ∧ (64 : Int) ≠ 0 ∧
  (64 : Int) ≠ 0 ∧ br t_Out2 (br (decide (((d1n : Nat) : Int) > 0))
    (GC pr n_jotterlaw23_within [.int .i64 t_N3, .int .i64 0, .int .i64 (w64 (((d1n : Nat) : Int) - 1))] h_6 fun v_8 h_9 =>
      ∃ (x_10 : Int), v_8 = (.int .i64 x_10 : Value) ∧ GC pr n_doc_Apply [.slice d1a d1n d1c, .agg ⟨[.int .i64 2, .int .i64 x_10, .int .u8 0, .int .i64 (w64 ((33 : Int) + (w64 (k4.tdiv 64)))), .int .i64 (w64 ((1 : Int) + (k4.tmod 64)))]⟩] h_9 fun v_11 h_12 =>
      ∃ (x_13a : Option Addr) (x_13n : Nat) (x_13c : Nat), ∃ (x_14 : Int), v_11 = (.tuple ⟨[.slice x_13a x_13n x_13c, .int .i64 x_14]⟩ : Value) ∧
      K (.tuple ⟨[.slice x_13a x_13n x_13c, .int .i64 x_10, .bool ((2 : Int) == 2), .bool (x_14 == 0)]⟩) h_12)
    (GC pr n_doc_Apply [.slice d1a d1n d1c, .agg ⟨[.int .i64 1, .int .i64 x_7, .int .u8 90, .int .i64 (w64 ((33 : Int) + (w64 (k4.tdiv 64)))), .int .i64 (w64 ((1 : Int) + (k4.tmod 64)))]⟩] h_6 fun v_15 h_16 =>
      ∃ (x_17a : Option Addr) (x_17n : Nat) (x_17c : Nat), ∃ (x_18 : Int), v_15 = (.tuple ⟨[.slice x_17a x_17n x_17c, .int .i64 x_18]⟩ : Value) ∧
      K (.tuple ⟨[.slice x_17a x_17n x_17c, .int .i64 x_7, .bool ((1 : Int) == 2), .bool (x_18 == 0)]⟩) h_16))
  (GC pr n_doc_Apply [.slice d1a d1n d1c, .agg ⟨[.int .i64 1, .int .i64 x_7, .int .u8 90, .int .i64 (w64 ((33 : Int) + (w64 (k4.tdiv 64)))), .int .i64 (w64 ((1 : Int) + (k4.tmod 64)))]⟩] h_6 fun v_19 h_20 =>
    ∃ (x_21a : Option Addr) (x_21n : Nat) (x_21c : Nat), ∃ (x_22 : Int), v_19 = (.tuple ⟨[.slice x_21a x_21n x_21c, .int .i64 x_22]⟩ : Value) ∧
    K (.tuple ⟨[.slice x_21a x_21n x_21c, .int .i64 x_7, .bool ((1 : Int) == 2), .bool (x_22 == 0)]⟩) h_20)
theorem ok_jotterlaw23_turned {K : Value → GH → Prop} {d1a : Option Addr} {d1n : Nat} {d1c : Nat} {t_Out2 : Bool} {t_N3 : Int} {k4 : Int} {h : GH} (H : s_jotterlaw23_turned K d1a d1n d1c t_Out2 t_N3 k4 h) : GC pr n_jotterlaw23_turned [.slice d1a d1n d1c, .agg ⟨[.bool t_Out2, .int .i64 t_N3]⟩, .int .i64 k4] h K :=
  GC_of mixed Try.func20 (hp := []) (an := an_jotterlaw23_turned) (Eq.mp (by kernel_rfl : s_jotterlaw23_turned K d1a d1n d1c t_Out2 t_N3 k4 h = fnVC pr Try.f20 [] an_jotterlaw23_turned [.slice d1a d1n d1c, .agg ⟨[.bool t_Out2, .int .i64 t_N3]⟩, .int .i64 k4] h K) H)

/-! jotter/jotterlaw23.follow -/
def an_jotterlaw23_follow : Ann := .seq .leaf (.seq .leaf (.seq .leaf (.seq (.seq .leaf (.cond (.seq .leaf .leaf) .leaf)) (.seq .leaf (.seq .leaf .leaf)))))
def s_jotterlaw23_follow (K : Value → GH → Prop) (m1a : Option Addr)
  (m1n : Nat) (m1c : Nat) (pos2 : Int) (out3 : Bool) (h : GH) : Prop :=
  0 ≤ pos2 ∧ pos2 ≤ ((m1c : Nat) : Int) ∧ ∃ Y7 : List Value, Y7.length = pos2.toNat * 1 ∧
  RdsO h m1a Y7 ∧ AppK h none 0 0 1 1 Y7 pos2.toNat fun a4 c5 h_6 =>
  br out3 (0 ≤ w64 (pos2 + 1) ∧ w64 (pos2 + 1) ≤ ((m1n : Nat) : Int) ∧
    ∃ Y11 : List Value, Y11.length = (m1n - (w64 (pos2 + 1)).toNat) * 1 ∧
    RdsO h_6 (cutA m1a ((w64 (pos2 + 1)).toNat) m1c 1) Y11 ∧ AppK h_6 a4 (0 + pos2.toNat) c5 1 1 Y11 (m1n - (w64 (pos2 + 1)).toNat) fun a8 c9 h_10 =>
    K (.slice a8 ((0 + pos2.toNat) + (m1n - (w64 (pos2 + 1)).toNat)) c9) h_10)
  (AppK h_6 a4 (0 + pos2.toNat) c5 1 1 ([.bool false]) 1 fun a12 c13 h_14 =>
    0 ≤ pos2 ∧ pos2 ≤ ((m1n : Nat) : Int) ∧ ∃ Y18 : List Value, Y18.length = (m1n - pos2.toNat) * 1 ∧
    RdsO h_14 (cutA m1a pos2.toNat m1c 1) Y18 ∧ AppK h_14 a12 ((0 + pos2.toNat) + 1) c13 1 1 Y18 (m1n - pos2.toNat) fun a15 c16 h_17 =>
    K (.slice a15 (((0 + pos2.toNat) + 1) + (m1n - pos2.toNat)) c16) h_17)
theorem ok_jotterlaw23_follow {K : Value → GH → Prop} {m1a : Option Addr} {m1n : Nat} {m1c : Nat} {pos2 : Int} {out3 : Bool} {h : GH} (H : s_jotterlaw23_follow K m1a m1n m1c pos2 out3 h) : GC pr n_jotterlaw23_follow [.slice m1a m1n m1c, .int .i64 pos2, .bool out3] h K :=
  GC_of mixed Try.func21 (hp := []) (an := an_jotterlaw23_follow) (Eq.mp (by kernel_rfl : s_jotterlaw23_follow K m1a m1n m1c pos2 out3 h = fnVC pr Try.f21 [] an_jotterlaw23_follow [.slice m1a m1n m1c, .int .i64 pos2, .bool out3] h K) H)

/-! jotter/jotterlaw23.where -/
def an_jotterlaw23_where : Ann := .seq .leaf (.seq .leaf (.seq .leaf (.seq .leaf (.seq (.seq .leaf (.one (.loop ⟨[(0, .slice), (5, .int .i64), (6, .int .i64), (7, .bool), (8, .int .i64)], [], []⟩ (.seq (.seq .leaf (.cond .leaf .leaf)) (.join ⟨[(0, .slice), (5, .int .i64), (6, .int .i64), (7, .bool), (8, .int .i64)], [], []⟩ (.one (.seq .leaf (.cond (.seq (.seq .leaf (.cond .leaf .leaf)) (.seq .leaf .leaf)) .leaf))) .leaf))))) (.seq .leaf .leaf)))))
def s_jotterlaw23_where_k1 (K : Value → GH → Prop) (J1 : ((Option Addr × Nat × Nat) × Int × Int × Bool × Int × Unit) → GH → Prop)
  (m9a : Option Addr) (m9n : Nat) (m9c : Nat) (from_10 : Int)
  (to_11 : Int) (gone12 : Bool) (i13 : Int) (h : GH) : Prop :=
  J1 ((m9a, m9n, m9c), from_10, to_11, gone12, w64 (i13 + 1), ()) h
def s_jotterlaw23_where_l1 (K : Value → GH → Prop) (J1 : ((Option Addr × Nat × Nat) × Int × Int × Bool × Int × Unit) → GH → Prop)
  (m2a : Option Addr) (m2n : Nat) (m2c : Nat) (from_3 : Int) (to_4 : Int)
  (gone5 : Bool) (i6 : Int) (h : GH) : Prop :=
  br (decide (i6 < ((m2n : Nat) : Int))) (0 ≤ i6 ∧ i6 < ((m2n : Nat) : Int) ∧
    nn m2a fun p7 => ∃ (x_8 : Bool), Rds h (Addr.add p7 (i6.toNat * 1)) [.bool x_8] ∧
    br x_8 (br gone5 (s_jotterlaw23_where_k1 K J1 m2a m2n m2c i6 (w64 (i6 + 1)) false i6 h)
      (s_jotterlaw23_where_k1 K J1 m2a m2n m2c from_3 (w64 (i6 + 1)) false i6 h))
    (s_jotterlaw23_where_k1 K J1 m2a m2n m2c from_3 to_4 gone5 i6 h))
  (K (.tuple ⟨[.int .i64 from_3, .int .i64 to_4, .bool gone5]⟩) h)
def s_jotterlaw23_where (K : Value → GH → Prop) (m1a : Option Addr)
  (m1n : Nat) (m1c : Nat) (h : GH) : Prop :=
  LoopP (T := (Option Addr × Nat × Nat) × Int × Int × Bool × Int × Unit)
  (fun J => J ((m1a, m1n, m1c), 0, 0, true, 0, ()) h) (fun J t h =>
    s_jotterlaw23_where_l1 K J t.1.1 t.1.2.1 t.1.2.2 t.2.1 t.2.2.1 t.2.2.2.1 t.2.2.2.2.1 h)
theorem ok_jotterlaw23_where {K : Value → GH → Prop} {m1a : Option Addr} {m1n : Nat} {m1c : Nat} {h : GH} (H : s_jotterlaw23_where K m1a m1n m1c h) : GC pr n_jotterlaw23_where [.slice m1a m1n m1c] h K :=
  GC_of mixed Try.func22 (hp := []) (an := an_jotterlaw23_where) (Eq.mp (by kernel_rfl : s_jotterlaw23_where K m1a m1n m1c h = fnVC pr Try.f22 [] an_jotterlaw23_where [.slice m1a m1n m1c] h K) H)

/-! jotter/jotterlaw23.put -/
def an_jotterlaw23_put : Ann := .seq .leaf (.seq (.seq .leaf (.cond (.seq .leaf .leaf) .leaf)) (.seq .leaf (.seq .leaf .leaf)))
def s_jotterlaw23_put (K : Value → GH → Prop) (b1 : Option Addr)
  (d2a : Option Addr) (d2n : Nat) (d2c : Nat) (from_3 : Int) (to_4 : Int)
  (h : GH) : Prop :=
  br (((d2n : Nat) : Int) == 0) (GC pr n_notes_Board_Put [.pointer b1, .slice d2a d2n d2c, .int .i64 0, .int .i64 0, .int .i64 5, .string (ByteArray.mk #[119])] h fun v_5 h_6 =>
    ∃ (x_7 : Int), ∃ (x_8 : Int), v_5 = (.tuple ⟨[.int .i64 x_7, .int .i64 x_8]⟩ : Value) ∧
    K (.tuple ⟨[.int .i64 x_7, .int .i64 x_8]⟩) h_6) (GC pr n_jotterlaw23_within [.int .i64 from_3, .int .i64 0, .int .i64 (w64 (((d2n : Nat) : Int) - 1))] h fun v_9 h_10 =>
    ∃ (x_11 : Int), v_9 = (.int .i64 x_11 : Value) ∧ GC pr n_jotterlaw23_within [.int .i64 to_4, .int .i64 (w64 (x_11 + 1)), .int .i64 ((d2n : Nat) : Int)] h_10 fun v_12 h_13 =>
    ∃ (x_14 : Int), v_12 = (.int .i64 x_14 : Value) ∧ GC pr n_notes_Board_Put [.pointer b1, .slice d2a d2n d2c, .int .i64 x_11, .int .i64 x_14, .int .i64 5, .string (ByteArray.mk #[119])] h_13 fun v_15 h_16 =>
    ∃ (x_17 : Int), ∃ (x_18 : Int), v_15 = (.tuple ⟨[.int .i64 x_17, .int .i64 x_18]⟩ : Value) ∧
    K (.tuple ⟨[.int .i64 x_17, .int .i64 x_18]⟩) h_16)
theorem ok_jotterlaw23_put {K : Value → GH → Prop} {b1 : Option Addr} {d2a : Option Addr} {d2n : Nat} {d2c : Nat} {from_3 : Int} {to_4 : Int} {h : GH} (H : s_jotterlaw23_put K b1 d2a d2n d2c from_3 to_4 h) : GC pr n_jotterlaw23_put [.pointer b1, .slice d2a d2n d2c, .int .i64 from_3, .int .i64 to_4] h K :=
  GC_of mixed Try.func23 (hp := []) (an := an_jotterlaw23_put) (Eq.mp (by kernel_rfl : s_jotterlaw23_put K b1 d2a d2n d2c from_3 to_4 h = fnVC pr Try.f23 [] an_jotterlaw23_put [.pointer b1, .slice d2a d2n d2c, .int .i64 from_3, .int .i64 to_4] h K) H)

/-! jotter/jotterlaw23.eqNote -/
def an_jotterlaw23_eqNote : Ann := .seq .leaf (.seq (.seq .leaf (.cond (.seq .leaf .leaf) .leaf)) (.seq .leaf .leaf))
def s_jotterlaw23_eqNote (K : Value → GH → Prop) (a_ID1 : Int)
  (a_Client2 : Int) (a_Words3 : ByteArray) (a_From4 : Int) (a_To5 : Int)
  (a_Gone6 : Bool) (a_Shut7 : Bool) (a_Replies8a : Option Addr)
  (a_Replies8n : Nat) (a_Replies8c : Nat) (b_ID9 : Int) (b_Client10 : Int)
  (b_Words11 : ByteArray) (b_From12 : Int) (b_To13 : Int) (b_Gone14 : Bool)
  (b_Shut15 : Bool) (b_Replies16a : Option Addr) (b_Replies16n : Nat)
  (b_Replies16c : Nat) (h : GH) : Prop :=
  br (a_ID1 != b_ID9) (K (.bool false) h) (br (a_Client2 != b_Client10)
    (K (.bool false) h) (br (!(a_Words3.toList == b_Words11.toList))
      (K (.bool false) h) (br (a_From4 != b_From12) (K (.bool false) h)
        (br (a_To5 != b_To13) (K (.bool false) h) (br (a_Gone6 == b_Gone14)
            (br (a_Shut7 == b_Shut15) (GC pr n_jotterlaw23_eqReplies [.slice a_Replies8a a_Replies8n a_Replies8c, .slice b_Replies16a b_Replies16n b_Replies16c] h fun v_17 h_18 =>
                ∃ (x_19 : Bool), v_17 = (.bool x_19 : Value) ∧
                K (.bool x_19) h_18) (K (.bool false) h)) (K (.bool false) h))))))
theorem ok_jotterlaw23_eqNote {K : Value → GH → Prop} {a_ID1 : Int} {a_Client2 : Int} {a_Words3 : ByteArray} {a_From4 : Int} {a_To5 : Int} {a_Gone6 : Bool} {a_Shut7 : Bool} {a_Replies8a : Option Addr} {a_Replies8n : Nat} {a_Replies8c : Nat} {b_ID9 : Int} {b_Client10 : Int} {b_Words11 : ByteArray} {b_From12 : Int} {b_To13 : Int} {b_Gone14 : Bool} {b_Shut15 : Bool} {b_Replies16a : Option Addr} {b_Replies16n : Nat} {b_Replies16c : Nat} {h : GH} (H : s_jotterlaw23_eqNote K a_ID1 a_Client2 a_Words3 a_From4 a_To5 a_Gone6 a_Shut7 a_Replies8a a_Replies8n a_Replies8c b_ID9 b_Client10 b_Words11 b_From12 b_To13 b_Gone14 b_Shut15 b_Replies16a b_Replies16n b_Replies16c h) : GC pr n_jotterlaw23_eqNote [.agg ⟨[.int .i64 a_ID1, .int .i64 a_Client2, .string a_Words3, .int .i64 a_From4, .int .i64 a_To5, .bool a_Gone6, .bool a_Shut7, .slice a_Replies8a a_Replies8n a_Replies8c]⟩, .agg ⟨[.int .i64 b_ID9, .int .i64 b_Client10, .string b_Words11, .int .i64 b_From12, .int .i64 b_To13, .bool b_Gone14, .bool b_Shut15, .slice b_Replies16a b_Replies16n b_Replies16c]⟩] h K :=
  GC_of mixed Try.func31 (hp := []) (an := an_jotterlaw23_eqNote) (Eq.mp (by kernel_rfl : s_jotterlaw23_eqNote K a_ID1 a_Client2 a_Words3 a_From4 a_To5 a_Gone6 a_Shut7 a_Replies8a a_Replies8n a_Replies8c b_ID9 b_Client10 b_Words11 b_From12 b_To13 b_Gone14 b_Shut15 b_Replies16a b_Replies16n b_Replies16c h = fnVC pr Try.f31 [] an_jotterlaw23_eqNote [.agg ⟨[.int .i64 a_ID1, .int .i64 a_Client2, .string a_Words3, .int .i64 a_From4, .int .i64 a_To5, .bool a_Gone6, .bool a_Shut7, .slice a_Replies8a a_Replies8n a_Replies8c]⟩, .agg ⟨[.int .i64 b_ID9, .int .i64 b_Client10, .string b_Words11, .int .i64 b_From12, .int .i64 b_To13, .bool b_Gone14, .bool b_Shut15, .slice b_Replies16a b_Replies16n b_Replies16c]⟩] h K) H)

/-! jotter/notes.worded -/
def an_notes_worded : Ann := .seq .leaf (.seq (.seq .leaf (.cond (.seq .leaf .leaf) .leaf)) (.seq (.seq .leaf (.cond (.seq .leaf .leaf) .leaf)) (.seq (.seq .leaf (.one (.loop ⟨[(1, .str), (21, .int .i64), (22, .int .i64)], [], []⟩ (.seq .leaf (.seq (.cond .leaf .leaf) (.seq (.one (.seq .leaf (.seq .leaf (.cond (.seq .leaf .leaf) .leaf)))) .leaf)))))) (.seq .leaf .leaf))))
def s_notes_worded_l1 (K : Value → GH → Prop) (J1 : (ByteArray × Int × Int × Unit) → GH → Prop)
  (words3 : ByteArray) (x_4 : Int) (x_5 : Int) (h : GH) : Prop :=
  br (decide (x_5 < x_4)) (0 ≤ x_5 ∧ x_5 < ((words3.size : Nat) : Int) ∧
    br (decide ((bt words3 x_5) < 32)) (K (.int .i64 231) h) (0 ≤ x_5 ∧
      x_5 < ((words3.size : Nat) : Int) ∧ br (decide ((bt words3 x_5) > 126))
      (K (.int .i64 231) h) (J1 (words3, x_4, w64 (x_5 + 1), ()) h)))
  (K (.int .i64 0) h)
def s_notes_worded (K : Value → GH → Prop) (client1 : Int) (words2 : ByteArray)
  (h : GH) : Prop :=
  br (decide (client1 < 1)) (K (.int .i64 235) h) (br (decide (client1 > 64))
    (K (.int .i64 235) h) (br (decide (((words2.size : Nat) : Int) < 1))
      (K (.int .i64 231) h) (br (decide (((words2.size : Nat) : Int) > 120))
        (K (.int .i64 231) h) (LoopP (T := ByteArray × Int × Int × Unit)
          (fun J => J (words2, ((words2.size : Nat) : Int), 0, ()) h)
          (fun J t h => s_notes_worded_l1 K J t.1 t.2.1 t.2.2.1 h)))))
theorem ok_notes_worded {K : Value → GH → Prop} {client1 : Int} {words2 : ByteArray} {h : GH} (H : s_notes_worded K client1 words2 h) : GC pr n_notes_worded [.int .i64 client1, .string words2] h K :=
  GC_of mixed Try.func32 (hp := []) (an := an_notes_worded) (Eq.mp (by kernel_rfl : s_notes_worded K client1 words2 h = fnVC pr Try.f32 [] an_notes_worded [.int .i64 client1, .string words2] h K) H)

/-! (*jotter/notes.note).look -/
def an_notes_note_look : Ann := .seq .leaf (.seq .leaf (.seq .leaf .leaf))
def s_notes_note_look (K : Value → GH → Prop) (n1 : Option Addr)
  (id2 : Int) (doc3a : Option Addr) (doc3n : Nat) (doc3c : Nat)
  (h : GH) : Prop :=
  GC pr n_notes_note_span [.pointer n1, .slice doc3a doc3n doc3c] h fun v_4 h_5 =>
  ∃ (x_6 : Int), ∃ (x_7 : Int), v_4 = (.tuple ⟨[.int .i64 x_6, .int .i64 x_7]⟩ : Value) ∧
  nn n1 fun p8 => ∃ (x_9 : Int), Rds h_5 (Addr.add p8 1) [.int .i64 x_9] ∧
  nn n1 fun p10 => ∃ (x_11 : ByteArray), Rds h_5 (Addr.add p10 2) [.string x_11] ∧
  nn n1 fun p12 => ∃ (x_13 : Bool), Rds h_5 (Addr.add p12 3) [.bool x_13] ∧
  nn n1 fun p14 => ∃ (x_15a : Option Addr) (x_15n : Nat) (x_15c : Nat), Rds h_5 (Addr.add p14 4) [.slice x_15a x_15n x_15c] ∧
  ∃ Y19 : List Value, Y19.length = x_15n * 2 ∧ RdsO h_5 x_15a Y19 ∧
  AppK h_5 none 0 0 2 24 Y19 x_15n fun a16 c17 h_18 => Rds h_18 (Addr.add p12 3) [.bool x_13] ∧
  Rds h_18 (Addr.add p10 2) [.string x_11] ∧ Rds h_18 (Addr.add p8 1) [.int .i64 x_9] ∧
  K (.agg ⟨[.int .i64 id2, .int .i64 x_9, .string x_11, .int .i64 x_6, .int .i64 x_7, .bool (x_7 == 0), .bool x_13, .slice a16 (0 + x_15n) c17]⟩) h_18
theorem ok_notes_note_look {K : Value → GH → Prop} {n1 : Option Addr} {id2 : Int} {doc3a : Option Addr} {doc3n : Nat} {doc3c : Nat} {h : GH} (H : s_notes_note_look K n1 id2 doc3a doc3n doc3c h) : GC pr n_notes_note_look [.pointer n1, .int .i64 id2, .slice doc3a doc3n doc3c] h K :=
  GC_of mixed Try.func33 (hp := []) (an := an_notes_note_look) (Eq.mp (by kernel_rfl : s_notes_note_look K n1 id2 doc3a doc3n doc3c h = fnVC pr Try.f33 [] an_notes_note_look [.pointer n1, .int .i64 id2, .slice doc3a doc3n doc3c] h K) H)

/-! jotter/doc.Apply -/
def an_doc_Apply : Ann := .seq .leaf (.seq (.seq .leaf (.seq .leaf (.cond (.seq .leaf .leaf) .leaf))) (.seq .leaf (.seq (.seq .leaf (.one (.seq .leaf (.cond (.seq .leaf (.seq .leaf .leaf)) (.seq .leaf (.cond (.seq .leaf .leaf) .leaf)))))) (.seq .leaf .leaf))))
def s_doc_Apply (K : Value → GH → Prop) (d1a : Option Addr) (d1n : Nat)
  (d1c : Nat) (op_Kind2 : Int) (op_Pos3 : Int) (op_Ch4 : Int)
  (op_Client5 : Int) (op_Seq6 : Int) (h : GH) : Prop :=
  GC pr n_doc_Fits [.int .i64 ((d1n : Nat) : Int), .agg ⟨[.int .i64 op_Kind2, .int .i64 op_Pos3, .int .u8 op_Ch4, .int .i64 op_Client5, .int .i64 op_Seq6]⟩] h fun v_7 h_8 =>
  ∃ (x_9 : Int), v_7 = (.int .i64 x_9 : Value) ∧ br (x_9 != 0)
  (K (.tuple ⟨[.slice none 0 0, .int .i64 x_9]⟩) h_8) (0 ≤ (0 : Int) ∧
    (0 : Int) ≤ (w64 (((d1n : Nat) : Int) + 1)) ∧ (w64 (((d1n : Nat) : Int) + 1)) * 24 ≤ 140737488355328 ∧
    ∀ b10 : Nat, h_8 b10 = none → br (op_Kind2 == 1) (0 ≤ op_Pos3 ∧
      op_Pos3 ≤ ((d1c : Nat) : Int) ∧ ∃ Y15 : List Value, Y15.length = op_Pos3.toNat * 3 ∧
      RdsO (GH.set h_8 b10 (.cells 0 (List.replicate (w64 (((d1n : Nat) : Int) + 1)).toNat [.int .u8 0, .int .i64 0, .int .i64 0]).flatten (some ((w64 (((d1n : Nat) : Int) + 1)).toNat * 3)))) d1a Y15 ∧
      AppK (GH.set h_8 b10 (.cells 0 (List.replicate (w64 (((d1n : Nat) : Int) + 1)).toNat [.int .u8 0, .int .i64 0, .int .i64 0]).flatten (some ((w64 (((d1n : Nat) : Int) + 1)).toNat * 3))))
      (some ⟨b10, 0, none⟩) ((0 : Int).toNat) ((w64 (((d1n : Nat) : Int) + 1)).toNat) 3 24 Y15 op_Pos3.toNat fun a12 c13 h_14 =>
      AppK h_14 a12 ((0 : Int).toNat + op_Pos3.toNat) c13 3 24 ([.int .u8 op_Ch4, .int .i64 op_Client5, .int .i64 op_Seq6]) 1 fun a16 c17 h_18 =>
      0 ≤ op_Pos3 ∧ op_Pos3 ≤ ((d1n : Nat) : Int) ∧ ∃ Y22 : List Value, Y22.length = (d1n - op_Pos3.toNat) * 3 ∧
      RdsO h_18 (cutA d1a op_Pos3.toNat d1c 3) Y22 ∧ AppK h_18 a16 (((0 : Int).toNat + op_Pos3.toNat) + 1) c17 3 24 Y22 (d1n - op_Pos3.toNat) fun a19 c20 h_21 =>
      K (.tuple ⟨[.slice a19 ((((0 : Int).toNat + op_Pos3.toNat) + 1) + (d1n - op_Pos3.toNat)) c20, .int .i64 0]⟩) h_21)
    (br (op_Kind2 == 2) (0 ≤ op_Pos3 ∧ op_Pos3 ≤ ((d1c : Nat) : Int) ∧
        ∃ Y26 : List Value, Y26.length = op_Pos3.toNat * 3 ∧ RdsO (GH.set h_8 b10 (.cells 0 (List.replicate (w64 (((d1n : Nat) : Int) + 1)).toNat [.int .u8 0, .int .i64 0, .int .i64 0]).flatten (some ((w64 (((d1n : Nat) : Int) + 1)).toNat * 3)))) d1a Y26 ∧
        AppK (GH.set h_8 b10 (.cells 0 (List.replicate (w64 (((d1n : Nat) : Int) + 1)).toNat [.int .u8 0, .int .i64 0, .int .i64 0]).flatten (some ((w64 (((d1n : Nat) : Int) + 1)).toNat * 3))))
        (some ⟨b10, 0, none⟩) ((0 : Int).toNat) ((w64 (((d1n : Nat) : Int) + 1)).toNat) 3 24 Y26 op_Pos3.toNat fun a23 c24 h_25 =>
        0 ≤ w64 (op_Pos3 + 1) ∧ w64 (op_Pos3 + 1) ≤ ((d1n : Nat) : Int) ∧
        ∃ Y30 : List Value, Y30.length = (d1n - (w64 (op_Pos3 + 1)).toNat) * 3 ∧
        RdsO h_25 (cutA d1a ((w64 (op_Pos3 + 1)).toNat) d1c 3) Y30 ∧
        AppK h_25 a23 ((0 : Int).toNat + op_Pos3.toNat) c24 3 24 Y30 (d1n - (w64 (op_Pos3 + 1)).toNat) fun a27 c28 h_29 =>
        K (.tuple ⟨[.slice a27 (((0 : Int).toNat + op_Pos3.toNat) + (d1n - (w64 (op_Pos3 + 1)).toNat)) c28, .int .i64 0]⟩) h_29)
      (∃ Y34 : List Value, Y34.length = d1n * 3 ∧ RdsO (GH.set h_8 b10 (.cells 0 (List.replicate (w64 (((d1n : Nat) : Int) + 1)).toNat [.int .u8 0, .int .i64 0, .int .i64 0]).flatten (some ((w64 (((d1n : Nat) : Int) + 1)).toNat * 3)))) d1a Y34 ∧
        AppK (GH.set h_8 b10 (.cells 0 (List.replicate (w64 (((d1n : Nat) : Int) + 1)).toNat [.int .u8 0, .int .i64 0, .int .i64 0]).flatten (some ((w64 (((d1n : Nat) : Int) + 1)).toNat * 3))))
        (some ⟨b10, 0, none⟩) ((0 : Int).toNat) ((w64 (((d1n : Nat) : Int) + 1)).toNat) 3 24 Y34 d1n fun a31 c32 h_33 =>
        K (.tuple ⟨[.slice a31 ((0 : Int).toNat + d1n) c32, .int .i64 0]⟩) h_33)))
theorem ok_doc_Apply {K : Value → GH → Prop} {d1a : Option Addr} {d1n : Nat} {d1c : Nat} {op_Kind2 : Int} {op_Pos3 : Int} {op_Ch4 : Int} {op_Client5 : Int} {op_Seq6 : Int} {h : GH} (H : s_doc_Apply K d1a d1n d1c op_Kind2 op_Pos3 op_Ch4 op_Client5 op_Seq6 h) : GC pr n_doc_Apply [.slice d1a d1n d1c, .agg ⟨[.int .i64 op_Kind2, .int .i64 op_Pos3, .int .u8 op_Ch4, .int .i64 op_Client5, .int .i64 op_Seq6]⟩] h K :=
  GC_of mixed Try.func34 (hp := []) (an := an_doc_Apply) (Eq.mp (by kernel_rfl : s_doc_Apply K d1a d1n d1c op_Kind2 op_Pos3 op_Ch4 op_Client5 op_Seq6 h = fnVC pr Try.f34 [] an_doc_Apply [.slice d1a d1n d1c, .agg ⟨[.int .i64 op_Kind2, .int .i64 op_Pos3, .int .u8 op_Ch4, .int .i64 op_Client5, .int .i64 op_Seq6]⟩] h K) H)

/-! (*jotter/notes.note).span -/
def an_notes_note_span : Ann := .seq .leaf (.seq (.seq .leaf (.one (.loop ⟨[(0, .ptr), (4, .int .i64), (5, .int .i64), (8, .slice), (9, .int .i64), (10, .int .i64)], [], []⟩ (.seq .leaf (.seq (.cond .leaf .leaf) (.seq (.one (.seq .leaf (.seq .leaf (.cond (.seq (.seq .leaf (.cond .leaf .leaf)) .leaf) .leaf)))) .leaf)))))) (.seq .leaf .leaf))
def s_notes_note_span_l1 (K : Value → GH → Prop) (J1 : (Option Addr × Int × Int × (Option Addr × Nat × Nat) × Int × Int × Unit) → GH → Prop)
  (n3 : Option Addr) (from_4 : Int) (to_5 : Int) (x_6a : Option Addr)
  (x_6n : Nat) (x_6c : Nat) (x_7 : Int) (x_8 : Int) (h : GH) : Prop :=
  br (decide (x_8 < x_7)) (0 ≤ x_8 ∧ x_8 < ((x_6n : Nat) : Int) ∧
    nn x_6a fun p9 => ∃ (x_Ch10 : Int), ∃ (x_Client11 : Int), ∃ (x_Seq12 : Int), Rds h (Addr.add p9 (x_8.toNat * 3)) [.int .u8 x_Ch10, .int .i64 x_Client11, .int .i64 x_Seq12] ∧
    GC pr n_notes_note_holds [.pointer n3, .agg ⟨[.int .u8 x_Ch10, .int .i64 x_Client11, .int .i64 x_Seq12]⟩] h fun v_13 h_14 =>
    ∃ (x_15 : Bool), v_13 = (.bool x_15 : Value) ∧ br x_15 (br (to_5 == 0)
      (J1 (n3, x_8, w64 (x_8 + 1), (x_6a, x_6n, x_6c), x_7, w64 (x_8 + 1), ()) h_14)
      (J1 (n3, from_4, w64 (x_8 + 1), (x_6a, x_6n, x_6c), x_7, w64 (x_8 + 1), ()) h_14))
    (J1 (n3, from_4, to_5, (x_6a, x_6n, x_6c), x_7, w64 (x_8 + 1), ()) h_14))
  (K (.tuple ⟨[.int .i64 from_4, .int .i64 to_5]⟩) h)
def s_notes_note_span (K : Value → GH → Prop) (n1 : Option Addr)
  (doc2a : Option Addr) (doc2n : Nat) (doc2c : Nat) (h : GH) : Prop :=
  LoopP (T := Option Addr × Int × Int × (Option Addr × Nat × Nat) × Int × Int × Unit)
  (fun J => J (n1, 0, 0, (doc2a, doc2n, doc2c), ((doc2n : Nat) : Int), 0, ()) h)
  (fun J t h => s_notes_note_span_l1 K J t.1 t.2.1 t.2.2.1 t.2.2.2.1.1 t.2.2.2.1.2.1 t.2.2.2.1.2.2 t.2.2.2.2.1 t.2.2.2.2.2.1 h)
theorem ok_notes_note_span {K : Value → GH → Prop} {n1 : Option Addr} {doc2a : Option Addr} {doc2n : Nat} {doc2c : Nat} {h : GH} (H : s_notes_note_span K n1 doc2a doc2n doc2c h) : GC pr n_notes_note_span [.pointer n1, .slice doc2a doc2n doc2c] h K :=
  GC_of mixed Try.func36 (hp := []) (an := an_notes_note_span) (Eq.mp (by kernel_rfl : s_notes_note_span K n1 doc2a doc2n doc2c h = fnVC pr Try.f36 [] an_notes_note_span [.pointer n1, .slice doc2a doc2n doc2c] h K) H)

/-! jotter/doc.Fits -/
def an_doc_Fits : Ann := .seq .leaf (.seq (.seq .leaf (.seq .leaf (.cond (.seq .leaf .leaf) .leaf))) (.seq (.seq .leaf (.cond (.seq .leaf .leaf) .leaf)) (.seq (.seq .leaf (.cond (.seq .leaf .leaf) .leaf)) (.seq .leaf .leaf))))
def s_doc_Fits (K : Value → GH → Prop) (n1 : Int) (op_Kind2 : Int)
  (op_Pos3 : Int) (op_Ch4 : Int) (op_Client5 : Int) (op_Seq6 : Int)
  (h : GH) : Prop :=
  GC pr n_doc_Valid [.agg ⟨[.int .i64 op_Kind2, .int .i64 op_Pos3, .int .u8 op_Ch4, .int .i64 op_Client5, .int .i64 op_Seq6]⟩] h fun v_7 h_8 =>
  ∃ (x_9 : Int), v_7 = (.int .i64 x_9 : Value) ∧ br (x_9 != 0)
  (K (.int .i64 x_9) h_8) (GC pr n_doc_within [.int .i64 n1, .int .i64 0, .int .i64 4096] h_8 fun v_10 h_11 =>
    ∃ (x_12 : Bool), v_10 = (.bool x_12 : Value) ∧ br (!x_12)
    (K (.int .i64 44) h_11) (br (op_Kind2 == 1) (br (n1 == 4096)
        (K (.int .i64 44) h_11) (br (op_Kind2 == 1) (br (decide (op_Pos3 > n1))
            (K (.int .i64 43) h_11) (br (op_Kind2 == 2) (br (decide (op_Pos3 ≥ n1))
                (K (.int .i64 43) h_11) (K (.int .i64 0) h_11))
              (K (.int .i64 0) h_11))) (br (op_Kind2 == 2) (br (decide (op_Pos3 ≥ n1))
              (K (.int .i64 43) h_11) (K (.int .i64 0) h_11))
            (K (.int .i64 0) h_11)))) (br (op_Kind2 == 1) (br (decide (op_Pos3 > n1))
          (K (.int .i64 43) h_11) (br (op_Kind2 == 2) (br (decide (op_Pos3 ≥ n1))
              (K (.int .i64 43) h_11) (K (.int .i64 0) h_11))
            (K (.int .i64 0) h_11))) (br (op_Kind2 == 2) (br (decide (op_Pos3 ≥ n1))
            (K (.int .i64 43) h_11) (K (.int .i64 0) h_11)) (K (.int .i64 0) h_11)))))
theorem ok_doc_Fits {K : Value → GH → Prop} {n1 : Int} {op_Kind2 : Int} {op_Pos3 : Int} {op_Ch4 : Int} {op_Client5 : Int} {op_Seq6 : Int} {h : GH} (H : s_doc_Fits K n1 op_Kind2 op_Pos3 op_Ch4 op_Client5 op_Seq6 h) : GC pr n_doc_Fits [.int .i64 n1, .agg ⟨[.int .i64 op_Kind2, .int .i64 op_Pos3, .int .u8 op_Ch4, .int .i64 op_Client5, .int .i64 op_Seq6]⟩] h K :=
  GC_of mixed Try.func48 (hp := []) (an := an_doc_Fits) (Eq.mp (by kernel_rfl : s_doc_Fits K n1 op_Kind2 op_Pos3 op_Ch4 op_Client5 op_Seq6 h = fnVC pr Try.f48 [] an_doc_Fits [.int .i64 n1, .agg ⟨[.int .i64 op_Kind2, .int .i64 op_Pos3, .int .u8 op_Ch4, .int .i64 op_Client5, .int .i64 op_Seq6]⟩] h K) H)

/-! (*jotter/notes.note).holds -/
def an_notes_note_holds : Ann := .seq .leaf (.seq (.seq .leaf (.one (.loop ⟨[(10, .slice), (11, .int .i64), (12, .int .i64)], [(3, 3, 0)], [(3, [.int .u8, .int .i64, .int .i64])]⟩ (.seq .leaf (.seq (.cond .leaf .leaf) (.seq (.one (.seq .leaf (.seq .leaf (.cond (.seq .leaf .leaf) .leaf)))) .leaf)))))) (.seq .leaf .leaf))
def s_notes_note_holds_l1 (K : Value → GH → Prop) (J1 : ((Option Addr × Nat × Nat) × Int × Int × Int × Int × Int × Unit) → GH → Prop)
  (x_7a : Option Addr) (x_7n : Nat) (x_7c : Nat) (x_8 : Int) (x_9 : Int)
  (x_10 : Int) (x_11 : Int) (x_12 : Int) (h : GH) : Prop :=
  br (decide (x_9 < x_8)) (0 ≤ x_9 ∧ x_9 < ((x_7n : Nat) : Int) ∧
    nn x_7a fun p13 => ∃ (x_Ch14 : Int), ∃ (x_Client15 : Int), ∃ (x_Seq16 : Int), Rds h (Addr.add p13 (x_9.toNat * 3)) [.int .u8 x_Ch14, .int .i64 x_Client15, .int .i64 x_Seq16] ∧
    br ((x_Ch14 == x_10) && ((x_Client15 == x_11) && (x_Seq16 == x_12)))
    (K (.bool true) h) (J1 ((x_7a, x_7n, x_7c), x_8, w64 (x_9 + 1), x_10, x_11, x_12, ()) h))
  (K (.bool false) h)
def s_notes_note_holds (K : Value → GH → Prop) (n1 : Option Addr)
  (x_Ch2 : Int) (x_Client3 : Int) (x_Seq4 : Int) (h : GH) : Prop :=
  nn n1 fun p5 => ∃ (x_6a : Option Addr) (x_6n : Nat) (x_6c : Nat), Rds h (Addr.add p5 0) [.slice x_6a x_6n x_6c] ∧
  LoopP (T := (Option Addr × Nat × Nat) × Int × Int × Int × Int × Int × Unit)
  (fun J => J ((x_6a, x_6n, x_6c), ((x_6n : Nat) : Int), 0, x_Ch2, x_Client3, x_Seq4, ()) h)
  (fun J t h => s_notes_note_holds_l1 K J t.1.1 t.1.2.1 t.1.2.2 t.2.1 t.2.2.1 t.2.2.2.1 t.2.2.2.2.1 t.2.2.2.2.2.1 h)
theorem ok_notes_note_holds {K : Value → GH → Prop} {n1 : Option Addr} {x_Ch2 : Int} {x_Client3 : Int} {x_Seq4 : Int} {h : GH} (H : s_notes_note_holds K n1 x_Ch2 x_Client3 x_Seq4 h) : GC pr n_notes_note_holds [.pointer n1, .agg ⟨[.int .u8 x_Ch2, .int .i64 x_Client3, .int .i64 x_Seq4]⟩] h K :=
  GC_of mixed Try.func50 (hp := []) (an := an_notes_note_holds) (Eq.mp (by kernel_rfl : s_notes_note_holds K n1 x_Ch2 x_Client3 x_Seq4 h = fnVC pr Try.f50 [] an_notes_note_holds [.pointer n1, .agg ⟨[.int .u8 x_Ch2, .int .i64 x_Client3, .int .i64 x_Seq4]⟩] h K) H)

/-! jotter/doc.Valid -/
def an_doc_Valid : Ann := .seq .leaf (.seq (.seq .leaf (.cond (.seq .leaf .leaf) .leaf)) (.seq (.seq .leaf (.cond (.seq .leaf .leaf) .leaf)) (.seq (.seq .leaf (.cond (.seq .leaf (.cond (.seq .leaf .leaf) .leaf)) (.seq .leaf (.cond (.seq .leaf .leaf) .leaf)))) (.seq .leaf (.seq (.seq .leaf (.cond .leaf .leaf)) (.seq (.seq .leaf (.cond (.seq .leaf .leaf) .leaf)) (.seq .leaf .leaf)))))))
def s_doc_Valid (K : Value → GH → Prop) (op_Kind1 : Int) (op_Pos2 : Int)
  (op_Ch3 : Int) (op_Client4 : Int) (op_Seq5 : Int) (h : GH) : Prop :=
  GC pr n_doc_within [.int .i64 op_Kind1, .int .i64 0, .int .i64 2] h fun v_6 h_7 =>
  ∃ (x_8 : Bool), v_6 = (.bool x_8 : Value) ∧ br (!x_8) (K (.int .i64 40) h_7)
  (GC pr n_doc_within [.int .i64 op_Client4, .int .i64 1, .int .i64 64] h_7 fun v_9 h_10 =>
    ∃ (x_11 : Bool), v_9 = (.bool x_11 : Value) ∧ br (!x_11) (K (.int .i64 41) h_10)
    (GC pr n_doc_within [.int .i64 op_Seq5, .int .i64 1, .int .i64 64] h_10 fun v_12 h_13 =>
      ∃ (x_14 : Bool), v_12 = (.bool x_14 : Value) ∧ br (!x_14)
      (K (.int .i64 41) h_13) (br (op_Kind1 == 1) (GC pr n_doc_within [.int .i64 (w64 (op_Ch3)), .int .i64 32, .int .i64 126] h_13 fun v_15 h_16 =>
          ∃ (x_17 : Bool), v_15 = (.bool x_17 : Value) ∧ br (!x_17)
          (K (.int .i64 42) h_16) (br (op_Kind1 == 0) (GC pr n_doc_within [.int .i64 op_Pos2, .int .i64 0, .int .i64 0] h_16 fun v_18 h_19 =>
              ∃ (x_20 : Bool), v_18 = (.bool x_20 : Value) ∧ br (!x_20)
              (K (.int .i64 43) h_19) (K (.int .i64 0) h_19))
            (GC pr n_doc_within [.int .i64 op_Pos2, .int .i64 0, .int .i64 4095] h_16 fun v_21 h_22 =>
              ∃ (x_23 : Bool), v_21 = (.bool x_23 : Value) ∧ br (!x_23)
              (K (.int .i64 43) h_22) (K (.int .i64 0) h_22))))
        (br (op_Ch3 != 0) (K (.int .i64 42) h_13) (br (op_Kind1 == 0)
            (GC pr n_doc_within [.int .i64 op_Pos2, .int .i64 0, .int .i64 0] h_13 fun v_24 h_25 =>
              ∃ (x_26 : Bool), v_24 = (.bool x_26 : Value) ∧ br (!x_26)
              (K (.int .i64 43) h_25) (K (.int .i64 0) h_25))
            (GC pr n_doc_within [.int .i64 op_Pos2, .int .i64 0, .int .i64 4095] h_13 fun v_27 h_28 =>
              ∃ (x_29 : Bool), v_27 = (.bool x_29 : Value) ∧ br (!x_29)
              (K (.int .i64 43) h_28) (K (.int .i64 0) h_28)))))))
theorem ok_doc_Valid {K : Value → GH → Prop} {op_Kind1 : Int} {op_Pos2 : Int} {op_Ch3 : Int} {op_Client4 : Int} {op_Seq5 : Int} {h : GH} (H : s_doc_Valid K op_Kind1 op_Pos2 op_Ch3 op_Client4 op_Seq5 h) : GC pr n_doc_Valid [.agg ⟨[.int .i64 op_Kind1, .int .i64 op_Pos2, .int .u8 op_Ch3, .int .i64 op_Client4, .int .i64 op_Seq5]⟩] h K :=
  GC_of mixed Try.func58 (hp := []) (an := an_doc_Valid) (Eq.mp (by kernel_rfl : s_doc_Valid K op_Kind1 op_Pos2 op_Ch3 op_Client4 op_Seq5 h = fnVC pr Try.f58 [] an_doc_Valid [.agg ⟨[.int .i64 op_Kind1, .int .i64 op_Pos2, .int .u8 op_Ch3, .int .i64 op_Client4, .int .i64 op_Seq5]⟩] h K) H)

/-! jotter/doc.within -/
def an_doc_within : Ann := .seq .leaf (.seq .leaf .leaf)
def s_doc_within (K : Value → GH → Prop) (n1 : Int) (lo2 : Int)
  (hi3 : Int) (h : GH) : Prop :=
  br (decide (lo2 ≤ n1)) (K (.bool (decide (n1 ≤ hi3))) h) (K (.bool false) h)
theorem ok_doc_within {K : Value → GH → Prop} {n1 : Int} {lo2 : Int} {hi3 : Int} {h : GH} (H : s_doc_within K n1 lo2 hi3 h) : GC pr n_doc_within [.int .i64 n1, .int .i64 lo2, .int .i64 hi3] h K :=
  GC_of mixed Try.func59 (hp := []) (an := an_doc_within) (Eq.mp (by kernel_rfl : s_doc_within K n1 lo2 hi3 h = fnVC pr Try.f59 [] an_doc_within [.int .i64 n1, .int .i64 lo2, .int .i64 hi3] h K) H)

end Go.Proofs.Ytjieepgapjbjlaa.G
