/- What the ghost machine asks of functions of the program. -/
import Derived.Test.YtjieepgapjbjlaaVA
import Derived.Test.YtjieepgapjbjlaaV11
import Derived.Test.YtjieepgapjbjlaaChecked
namespace Go.Proofs.Ytjieepgapjbjlaa.G
open Go.Gv
set_option linter.unusedVariables false
set_option maxRecDepth 100000
abbrev n_notes_Board_Sweep : FuncId := 24
abbrev n_notes_Board_All : FuncId := 25
abbrev n_jotterlaw23_eqNotes : FuncId := 30
abbrev n_notes_Board_ids : FuncId := 35
abbrev n_slices_Sort : FuncId := 49
/-! (*jotter/notes.Board).Sweep -/
def an_notes_Board_Sweep : Ann := .seq .leaf (.seq .leaf (.seq (.seq .leaf (.one (.loop ⟨[(0, .ptr), (1, .slice), (5, .int .i64), (11, .slice), (12, .int .i64), (13, .int .i64)], [], []⟩ (.seq .leaf (.seq (.cond .leaf .leaf) (.seq (.one (.seq .leaf (.seq .leaf (.seq .leaf (.cond (.seq .leaf .leaf) .leaf))))) .leaf)))))) (.seq .leaf .leaf)))
def s_notes_Board_Sweep_l1 (K : Value → GH → Prop) (J1 : (Option Addr × (Option Addr × Nat × Nat) × Int × (Option Addr × Nat × Nat) × Int × Int × Unit) → GH → Prop)
  (b6 : Option Addr) (doc7a : Option Addr) (doc7n : Nat) (doc7c : Nat)
  (k8 : Int) (x_9a : Option Addr) (x_9n : Nat) (x_9c : Nat) (x_10 : Int)
  (x_11 : Int) (h : GH) : Prop :=
  br (decide (x_11 < x_10)) (0 ≤ x_11 ∧ x_11 < ((x_9n : Nat) : Int) ∧
    nn x_9a fun p12 => ∃ (x_13 : Int), Rds h (Addr.add p12 (x_11.toNat * 1)) [.int .i64 x_13] ∧
    nn b6 fun p14 => ∃ (x_15 : Option Nat), Rds h (Addr.add p14 1) [.map x_15] ∧
    ∃ (x_17 : Option Addr), (∃ ok16 : Bool, Lk pr h 3 79 x_15 (.int .i64 x_13)
      (.pointer x_17) ok16) ∧ GC pr n_notes_note_span [.pointer x_17, .slice doc7a doc7n doc7c] h fun v_18 h_19 =>
    ∃ (x_20 : Int), ∃ (x_21 : Int), v_18 = (.tuple ⟨[.int .i64 x_20, .int .i64 x_21]⟩ : Value) ∧
    br (x_21 == 0) (nn b6 fun p22 => ∃ (x_23 : Option Nat), Rds h_19 (Addr.add p22 1) [.map x_23] ∧
      ∃ (x_25 : Option Addr), (∃ ok24 : Bool, Lk pr h_19 3 79 x_23 (.int .i64 x_13)
        (.pointer x_25) ok24) ∧ nn x_25 fun p26 => ∃ (x_27 : Bool), Rds h_19 (Addr.add p26 3) [.bool x_27] ∧
      br x_27 (nn b6 fun p28 => ∃ (x_29 : Option Nat), Rds h_19 (Addr.add p28 1) [.map x_29] ∧
        MDel pr h_19 3 x_29 (.int .i64 x_13) fun h_30 => J1 (b6, (doc7a, doc7n, doc7c), w64 (k8 + 1), (x_9a, x_9n, x_9c), x_10, w64 (x_11 + 1), ()) h_30)
      (J1 (b6, (doc7a, doc7n, doc7c), k8, (x_9a, x_9n, x_9c), x_10, w64 (x_11 + 1), ()) h_19))
    (J1 (b6, (doc7a, doc7n, doc7c), k8, (x_9a, x_9n, x_9c), x_10, w64 (x_11 + 1), ()) h_19))
  (K (.int .i64 k8) h)
def s_notes_Board_Sweep (K : Value → GH → Prop) (b1 : Option Addr)
  (doc2a : Option Addr) (doc2n : Nat) (doc2c : Nat) (h : GH) : Prop :=
  GC pr n_notes_Board_ids [.pointer b1] h fun v_3 h_4 => ∃ (x_5a : Option Addr)
  (x_5n : Nat) (x_5c : Nat), v_3 = (.slice x_5a x_5n x_5c : Value) ∧
  LoopP (T := Option Addr × (Option Addr × Nat × Nat) × Int × (Option Addr × Nat × Nat) × Int × Int × Unit)
  (fun J => J (b1, (doc2a, doc2n, doc2c), 0, (x_5a, x_5n, x_5c), ((x_5n : Nat) : Int), 0, ()) h_4)
  (fun J t h => s_notes_Board_Sweep_l1 K J t.1 t.2.1.1 t.2.1.2.1 t.2.1.2.2 t.2.2.1 t.2.2.2.1.1 t.2.2.2.1.2.1 t.2.2.2.1.2.2 t.2.2.2.2.1 t.2.2.2.2.2.1 h)
theorem ok_notes_Board_Sweep {K : Value → GH → Prop} {b1 : Option Addr} {doc2a : Option Addr} {doc2n : Nat} {doc2c : Nat} {h : GH} (H : s_notes_Board_Sweep K b1 doc2a doc2n doc2c h) : GC pr n_notes_Board_Sweep [.pointer b1, .slice doc2a doc2n doc2c] h K :=
  GC_of mixed Try.func24 (hp := []) (an := an_notes_Board_Sweep) (Eq.mp (by kernel_rfl : s_notes_Board_Sweep K b1 doc2a doc2n doc2c h = fnVC pr Try.f24 [] an_notes_Board_Sweep [.pointer b1, .slice doc2a doc2n doc2c] h K) H)

/-! (*jotter/notes.Board).All -/
def an_notes_Board_All : Ann := .seq .leaf (.seq .leaf (.seq (.seq .leaf (.one (.loop ⟨[(0, .ptr), (1, .slice), (5, .slice), (9, .slice), (10, .int .i64), (11, .int .i64)], [], []⟩ (.seq .leaf (.seq (.cond .leaf .leaf) (.seq (.one (.seq .leaf .leaf)) .leaf)))))) (.seq .leaf .leaf)))
def s_notes_Board_All_l1 (K : Value → GH → Prop) (J1 : (Option Addr × (Option Addr × Nat × Nat) × (Option Addr × Nat × Nat) × (Option Addr × Nat × Nat) × Int × Int × Unit) → GH → Prop)
  (b6 : Option Addr) (doc7a : Option Addr) (doc7n : Nat) (doc7c : Nat)
  (l8a : Option Addr) (l8n : Nat) (l8c : Nat) (x_9a : Option Addr)
  (x_9n : Nat) (x_9c : Nat) (x_10 : Int) (x_11 : Int) (h : GH) : Prop :=
  br (decide (x_11 < x_10)) (0 ≤ x_11 ∧ x_11 < ((x_9n : Nat) : Int) ∧
    nn x_9a fun p12 => ∃ (x_13 : Int), Rds h (Addr.add p12 (x_11.toNat * 1)) [.int .i64 x_13] ∧
    nn b6 fun p14 => ∃ (x_15 : Option Nat), Rds h (Addr.add p14 1) [.map x_15] ∧
    ∃ (x_17 : Option Addr), (∃ ok16 : Bool, Lk pr h 3 79 x_15 (.int .i64 x_13)
      (.pointer x_17) ok16) ∧ GC pr n_notes_note_look [.pointer x_17, .int .i64 x_13, .slice doc7a doc7n doc7c] h fun v_18 h_19 =>
    ∃ (x_ID20 : Int), ∃ (x_Client21 : Int), ∃ (x_Words22 : ByteArray), ∃ (x_From23 : Int), ∃ (x_To24 : Int), ∃ (x_Gone25 : Bool), ∃ (x_Shut26 : Bool), ∃ (x_Replies27a : Option Addr)
    (x_Replies27n : Nat) (x_Replies27c : Nat), v_18 = (.agg ⟨[.int .i64 x_ID20, .int .i64 x_Client21, .string x_Words22, .int .i64 x_From23, .int .i64 x_To24, .bool x_Gone25, .bool x_Shut26, .slice x_Replies27a x_Replies27n x_Replies27c]⟩ : Value) ∧
    AppK h_19 l8a l8n l8c 8 80 ([.int .i64 x_ID20, .int .i64 x_Client21, .string x_Words22, .int .i64 x_From23, .int .i64 x_To24, .bool x_Gone25, .bool x_Shut26, .slice x_Replies27a x_Replies27n x_Replies27c]) 1 fun a28 c29 h_30 =>
    J1 (b6, (doc7a, doc7n, doc7c), (a28, (l8n + 1), c29), (x_9a, x_9n, x_9c), x_10, w64 (x_11 + 1), ()) h_30)
  (K (.slice l8a l8n l8c) h)
def s_notes_Board_All (K : Value → GH → Prop) (b1 : Option Addr)
  (doc2a : Option Addr) (doc2n : Nat) (doc2c : Nat) (h : GH) : Prop :=
  GC pr n_notes_Board_ids [.pointer b1] h fun v_3 h_4 => ∃ (x_5a : Option Addr)
  (x_5n : Nat) (x_5c : Nat), v_3 = (.slice x_5a x_5n x_5c : Value) ∧
  LoopP (T := Option Addr × (Option Addr × Nat × Nat) × (Option Addr × Nat × Nat) × (Option Addr × Nat × Nat) × Int × Int × Unit)
  (fun J => J (b1, (doc2a, doc2n, doc2c), (none, 0, 0), (x_5a, x_5n, x_5c), ((x_5n : Nat) : Int), 0, ()) h_4)
  (fun J t h => s_notes_Board_All_l1 K J t.1 t.2.1.1 t.2.1.2.1 t.2.1.2.2 t.2.2.1.1 t.2.2.1.2.1 t.2.2.1.2.2 t.2.2.2.1.1 t.2.2.2.1.2.1 t.2.2.2.1.2.2 t.2.2.2.2.1 t.2.2.2.2.2.1 h)
theorem ok_notes_Board_All {K : Value → GH → Prop} {b1 : Option Addr} {doc2a : Option Addr} {doc2n : Nat} {doc2c : Nat} {h : GH} (H : s_notes_Board_All K b1 doc2a doc2n doc2c h) : GC pr n_notes_Board_All [.pointer b1, .slice doc2a doc2n doc2c] h K :=
  GC_of mixed Try.func25 (hp := []) (an := an_notes_Board_All) (Eq.mp (by kernel_rfl : s_notes_Board_All K b1 doc2a doc2n doc2c h = fnVC pr Try.f25 [] an_notes_Board_All [.pointer b1, .slice doc2a doc2n doc2c] h K) H)

/-! jotter/jotterlaw23.eqNotes -/
def an_jotterlaw23_eqNotes : Ann := .seq .leaf (.seq (.seq .leaf (.cond (.seq .leaf .leaf) .leaf)) (.seq (.seq .leaf (.one (.loop ⟨[(0, .slice), (1, .slice), (5, .int .i64)], [], []⟩ (.seq (.seq .leaf (.cond .leaf .leaf)) (.seq (.one (.seq .leaf (.cond (.seq .leaf .leaf) .leaf))) .leaf))))) (.seq .leaf .leaf)))
def s_jotterlaw23_eqNotes_l1 (K : Value → GH → Prop) (J1 : ((Option Addr × Nat × Nat) × (Option Addr × Nat × Nat) × Int × Unit) → GH → Prop)
  (a3a : Option Addr) (a3n : Nat) (a3c : Nat) (b4a : Option Addr)
  (b4n : Nat) (b4c : Nat) (i5 : Int) (h : GH) : Prop :=
  br (decide (i5 < ((a3n : Nat) : Int))) (0 ≤ i5 ∧ i5 < ((a3n : Nat) : Int) ∧
    nn a3a fun p6 => ∃ (x_ID7 : Int), ∃ (x_Client8 : Int), ∃ (x_Words9 : ByteArray), ∃ (x_From10 : Int), ∃ (x_To11 : Int), ∃ (x_Gone12 : Bool), ∃ (x_Shut13 : Bool), ∃ (x_Replies14a : Option Addr)
    (x_Replies14n : Nat) (x_Replies14c : Nat), Rds h (Addr.add p6 (i5.toNat * 8)) [.int .i64 x_ID7, .int .i64 x_Client8, .string x_Words9, .int .i64 x_From10, .int .i64 x_To11, .bool x_Gone12, .bool x_Shut13, .slice x_Replies14a x_Replies14n x_Replies14c] ∧
    0 ≤ i5 ∧ i5 < ((b4n : Nat) : Int) ∧ nn b4a fun p15 => ∃ (x_ID16 : Int), ∃ (x_Client17 : Int), ∃ (x_Words18 : ByteArray), ∃ (x_From19 : Int), ∃ (x_To20 : Int), ∃ (x_Gone21 : Bool), ∃ (x_Shut22 : Bool), ∃ (x_Replies23a : Option Addr)
    (x_Replies23n : Nat) (x_Replies23c : Nat), Rds h (Addr.add p15 (i5.toNat * 8)) [.int .i64 x_ID16, .int .i64 x_Client17, .string x_Words18, .int .i64 x_From19, .int .i64 x_To20, .bool x_Gone21, .bool x_Shut22, .slice x_Replies23a x_Replies23n x_Replies23c] ∧
    GC pr n_jotterlaw23_eqNote [.agg ⟨[.int .i64 x_ID7, .int .i64 x_Client8, .string x_Words9, .int .i64 x_From10, .int .i64 x_To11, .bool x_Gone12, .bool x_Shut13, .slice x_Replies14a x_Replies14n x_Replies14c]⟩, .agg ⟨[.int .i64 x_ID16, .int .i64 x_Client17, .string x_Words18, .int .i64 x_From19, .int .i64 x_To20, .bool x_Gone21, .bool x_Shut22, .slice x_Replies23a x_Replies23n x_Replies23c]⟩] h fun v_24 h_25 =>
    ∃ (x_26 : Bool), v_24 = (.bool x_26 : Value) ∧ br (!x_26)
    (K (.bool false) h_25) (J1 ((a3a, a3n, a3c), (b4a, b4n, b4c), w64 (i5 + 1), ()) h_25))
  (K (.bool true) h)
def s_jotterlaw23_eqNotes (K : Value → GH → Prop) (a1a : Option Addr)
  (a1n : Nat) (a1c : Nat) (b2a : Option Addr) (b2n : Nat) (b2c : Nat)
  (h : GH) : Prop :=
  br (((a1n : Nat) : Int) != ((b2n : Nat) : Int)) (K (.bool false) h)
  (LoopP (T := (Option Addr × Nat × Nat) × (Option Addr × Nat × Nat) × Int × Unit)
    (fun J => J ((a1a, a1n, a1c), (b2a, b2n, b2c), 0, ()) h) (fun J t h =>
      s_jotterlaw23_eqNotes_l1 K J t.1.1 t.1.2.1 t.1.2.2 t.2.1.1 t.2.1.2.1 t.2.1.2.2 t.2.2.1 h))
theorem ok_jotterlaw23_eqNotes {K : Value → GH → Prop} {a1a : Option Addr} {a1n : Nat} {a1c : Nat} {b2a : Option Addr} {b2n : Nat} {b2c : Nat} {h : GH} (H : s_jotterlaw23_eqNotes K a1a a1n a1c b2a b2n b2c h) : GC pr n_jotterlaw23_eqNotes [.slice a1a a1n a1c, .slice b2a b2n b2c] h K :=
  GC_of mixed Try.func30 (hp := []) (an := an_jotterlaw23_eqNotes) (Eq.mp (by kernel_rfl : s_jotterlaw23_eqNotes K a1a a1n a1c b2a b2n b2c h = fnVC pr Try.f30 [] an_jotterlaw23_eqNotes [.slice a1a a1n a1c, .slice b2a b2n b2c] h K) H)

/-! (*jotter/notes.Board).ids -/
def an_notes_Board_ids : Ann := .seq .leaf (.seq .leaf (.seq (.seq .leaf (.one (.loop ⟨[(3, .slice), (9, .ptr)], [], []⟩ (.seq .leaf (.seq (.cond .leaf .leaf) (.one (.seq .leaf .leaf))))))) (.seq .leaf (.seq .leaf .leaf))))
def s_notes_Board_ids_l1 (K : Value → GH → Prop) (J1 : ((Option Addr × Nat × Nat) × Option Addr × Unit) → GH → Prop)
  (l6a : Option Addr) (l6n : Nat) (l6c : Nat) (x_7 : Option Addr)
  (h : GH) : Prop :=
  nn x_7 fun p8 => p8.off = 0 ∧ MNx h p8.block (GC pr n_slices_Sort [.slice l6a l6n l6c] h fun v_9 h_10 =>
    v_9 = (.tuple ⟨[]⟩ : Value) ∧ K (.slice l6a l6n l6c) h_10) fun e11 h_12 =>
  nn x_7 fun p13 => p13.off = 0 ∧ MEx h_12 p13.block fun e14 =>
  ∃ (k15 : Int), ∃ (e16 : Option Addr), (.int .i64 k15 : Value) = e14.key ∧
  (.pointer e16 : Value) = e14.val ∧ AppK h_12 l6a l6n l6c 1 8 ([.int .i64 k15]) 1 fun a17 c18 h_19 =>
  J1 ((a17, (l6n + 1), c18), x_7, ()) h_19
def s_notes_Board_ids (K : Value → GH → Prop) (b1 : Option Addr)
  (h : GH) : Prop :=
  nn b1 fun p2 => ∃ (x_3 : Option Nat), Rds h (Addr.add p2 1) [.map x_3] ∧
  MRange h x_3 fun it4 h_5 => LoopP (T := (Option Addr × Nat × Nat) × Option Addr × Unit)
  (fun J => J ((none, 0, 0), (some ⟨it4, 0, none⟩), ()) h_5) (fun J t h =>
    s_notes_Board_ids_l1 K J t.1.1 t.1.2.1 t.1.2.2 t.2.1 h)
theorem ok_notes_Board_ids {K : Value → GH → Prop} {b1 : Option Addr} {h : GH} (H : s_notes_Board_ids K b1 h) : GC pr n_notes_Board_ids [.pointer b1] h K :=
  GC_of mixed Try.func35 (hp := [81000012]) (an := an_notes_Board_ids) (Eq.mp (by kernel_rfl : s_notes_Board_ids K b1 h = fnVC pr Try.f35 [81000012] an_notes_Board_ids [.pointer b1] h K) H)

end Go.Proofs.Ytjieepgapjbjlaa.G
