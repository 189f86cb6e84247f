/- What the ghost machine asks of functions of the program. -/
import Derived.Test.YtjieepgapjbjlaaVA
import Derived.Test.YtjieepgapjbjlaaV11
import Derived.Test.YtjieepgapjbjlaaChecked
namespace Go.Proofs.Ytjieepgapjbjlaa.G
open Go.Gv
set_option linter.unusedVariables false
set_option maxRecDepth 100000
abbrev n_jotterlaw23_NotesTalks : FuncId := 4
/-! jotter/jotterlaw23.NotesTalks -/
def an_jotterlaw23_NotesTalks : Ann := .seq .leaf (.seq .leaf (.seq (.seq .leaf (.cond (.seq .leaf .leaf) .leaf)) (.seq .leaf (.seq .leaf (.seq (.seq .leaf (.one (.loop ⟨[(0, .slice), (1, .int .i64), (5, .ptr), (6, .slice), (8, .slice), (9, .bool), (10, .int .i64)], [], []⟩ (.seq (.seq .leaf (.cond .leaf .leaf)) (.seq (.one (.seq (.seq .leaf (.cond (.seq (.seq .leaf (.cond (.seq .leaf .leaf) .leaf)) .leaf) .leaf)) (.seq .leaf (.seq .leaf (.join ⟨[(0, .slice), (1, .int .i64), (5, .ptr), (6, .slice), (8, .slice), (9, .bool), (10, .int .i64)], [(11, 11, 0)], [(11, [.int .i64, .str])]⟩ (.one (.seq .leaf (.cond (.seq .leaf (.cond (.seq .leaf .leaf) .leaf)) (.seq .leaf (.cond (.seq .leaf (.cond (.seq .leaf .leaf) .leaf)) (.seq .leaf (.cond (.seq .leaf (.cond (.seq .leaf .leaf) .leaf)) (.seq (.seq .leaf (.cond (.seq .leaf .leaf) .leaf)) .leaf)))))))) (.seq (.seq .leaf (.cond (.seq .leaf .leaf) .leaf)) (.seq .leaf (.seq .leaf (.cond (.seq .leaf .leaf) .leaf))))))))) .leaf))))) (.seq .leaf .leaf))))))
def s_jotterlaw23_NotesTalks_k1 (K : Value → GH → Prop) (J1 : ((Option Addr × Nat × Nat) × Int × Option Addr × (Option Addr × Nat × Nat) × (Option Addr × Nat × Nat) × Bool × Int × Unit) → GH → Prop)
  (said27a : Option Addr) (said27n : Nat) (said27c : Nat) (shut28 : Int)
  (b29 : Option Addr) (d30a : Option Addr) (d30n : Nat) (d30c : Nat)
  (want31a : Option Addr) (want31n : Nat) (want31c : Nat) (closed32 : Bool)
  (i33 : Int) (r34 : Int) (r35 : ByteArray) (h : GH) : Prop :=
  GC pr n_notes_Board_Reply [.pointer b29, .int .i64 2, .int .i64 r34, .string r35] h fun v_36 h_37 =>
  ∃ (x_38 : Int), v_36 = (.int .i64 x_38 : Value) ∧ br (x_38 != 232)
  (K (.bool false) h_37) (GC pr n_notes_Board_Look [.pointer b29, .slice d30a d30n d30c, .int .i64 1] h_37 fun v_39 h_40 =>
    ∃ (x_ID41 : Int), ∃ (x_Client42 : Int), ∃ (x_Words43 : ByteArray), ∃ (x_From44 : Int), ∃ (x_To45 : Int), ∃ (x_Gone46 : Bool), ∃ (x_Shut47 : Bool), ∃ (x_Replies48a : Option Addr)
    (x_Replies48n : Nat) (x_Replies48c : Nat), ∃ (x_49 : Int), v_39 = (.tuple ⟨[.agg ⟨[.int .i64 x_ID41, .int .i64 x_Client42, .string x_Words43, .int .i64 x_From44, .int .i64 x_To45, .bool x_Gone46, .bool x_Shut47, .slice x_Replies48a x_Replies48n x_Replies48c]⟩, .int .i64 x_49]⟩ : Value) ∧
    br (x_49 != 0) (K (.bool false) h_40) (br (!(x_Shut47 == closed32))
      (K (.bool false) h_40) (GC pr n_jotterlaw23_eqReplies [.slice x_Replies48a x_Replies48n x_Replies48c, .slice want31a want31n want31c] h_40 fun v_50 h_51 =>
        ∃ (x_52 : Bool), v_50 = (.bool x_52 : Value) ∧ br (!x_52)
        (K (.bool false) h_51) (J1 ((said27a, said27n, said27c), shut28, b29, (d30a, d30n, d30c), (want31a, want31n, want31c), closed32, w64 (i33 + 1), ()) h_51))))
def s_jotterlaw23_NotesTalks_l1 (K : Value → GH → Prop) (J1 : ((Option Addr × Nat × Nat) × Int × Option Addr × (Option Addr × Nat × Nat) × (Option Addr × Nat × Nat) × Bool × Int × Unit) → GH → Prop)
  (said8a : Option Addr) (said8n : Nat) (said8c : Nat) (shut9 : Int)
  (b10 : Option Addr) (d11a : Option Addr) (d11n : Nat) (d11c : Nat)
  (want12a : Option Addr) (want12n : Nat) (want12c : Nat) (closed13 : Bool)
  (i14 : Int) (h : GH) : Prop :=
  br (decide (i14 < ((said8n : Nat) : Int))) (br (i14 == shut9)
    (GC pr n_notes_Board_Shut [.pointer b10, .int .i64 1] h fun v_15 h_16 =>
      ∃ (x_17 : Int), v_15 = (.int .i64 x_17 : Value) ∧ br (x_17 != 0)
      (K (.bool false) h_16) (GC pr n_notes_Board_Shut [.pointer b10, .int .i64 1] h_16 fun v_18 h_19 =>
        ∃ (x_20 : Int), v_18 = (.int .i64 x_20 : Value) ∧ br (x_20 != 233)
        (K (.bool false) h_19) (0 ≤ i14 ∧ i14 < ((said8n : Nat) : Int) ∧
          nn said8a fun p21 => ∃ (x_Client22 : Int), ∃ (x_Words23 : ByteArray), Rds h_19 (Addr.add p21 (i14.toNat * 2)) [.int .i64 x_Client22, .string x_Words23] ∧
          GC pr n_notes_Board_Reply [.pointer b10, .int .i64 1, .int .i64 x_Client22, .string x_Words23] h_19 fun v_24 h_25 =>
          ∃ (x_26 : Int), v_24 = (.int .i64 x_26 : Value) ∧ br (decide (x_Client22 < 1))
          (br (x_26 != 235) (K (.bool false) h_25) (s_jotterlaw23_NotesTalks_k1 K J1 said8a said8n said8c shut9 b10 d11a d11n d11c want12a want12n want12c true i14 x_Client22 x_Words23 h_25))
          (br (decide (x_Client22 > 64)) (br (x_26 != 235) (K (.bool false) h_25)
              (s_jotterlaw23_NotesTalks_k1 K J1 said8a said8n said8c shut9 b10 d11a d11n d11c want12a want12n want12c true i14 x_Client22 x_Words23 h_25))
            (GC pr n_jotterlaw23_may [.string x_Words23] h_25 fun v_53 h_54 =>
              ∃ (x_55 : Bool), v_53 = (.bool x_55 : Value) ∧ br (!x_55)
              (br (x_26 != 231) (K (.bool false) h_54) (s_jotterlaw23_NotesTalks_k1 K J1 said8a said8n said8c shut9 b10 d11a d11n d11c want12a want12n want12c true i14 x_Client22 x_Words23 h_54))
              (br (x_26 != 233) (K (.bool false) h_54) (s_jotterlaw23_NotesTalks_k1 K J1 said8a said8n said8c shut9 b10 d11a d11n d11c want12a want12n want12c true i14 x_Client22 x_Words23 h_54)))))))
    (0 ≤ i14 ∧ i14 < ((said8n : Nat) : Int) ∧ nn said8a fun p56 =>
      ∃ (x_Client57 : Int), ∃ (x_Words58 : ByteArray), Rds h (Addr.add p56 (i14.toNat * 2)) [.int .i64 x_Client57, .string x_Words58] ∧
      GC pr n_notes_Board_Reply [.pointer b10, .int .i64 1, .int .i64 x_Client57, .string x_Words58] h fun v_59 h_60 =>
      ∃ (x_61 : Int), v_59 = (.int .i64 x_61 : Value) ∧ br (decide (x_Client57 < 1))
      (br (x_61 != 235) (K (.bool false) h_60) (s_jotterlaw23_NotesTalks_k1 K J1 said8a said8n said8c shut9 b10 d11a d11n d11c want12a want12n want12c closed13 i14 x_Client57 x_Words58 h_60))
      (br (decide (x_Client57 > 64)) (br (x_61 != 235) (K (.bool false) h_60)
          (s_jotterlaw23_NotesTalks_k1 K J1 said8a said8n said8c shut9 b10 d11a d11n d11c want12a want12n want12c closed13 i14 x_Client57 x_Words58 h_60))
        (GC pr n_jotterlaw23_may [.string x_Words58] h_60 fun v_62 h_63 =>
          ∃ (x_64 : Bool), v_62 = (.bool x_64 : Value) ∧ br (!x_64)
          (br (x_61 != 231) (K (.bool false) h_63) (s_jotterlaw23_NotesTalks_k1 K J1 said8a said8n said8c shut9 b10 d11a d11n d11c want12a want12n want12c closed13 i14 x_Client57 x_Words58 h_63))
          (br closed13 (br (x_61 != 233) (K (.bool false) h_63)
              (s_jotterlaw23_NotesTalks_k1 K J1 said8a said8n said8c shut9 b10 d11a d11n d11c want12a want12n want12c closed13 i14 x_Client57 x_Words58 h_63))
            (br (x_61 != 0) (K (.bool false) h_63) (AppK h_63 want12a want12n want12c 2 24 ([.int .i64 x_Client57, .string x_Words58]) 1 fun a65 c66 h_67 =>
                s_jotterlaw23_NotesTalks_k1 K J1 said8a said8n said8c shut9 b10 d11a d11n d11c a65 (want12n + 1) c66 closed13 i14 x_Client57 x_Words58 h_67)))))))
  (K (.bool true) h)
def s_jotterlaw23_NotesTalks (K : Value → GH → Prop) (said1a : Option Addr)
  (said1n : Nat) (said1c : Nat) (shut2 : Int) (h : GH) : Prop :=
  GC pr n_jotterlaw23_fixed [] h fun v_3 h_4 => ∃ (x_5 : Option Addr), ∃ (x_6a : Option Addr)
  (x_6n : Nat) (x_6c : Nat), ∃ (x_7 : Bool), v_3 = (.tuple ⟨[.pointer x_5, .slice x_6a x_6n x_6c, .bool x_7]⟩ : Value) ∧
  br (!x_7) (K (.bool false) h_4) (LoopP (T := (Option Addr × Nat × Nat) × Int × Option Addr × (Option Addr × Nat × Nat) × (Option Addr × Nat × Nat) × Bool × Int × Unit)
    (fun J => J ((said1a, said1n, said1c), shut2, x_5, (x_6a, x_6n, x_6c), (none, 0, 0), false, 0, ()) h_4)
    (fun J t h => s_jotterlaw23_NotesTalks_l1 K J t.1.1 t.1.2.1 t.1.2.2 t.2.1 t.2.2.1 t.2.2.2.1.1 t.2.2.2.1.2.1 t.2.2.2.1.2.2 t.2.2.2.2.1.1 t.2.2.2.2.1.2.1 t.2.2.2.2.1.2.2 t.2.2.2.2.2.1 t.2.2.2.2.2.2.1 h))
theorem ok_jotterlaw23_NotesTalks {K : Value → GH → Prop} {said1a : Option Addr} {said1n : Nat} {said1c : Nat} {shut2 : Int} {h : GH} (H : s_jotterlaw23_NotesTalks K said1a said1n said1c shut2 h) : GC pr n_jotterlaw23_NotesTalks [.slice said1a said1n said1c, .int .i64 shut2] h K :=
  GC_of mixed Try.func4 (hp := []) (an := an_jotterlaw23_NotesTalks) (Eq.mp (by kernel_rfl : s_jotterlaw23_NotesTalks K said1a said1n said1c shut2 h = fnVC pr Try.f4 [] an_jotterlaw23_NotesTalks [.slice said1a said1n said1c, .int .i64 shut2] h K) H)

end Go.Proofs.Ytjieepgapjbjlaa.G
