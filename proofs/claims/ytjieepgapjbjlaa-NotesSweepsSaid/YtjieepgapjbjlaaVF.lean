/- What the ghost machine asks of functions of the program. -/
import Derived.Test.YtjieepgapjbjlaaVA
import Derived.Test.YtjieepgapjbjlaaV11
import Derived.Test.YtjieepgapjbjlaaChecked
namespace Go.Proofs.Ytjieepgapjbjlaa.G
open Go.Gv
set_option linter.unusedVariables false
set_option maxRecDepth 100000
abbrev n_jotterlaw23_NotesFollow : FuncId := 5
/-! jotter/jotterlaw23.NotesFollow -/
def an_jotterlaw23_NotesFollow : Ann := .seq .leaf (.seq .leaf (.seq .leaf (.seq .leaf (.seq .leaf (.seq .leaf (.seq (.seq .leaf (.cond (.seq .leaf .leaf) .leaf)) (.seq .leaf (.seq (.seq .leaf (.cond (.seq .leaf .leaf) .leaf)) (.seq .leaf (.seq (.seq .leaf (.one (.loop ⟨[(2, .int .i64), (3, .slice), (9, .slice), (10, .ptr), (13, .slice), (14, .int .i64)], [], []⟩ (.seq (.seq .leaf (.cond .leaf .leaf)) (.seq (.one .leaf) .leaf))))) (.seq (.seq .leaf (.one (.loop ⟨[(3, .slice), (9, .slice), (10, .ptr), (13, .slice), (15, .int .i64)], [], []⟩ (.seq (.seq .leaf (.cond .leaf .leaf)) (.join ⟨[(3, .slice), (9, .slice), (10, .ptr), (13, .slice), (15, .int .i64)], [], []⟩ (.one (.seq .leaf (.seq (.seq .leaf (.cond (.seq .leaf .leaf) .leaf)) (.seq .leaf (.seq .leaf (.seq .leaf (.seq .leaf (.seq .leaf (.cond (.seq .leaf .leaf) .leaf))))))))) .leaf))))) (.seq .leaf .leaf))))))))))))
def s_jotterlaw23_NotesFollow_k1 (K : Value → GH → Prop) (J1 : (Int × (Option Addr × Nat × Nat) × (Option Addr × Nat × Nat) × Option Addr × (Option Addr × Nat × Nat) × Int × Unit) → GH → Prop)
  (J2 : ((Option Addr × Nat × Nat) × (Option Addr × Nat × Nat) × Option Addr × (Option Addr × Nat × Nat) × Int × Unit) → GH → Prop)
  (turns67a : Option Addr) (turns67n : Nat) (turns67c : Nat) (d68a : Option Addr)
  (d68n : Nat) (d68c : Nat) (b69 : Option Addr) (m70a : Option Addr)
  (m70n : Nat) (m70c : Nat) (k71 : Int) (h : GH) : Prop :=
  J2 ((turns67a, turns67n, turns67c), (d68a, d68n, d68c), b69, (m70a, m70n, m70c), w64 (k71 + 1), ()) h
def s_jotterlaw23_NotesFollow_l2 (K : Value → GH → Prop) (J1 : (Int × (Option Addr × Nat × Nat) × (Option Addr × Nat × Nat) × Option Addr × (Option Addr × Nat × Nat) × Int × Unit) → GH → Prop)
  (J2 : ((Option Addr × Nat × Nat) × (Option Addr × Nat × Nat) × Option Addr × (Option Addr × Nat × Nat) × Int × Unit) → GH → Prop)
  (turns34a : Option Addr) (turns34n : Nat) (turns34c : Nat) (d35a : Option Addr)
  (d35n : Nat) (d35c : Nat) (b36 : Option Addr) (m37a : Option Addr)
  (m37n : Nat) (m37c : Nat) (k38 : Int) (h : GH) : Prop :=
  br (decide (k38 < ((turns34n : Nat) : Int))) (br (decide (k38 < 2048))
    (0 ≤ k38 ∧ k38 < ((turns34n : Nat) : Int) ∧ nn turns34a fun p39 =>
      ∃ (x_Out40 : Bool), ∃ (x_N41 : Int), Rds h (Addr.add p39 (k38.toNat * 2)) [.bool x_Out40, .int .i64 x_N41] ∧
      GC pr n_jotterlaw23_turned [.slice d35a d35n d35c, .agg ⟨[.bool x_Out40, .int .i64 x_N41]⟩, .int .i64 k38] h fun v_42 h_43 =>
      ∃ (x_44a : Option Addr) (x_44n : Nat) (x_44c : Nat), ∃ (x_45 : Int), ∃ (x_46 : Bool), ∃ (x_47 : Bool), v_42 = (.tuple ⟨[.slice x_44a x_44n x_44c, .int .i64 x_45, .bool x_46, .bool x_47]⟩ : Value) ∧
      br (!x_47) (K (.bool false) h_43) (br (decide (x_45 > ((m37n : Nat) : Int)))
        (K (.bool false) h_43) (br x_46 (br (decide (x_45 ≥ ((m37n : Nat) : Int)))
            (K (.bool false) h_43) (GC pr n_jotterlaw23_follow [.slice m37a m37n m37c, .int .i64 x_45, .bool x_46] h_43 fun v_48 h_49 =>
              ∃ (x_50a : Option Addr) (x_50n : Nat) (x_50c : Nat), v_48 = (.slice x_50a x_50n x_50c : Value) ∧
              GC pr n_notes_Board_Look [.pointer b36, .slice x_44a x_44n x_44c, .int .i64 1] h_49 fun v_51 h_52 =>
              ∃ (x_ID53 : Int), ∃ (x_Client54 : Int), ∃ (x_Words55 : ByteArray), ∃ (x_From56 : Int), ∃ (x_To57 : Int), ∃ (x_Gone58 : Bool), ∃ (x_Shut59 : Bool), ∃ (x_Replies60a : Option Addr)
              (x_Replies60n : Nat) (x_Replies60c : Nat), ∃ (x_61 : Int), v_51 = (.tuple ⟨[.agg ⟨[.int .i64 x_ID53, .int .i64 x_Client54, .string x_Words55, .int .i64 x_From56, .int .i64 x_To57, .bool x_Gone58, .bool x_Shut59, .slice x_Replies60a x_Replies60n x_Replies60c]⟩, .int .i64 x_61]⟩ : Value) ∧
              GC pr n_jotterlaw23_where [.slice x_50a x_50n x_50c] h_52 fun v_62 h_63 =>
              ∃ (x_64 : Int), ∃ (x_65 : Int), ∃ (x_66 : Bool), v_62 = (.tuple ⟨[.int .i64 x_64, .int .i64 x_65, .bool x_66]⟩ : Value) ∧
              br (x_61 != 0) (K (.bool false) h_63) (br (x_From56 != x_64)
                (K (.bool false) h_63) (br (x_To57 != x_65) (K (.bool false) h_63)
                  (br (!(x_Gone58 == x_66)) (K (.bool false) h_63)
                    (br (!(x_Words55.toList == (ByteArray.mk #[104, 101, 114, 101]).toList))
                      (K (.bool false) h_63) (br (x_Client54 != 7)
                        (K (.bool false) h_63) (br x_Shut59 (K (.bool false) h_63)
                        (s_jotterlaw23_NotesFollow_k1 K J1 J2 turns34a turns34n turns34c x_44a x_44n x_44c b36 x_50a x_50n x_50c k38 h_63)))))))))
          (GC pr n_jotterlaw23_follow [.slice m37a m37n m37c, .int .i64 x_45, .bool x_46] h_43 fun v_72 h_73 =>
            ∃ (x_74a : Option Addr) (x_74n : Nat) (x_74c : Nat), v_72 = (.slice x_74a x_74n x_74c : Value) ∧
            GC pr n_notes_Board_Look [.pointer b36, .slice x_44a x_44n x_44c, .int .i64 1] h_73 fun v_75 h_76 =>
            ∃ (x_ID77 : Int), ∃ (x_Client78 : Int), ∃ (x_Words79 : ByteArray), ∃ (x_From80 : Int), ∃ (x_To81 : Int), ∃ (x_Gone82 : Bool), ∃ (x_Shut83 : Bool), ∃ (x_Replies84a : Option Addr)
            (x_Replies84n : Nat) (x_Replies84c : Nat), ∃ (x_85 : Int), v_75 = (.tuple ⟨[.agg ⟨[.int .i64 x_ID77, .int .i64 x_Client78, .string x_Words79, .int .i64 x_From80, .int .i64 x_To81, .bool x_Gone82, .bool x_Shut83, .slice x_Replies84a x_Replies84n x_Replies84c]⟩, .int .i64 x_85]⟩ : Value) ∧
            GC pr n_jotterlaw23_where [.slice x_74a x_74n x_74c] h_76 fun v_86 h_87 =>
            ∃ (x_88 : Int), ∃ (x_89 : Int), ∃ (x_90 : Bool), v_86 = (.tuple ⟨[.int .i64 x_88, .int .i64 x_89, .bool x_90]⟩ : Value) ∧
            br (x_85 != 0) (K (.bool false) h_87) (br (x_From80 != x_88)
              (K (.bool false) h_87) (br (x_To81 != x_89) (K (.bool false) h_87)
                (br (!(x_Gone82 == x_90)) (K (.bool false) h_87)
                  (br (!(x_Words79.toList == (ByteArray.mk #[104, 101, 114, 101]).toList))
                    (K (.bool false) h_87) (br (x_Client78 != 7)
                      (K (.bool false) h_87) (br x_Shut83 (K (.bool false) h_87)
                        (s_jotterlaw23_NotesFollow_k1 K J1 J2 turns34a turns34n turns34c x_44a x_44n x_44c b36 x_74a x_74n x_74c k38 h_87)))))))))))
    (K (.bool true) h)) (K (.bool true) h)
def s_jotterlaw23_NotesFollow_l1 (K : Value → GH → Prop) (J1 : (Int × (Option Addr × Nat × Nat) × (Option Addr × Nat × Nat) × Option Addr × (Option Addr × Nat × Nat) × Int × Unit) → GH → Prop)
  (to_26 : Int) (turns27a : Option Addr) (turns27n : Nat) (turns27c : Nat)
  (d28a : Option Addr) (d28n : Nat) (d28c : Nat) (b29 : Option Addr)
  (m30a : Option Addr) (m30n : Nat) (m30c : Nat) (i31 : Int) (h : GH) : Prop :=
  br (decide (i31 < to_26)) (0 ≤ i31 ∧ i31 < ((m30n : Nat) : Int) ∧
    nn m30a fun p32 => Wr h (Addr.add p32 (i31.toNat * 1)) [.bool true] fun h_33 =>
    J1 (to_26, (turns27a, turns27n, turns27c), (d28a, d28n, d28c), b29, (m30a, m30n, m30c), w64 (i31 + 1), ()) h_33)
  (LoopP (T := (Option Addr × Nat × Nat) × (Option Addr × Nat × Nat) × Option Addr × (Option Addr × Nat × Nat) × Int × Unit)
    (fun J => J ((turns27a, turns27n, turns27c), (d28a, d28n, d28c), b29, (m30a, m30n, m30c), 0, ()) h)
    (fun J t h => s_jotterlaw23_NotesFollow_l2 K J1 J t.1.1 t.1.2.1 t.1.2.2 t.2.1.1 t.2.1.2.1 t.2.1.2.2 t.2.2.1 t.2.2.2.1.1 t.2.2.2.1.2.1 t.2.2.2.1.2.2 t.2.2.2.2.1 h))
def s_jotterlaw23_NotesFollow (K : Value → GH → Prop) (n1 : Int)
  (from_2 : Int) (to_3 : Int) (turns4a : Option Addr) (turns4n : Nat)
  (turns4c : Nat) (h : GH) : Prop :=
  GC pr n_jotterlaw23_within [.int .i64 n1, .int .i64 1, .int .i64 2048] h fun v_5 h_6 =>
  ∃ (x_7 : Int), v_5 = (.int .i64 x_7 : Value) ∧ GC pr n_jotterlaw23_within [.int .i64 from_2, .int .i64 0, .int .i64 (w64 (x_7 - 1))] h_6 fun v_8 h_9 =>
  ∃ (x_10 : Int), v_8 = (.int .i64 x_10 : Value) ∧ GC pr n_jotterlaw23_within [.int .i64 to_3, .int .i64 (w64 (x_10 + 1)), .int .i64 x_7] h_9 fun v_11 h_12 =>
  ∃ (x_13 : Int), v_11 = (.int .i64 x_13 : Value) ∧ GC pr n_jotterlaw23_text [.int .i64 x_7] h_12 fun v_14 h_15 =>
  ∃ (x_16a : Option Addr) (x_16n : Nat) (x_16c : Nat), v_14 = (.slice x_16a x_16n x_16c : Value) ∧
  GC pr n_notes_New [] h_15 fun v_17 h_18 => ∃ (x_19 : Option Addr), v_17 = (.pointer x_19 : Value) ∧
  br x_19.isNone (K (.bool false) h_18) (GC pr n_notes_Board_Put [.pointer x_19, .slice x_16a x_16n x_16c, .int .i64 x_10, .int .i64 x_13, .int .i64 7, .string (ByteArray.mk #[104, 101, 114, 101])] h_18 fun v_20 h_21 =>
    ∃ (x_22 : Int), ∃ (x_23 : Int), v_20 = (.tuple ⟨[.int .i64 x_22, .int .i64 x_23]⟩ : Value) ∧
    br (x_22 != 1) (K (.bool false) h_21) (br (x_23 != 0) (K (.bool false) h_21)
      (0 ≤ x_7 ∧ x_7 ≤ x_7 ∧ x_7 * 1 ≤ 140737488355328 ∧ ∀ b24 : Nat, h_21 b24 = none → LoopP (T := Int × (Option Addr × Nat × Nat) × (Option Addr × Nat × Nat) × Option Addr × (Option Addr × Nat × Nat) × Int × Unit)
        (fun J => J (x_13, (turns4a, turns4n, turns4c), (x_16a, x_16n, x_16c), x_19, ((some ⟨b24, 0, none⟩), x_7.toNat, x_7.toNat), x_10, ())
          (GH.set h_21 b24 (.cells 0 (List.replicate x_7.toNat [.bool false]).flatten (some (x_7.toNat * 1)))))
        (fun J t h => s_jotterlaw23_NotesFollow_l1 K J t.1 t.2.1.1 t.2.1.2.1 t.2.1.2.2 t.2.2.1.1 t.2.2.1.2.1 t.2.2.1.2.2 t.2.2.2.1 t.2.2.2.2.1.1 t.2.2.2.2.1.2.1 t.2.2.2.2.1.2.2 t.2.2.2.2.2.1 h))))
theorem ok_jotterlaw23_NotesFollow {K : Value → GH → Prop} {n1 : Int} {from_2 : Int} {to_3 : Int} {turns4a : Option Addr} {turns4n : Nat} {turns4c : Nat} {h : GH} (H : s_jotterlaw23_NotesFollow K n1 from_2 to_3 turns4a turns4n turns4c h) : GC pr n_jotterlaw23_NotesFollow [.int .i64 n1, .int .i64 from_2, .int .i64 to_3, .slice turns4a turns4n turns4c] h K :=
  GC_of mixed Try.func5 (hp := []) (an := an_jotterlaw23_NotesFollow) (Eq.mp (by kernel_rfl : s_jotterlaw23_NotesFollow K n1 from_2 to_3 turns4a turns4n turns4c h = fnVC pr Try.f5 [] an_jotterlaw23_NotesFollow [.int .i64 n1, .int .i64 from_2, .int .i64 to_3, .slice turns4a turns4n turns4c] h K) H)

end Go.Proofs.Ytjieepgapjbjlaa.G
