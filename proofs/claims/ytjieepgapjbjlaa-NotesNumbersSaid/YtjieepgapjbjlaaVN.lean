/- What the ghost machine asks of functions of the program. -/
import Derived.Test.YtjieepgapjbjlaaVS
import Derived.Test.YtjieepgapjbjlaaVA
import Derived.Test.YtjieepgapjbjlaaV11
import Derived.Test.YtjieepgapjbjlaaChecked
namespace Go.Proofs.Ytjieepgapjbjlaa.G
open Go.Gv
set_option linter.unusedVariables false
set_option maxRecDepth 100000
abbrev n_jotterlaw23_NotesNumbers : FuncId := 7
/-! jotter/jotterlaw23.NotesNumbers -/
def an_jotterlaw23_NotesNumbers : Ann := .seq .leaf (.seq .leaf (.seq (.seq .leaf (.cond (.seq .leaf .leaf) .leaf)) (.seq .leaf (.seq .leaf (.seq (.seq .leaf (.one (.loop ⟨[(0, .slice), (3, .ptr), (4, .slice), (5, .int .i64), (6, .int .i64)], [], []⟩ (.seq (.seq .leaf (.cond .leaf .leaf)) (.join ⟨[(0, .slice), (3, .ptr), (4, .slice), (5, .int .i64), (6, .int .i64)], [], []⟩ (.one (.seq .leaf (.seq (.seq .leaf (.cond (.seq .leaf .leaf) .leaf)) (.seq .leaf (.seq (.seq .leaf (.cond (.seq (.seq .leaf (.cond (.seq .leaf .leaf) .leaf)) (.seq .leaf (.seq .leaf (.seq .leaf (.cond (.seq .leaf .leaf) .leaf))))) .leaf)) (.seq .leaf (.cond (.seq .leaf .leaf) .leaf))))))) .leaf))))) (.seq .leaf (.seq (.seq .leaf (.cond (.seq .leaf .leaf) .leaf)) (.seq .leaf (.seq .leaf (.seq .leaf .leaf))))))))))
def s_jotterlaw23_NotesNumbers_k1 (K : Value → GH → Prop) (J1 : ((Option Addr × Nat × Nat) × Option Addr × (Option Addr × Nat × Nat) × Int × Int × Unit) → GH → Prop)
  (sweeps48a : Option Addr) (sweeps48n : Nat) (sweeps48c : Nat)
  (b49 : Option Addr) (d50a : Option Addr) (d50n : Nat) (d50c : Nat)
  (there51 : Int) (i52 : Int) (h : GH) : Prop :=
  J1 ((sweeps48a, sweeps48n, sweeps48c), b49, (d50a, d50n, d50c), there51, w64 (i52 + 1), ()) h
def s_jotterlaw23_NotesNumbers_l1 (K : Value → GH → Prop) (J1 : ((Option Addr × Nat × Nat) × Option Addr × (Option Addr × Nat × Nat) × Int × Int × Unit) → GH → Prop)
  (sweeps8a : Option Addr) (sweeps8n : Nat) (sweeps8c : Nat) (b9 : Option Addr)
  (d10a : Option Addr) (d10n : Nat) (d10c : Nat) (there11 : Int)
  (i12 : Int) (h : GH) : Prop :=
  br (decide (i12 ≤ 256)) (GC pr n_notes_Board_Put [.pointer b9, .slice d10a d10n d10c, .int .i64 0, .int .i64 2, .int .i64 1, .string (ByteArray.mk #[110])] h fun v_13 h_14 =>
    ∃ (x_15 : Int), ∃ (x_16 : Int), v_13 = (.tuple ⟨[.int .i64 x_15, .int .i64 x_16]⟩ : Value) ∧
    br (x_15 != i12) (K (.bool false) h_14) (br (x_16 != 0) (K (.bool false) h_14)
      (br (decide (i12 ≤ ((sweeps8n : Nat) : Int))) (0 ≤ w64 (i12 - 1) ∧
          w64 (i12 - 1) < ((sweeps8n : Nat) : Int) ∧ nn sweeps8a fun p17 =>
          ∃ (x_18 : Bool), Rds h_14 (Addr.add p17 ((w64 (i12 - 1)).toNat * 1)) [.bool x_18] ∧
          br x_18 (GC pr n_notes_Board_Shut [.pointer b9, .int .i64 i12] h_14 fun v_19 h_20 =>
            ∃ (x_21 : Int), v_19 = (.int .i64 x_21 : Value) ∧ br (x_21 != 0)
            (K (.bool false) h_20) (GC pr n_notes_Board_Sweep [.pointer b9, .slice d10a d10n d10c] h_20 fun v_22 h_23 =>
              ∃ (x_24 : Int), v_22 = (.int .i64 x_24 : Value) ∧
              br (x_24 != 0) (K (.bool false) h_23) (0 ≤ (2 : Int) ∧
                (2 : Int) ≤ ((d10n : Nat) : Int) ∧ GC pr n_notes_Board_Sweep [.pointer b9, .slice (cutA d10a ((2 : Int).toNat) d10c 3)
                  (d10n - (2 : Int).toNat) (d10c - (2 : Int).toNat)] h_23 fun v_25 h_26 =>
                ∃ (x_27 : Int), v_25 = (.int .i64 x_27 : Value) ∧
                br (x_27 != 1) (K (.bool false) h_26) (GC pr n_notes_Board_Look [.pointer b9, .slice d10a d10n d10c, .int .i64 i12] h_26 fun v_28 h_29 =>
                  ∃ (x_ID30 : Int), ∃ (x_Client31 : Int), ∃ (x_Words32 : ByteArray), ∃ (x_From33 : Int), ∃ (x_To34 : Int), ∃ (x_Gone35 : Bool), ∃ (x_Shut36 : Bool), ∃ (x_Replies37a : Option Addr)
                  (x_Replies37n : Nat) (x_Replies37c : Nat), ∃ (x_38 : Int), v_28 = (.tuple ⟨[.agg ⟨[.int .i64 x_ID30, .int .i64 x_Client31, .string x_Words32, .int .i64 x_From33, .int .i64 x_To34, .bool x_Gone35, .bool x_Shut36, .slice x_Replies37a x_Replies37n x_Replies37c]⟩, .int .i64 x_38]⟩ : Value) ∧
                  br (x_38 != 232) (K (.bool false) h_29) (GC pr n_notes_Board_Shut [.pointer b9, .int .i64 i12] h_29 fun v_39 h_40 =>
                    ∃ (x_41 : Int), v_39 = (.int .i64 x_41 : Value) ∧
                    br (x_41 != 232) (K (.bool false) h_40) (GC pr n_notes_Board_Reply [.pointer b9, .int .i64 i12, .int .i64 1, .string (ByteArray.mk #[114])] h_40 fun v_42 h_43 =>
                      ∃ (x_44 : Int), v_42 = (.int .i64 x_44 : Value) ∧
                      br (x_44 != 232) (K (.bool false) h_43)
                      (GC pr n_notes_Board_All [.pointer b9, .slice d10a d10n d10c] h_43 fun v_45 h_46 =>
                        ∃ (x_47a : Option Addr) (x_47n : Nat)
                        (x_47c : Nat), v_45 = (.slice x_47a x_47n x_47c : Value) ∧
                        br (((x_47n : Nat) : Int) != w64 ((w64 (there11 + 1)) - 1))
                        (K (.bool false) h_46) (s_jotterlaw23_NotesNumbers_k1 K J1 sweeps8a sweeps8n sweeps8c b9 d10a d10n d10c (w64 ((w64 (there11 + 1)) - 1)) i12 h_46))))))))
          (GC pr n_notes_Board_All [.pointer b9, .slice d10a d10n d10c] h_14 fun v_53 h_54 =>
            ∃ (x_55a : Option Addr) (x_55n : Nat) (x_55c : Nat), v_53 = (.slice x_55a x_55n x_55c : Value) ∧
            br (((x_55n : Nat) : Int) != w64 (there11 + 1)) (K (.bool false) h_54)
            (s_jotterlaw23_NotesNumbers_k1 K J1 sweeps8a sweeps8n sweeps8c b9 d10a d10n d10c (w64 (there11 + 1)) i12 h_54)))
        (GC pr n_notes_Board_All [.pointer b9, .slice d10a d10n d10c] h_14 fun v_56 h_57 =>
          ∃ (x_58a : Option Addr) (x_58n : Nat) (x_58c : Nat), v_56 = (.slice x_58a x_58n x_58c : Value) ∧
          br (((x_58n : Nat) : Int) != w64 (there11 + 1)) (K (.bool false) h_57)
          (s_jotterlaw23_NotesNumbers_k1 K J1 sweeps8a sweeps8n sweeps8c b9 d10a d10n d10c (w64 (there11 + 1)) i12 h_57)))))
  (GC pr n_notes_Board_Put [.pointer b9, .slice d10a d10n d10c, .int .i64 0, .int .i64 2, .int .i64 1, .string (ByteArray.mk #[110])] h fun v_59 h_60 =>
    ∃ (x_61 : Int), ∃ (x_62 : Int), v_59 = (.tuple ⟨[.int .i64 x_61, .int .i64 x_62]⟩ : Value) ∧
    br (x_61 != 0) (K (.bool false) h_60) (br (x_62 != 234) (K (.bool false) h_60)
      (GC pr n_notes_Board_Sweep [.pointer b9, .slice none 0 0] h_60 fun v_63 h_64 =>
        ∃ (x_65 : Int), v_63 = (.int .i64 x_65 : Value) ∧ GC pr n_notes_Board_Put [.pointer b9, .slice d10a d10n d10c, .int .i64 0, .int .i64 2, .int .i64 1, .string (ByteArray.mk #[110])] h_64 fun v_66 h_67 =>
        ∃ (x_68 : Int), ∃ (x_69 : Int), v_66 = (.tuple ⟨[.int .i64 x_68, .int .i64 x_69]⟩ : Value) ∧
        br (x_68 == 0) (br (x_69 == 234) (GC pr n_notes_Board_All [.pointer b9, .slice none 0 0] h_67 fun v_70 h_71 =>
            ∃ (x_72a : Option Addr) (x_72n : Nat) (x_72c : Nat), v_70 = (.slice x_72a x_72n x_72c : Value) ∧
            K (.bool (((x_72n : Nat) : Int) == there11)) h_71)
          (K (.bool false) h_67)) (K (.bool false) h_67))))
def s_jotterlaw23_NotesNumbers (K : Value → GH → Prop) (sweeps1a : Option Addr)
  (sweeps1n : Nat) (sweeps1c : Nat) (h : GH) : Prop :=
  GC pr n_notes_New [] h fun v_2 h_3 => ∃ (x_4 : Option Addr), v_2 = (.pointer x_4 : Value) ∧
  br x_4.isNone (K (.bool false) h_3) (GC pr n_jotterlaw23_text [.int .i64 3] h_3 fun v_5 h_6 =>
    ∃ (x_7a : Option Addr) (x_7n : Nat) (x_7c : Nat), v_5 = (.slice x_7a x_7n x_7c : Value) ∧
    LoopP (T := (Option Addr × Nat × Nat) × Option Addr × (Option Addr × Nat × Nat) × Int × Int × Unit)
    (fun J => J ((sweeps1a, sweeps1n, sweeps1c), x_4, (x_7a, x_7n, x_7c), 0, 1, ()) h_6)
    (fun J t h => s_jotterlaw23_NotesNumbers_l1 K J t.1.1 t.1.2.1 t.1.2.2 t.2.1 t.2.2.1.1 t.2.2.1.2.1 t.2.2.1.2.2 t.2.2.2.1 t.2.2.2.2.1 h))
theorem ok_jotterlaw23_NotesNumbers {K : Value → GH → Prop} {sweeps1a : Option Addr} {sweeps1n : Nat} {sweeps1c : Nat} {h : GH} (H : s_jotterlaw23_NotesNumbers K sweeps1a sweeps1n sweeps1c h) : GC pr n_jotterlaw23_NotesNumbers [.slice sweeps1a sweeps1n sweeps1c] h K :=
  GC_of mixed Try.func7 (hp := []) (an := an_jotterlaw23_NotesNumbers) (Eq.mp (by kernel_rfl : s_jotterlaw23_NotesNumbers K sweeps1a sweeps1n sweeps1c h = fnVC pr Try.f7 [] an_jotterlaw23_NotesNumbers [.slice sweeps1a sweeps1n sweeps1c] h K) H)

end Go.Proofs.Ytjieepgapjbjlaa.G
