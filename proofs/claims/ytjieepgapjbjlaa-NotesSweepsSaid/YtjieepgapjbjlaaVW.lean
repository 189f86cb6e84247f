/- What the ghost machine asks of functions of the program. -/
import Derived.Test.YtjieepgapjbjlaaVS
import Derived.Test.YtjieepgapjbjlaaVA
import Derived.Test.YtjieepgapjbjlaaV11
import Derived.Test.YtjieepgapjbjlaaChecked
namespace Go.Proofs.Ytjieepgapjbjlaa.G
open Go.Gv
set_option linter.unusedVariables false
set_option maxRecDepth 100000
abbrev n_jotterlaw23_NotesSweeps : FuncId := 9
/-! jotter/jotterlaw23.NotesSweeps -/
def an_jotterlaw23_NotesSweeps : Ann := .seq .leaf (.seq .leaf (.seq (.seq .leaf (.cond (.seq .leaf .leaf) .leaf)) (.seq .leaf (.seq .leaf (.join ⟨[(1, .slice), (2, .slice), (7, .ptr), (10, .slice), (11, .int .i64)], [], []⟩ (.seq .leaf (.one (.loop ⟨[(0, .slice), (1, .slice), (2, .slice), (7, .ptr), (10, .slice), (11, .int .i64), (12, .int .i64)], [], []⟩ (.seq (.seq .leaf (.cond .leaf .leaf)) (.seq (.one (.seq .leaf (.seq .leaf (.seq .leaf (.cond (.seq .leaf .leaf) .leaf))))) .leaf))))) (.seq (.seq .leaf (.one (.loop ⟨[(1, .slice), (2, .slice), (7, .ptr), (10, .slice), (11, .int .i64), (15, .int .i64)], [], []⟩ (.seq (.seq .leaf (.cond .leaf .leaf)) (.seq (.one .leaf) .leaf))))) (.join ⟨[(7, .ptr), (10, .slice), (11, .int .i64)], [], []⟩ (.seq .leaf (.one (.loop ⟨[(2, .slice), (7, .ptr), (10, .slice), (11, .int .i64), (16, .int .i64)], [], []⟩ (.seq (.seq .leaf (.cond .leaf .leaf)) (.seq (.one (.seq .leaf (.seq (.seq .leaf (.cond (.seq .leaf .leaf) .leaf)) .leaf))) .leaf))))) (.seq .leaf (.seq (.seq .leaf (.cond (.seq .leaf .leaf) .leaf)) (.seq .leaf (.seq (.seq .leaf (.one (.loop ⟨[(7, .ptr), (10, .slice), (11, .int .i64), (21, .slice), (22, .slice), (23, .int .i64)], [], []⟩ (.seq (.seq .leaf (.cond .leaf .leaf)) (.join ⟨[(7, .ptr), (10, .slice), (11, .int .i64), (21, .slice), (22, .slice), (23, .int .i64)], [], []⟩ (.one (.seq .leaf (.cond .leaf .leaf))) .leaf))))) (.seq .leaf (.seq .leaf .leaf)))))))))))))
def s_jotterlaw23_NotesSweeps_k3 (K : Value → GH → Prop) (J1 : ((Option Addr × Nat × Nat) × (Option Addr × Nat × Nat) × (Option Addr × Nat × Nat) × Option Addr × (Option Addr × Nat × Nat) × Int × Int × Unit) → GH → Prop)
  (J2 : ((Option Addr × Nat × Nat) × (Option Addr × Nat × Nat) × Option Addr × (Option Addr × Nat × Nat) × Int × Int × Unit) → GH → Prop)
  (J3 : ((Option Addr × Nat × Nat) × Option Addr × (Option Addr × Nat × Nat) × Int × Int × Unit) → GH → Prop)
  (J4 : (Option Addr × (Option Addr × Nat × Nat) × Int × (Option Addr × Nat × Nat) × (Option Addr × Nat × Nat) × Int × Unit) → GH → Prop)
  (b86 : Option Addr) (d87a : Option Addr) (d87n : Nat) (d87c : Nat)
  (count88 : Int) (before89a : Option Addr) (before89n : Nat)
  (before89c : Nat) (want90a : Option Addr) (want90n : Nat) (want90c : Nat)
  (i91 : Int) (h : GH) : Prop :=
  J4 (b86, (d87a, d87n, d87c), count88, (before89a, before89n, before89c), (want90a, want90n, want90c), w64 (i91 + 1), ()) h
def s_jotterlaw23_NotesSweeps_l4 (K : Value → GH → Prop) (J1 : ((Option Addr × Nat × Nat) × (Option Addr × Nat × Nat) × (Option Addr × Nat × Nat) × Option Addr × (Option Addr × Nat × Nat) × Int × Int × Unit) → GH → Prop)
  (J2 : ((Option Addr × Nat × Nat) × (Option Addr × Nat × Nat) × Option Addr × (Option Addr × Nat × Nat) × Int × Int × Unit) → GH → Prop)
  (J3 : ((Option Addr × Nat × Nat) × Option Addr × (Option Addr × Nat × Nat) × Int × Int × Unit) → GH → Prop)
  (J4 : (Option Addr × (Option Addr × Nat × Nat) × Int × (Option Addr × Nat × Nat) × (Option Addr × Nat × Nat) × Int × Unit) → GH → Prop)
  (b66 : Option Addr) (d67a : Option Addr) (d67n : Nat) (d67c : Nat)
  (count68 : Int) (before69a : Option Addr) (before69n : Nat)
  (before69c : Nat) (want70a : Option Addr) (want70n : Nat) (want70c : Nat)
  (i71 : Int) (h : GH) : Prop :=
  br (decide (i71 < ((before69n : Nat) : Int))) (0 ≤ i71 ∧ i71 < ((before69n : Nat) : Int) ∧
    nn before69a fun p72 => ∃ (x_73 : Bool), Rds h (Addr.add (Addr.add p72 (i71.toNat * 8)) 6) [.bool x_73] ∧
    br (!x_73) (0 ≤ i71 ∧ i71 < ((before69n : Nat) : Int) ∧ nn before69a fun p74 =>
      ∃ (x_ID75 : Int), ∃ (x_Client76 : Int), ∃ (x_Words77 : ByteArray), ∃ (x_From78 : Int), ∃ (x_To79 : Int), ∃ (x_Gone80 : Bool), ∃ (x_Shut81 : Bool), ∃ (x_Replies82a : Option Addr)
      (x_Replies82n : Nat) (x_Replies82c : Nat), Rds h (Addr.add p74 (i71.toNat * 8)) [.int .i64 x_ID75, .int .i64 x_Client76, .string x_Words77, .int .i64 x_From78, .int .i64 x_To79, .bool x_Gone80, .bool x_Shut81, .slice x_Replies82a x_Replies82n x_Replies82c] ∧
      AppK h want70a want70n want70c 8 80 ([.int .i64 x_ID75, .int .i64 x_Client76, .string x_Words77, .int .i64 x_From78, .int .i64 x_To79, .bool x_Gone80, .bool x_Shut81, .slice x_Replies82a x_Replies82n x_Replies82c]) 1 fun a83 c84 h_85 =>
      s_jotterlaw23_NotesSweeps_k3 K J1 J2 J3 J4 b66 d67a d67n d67c count68 before69a before69n before69c a83 (want70n + 1) c84 i71 h_85)
    (0 ≤ i71 ∧ i71 < ((before69n : Nat) : Int) ∧ nn before69a fun p92 =>
      ∃ (x_93 : Bool), Rds h (Addr.add (Addr.add p92 (i71.toNat * 8)) 5) [.bool x_93] ∧
      br (!x_93) (0 ≤ i71 ∧ i71 < ((before69n : Nat) : Int) ∧ nn before69a fun p94 =>
        ∃ (x_ID95 : Int), ∃ (x_Client96 : Int), ∃ (x_Words97 : ByteArray), ∃ (x_From98 : Int), ∃ (x_To99 : Int), ∃ (x_Gone100 : Bool), ∃ (x_Shut101 : Bool), ∃ (x_Replies102a : Option Addr)
        (x_Replies102n : Nat) (x_Replies102c : Nat), Rds h (Addr.add p94 (i71.toNat * 8)) [.int .i64 x_ID95, .int .i64 x_Client96, .string x_Words97, .int .i64 x_From98, .int .i64 x_To99, .bool x_Gone100, .bool x_Shut101, .slice x_Replies102a x_Replies102n x_Replies102c] ∧
        AppK h want70a want70n want70c 8 80 ([.int .i64 x_ID95, .int .i64 x_Client96, .string x_Words97, .int .i64 x_From98, .int .i64 x_To99, .bool x_Gone100, .bool x_Shut101, .slice x_Replies102a x_Replies102n x_Replies102c]) 1 fun a103 c104 h_105 =>
        s_jotterlaw23_NotesSweeps_k3 K J1 J2 J3 J4 b66 d67a d67n d67c count68 before69a before69n before69c a103 (want70n + 1) c104 i71 h_105)
      (s_jotterlaw23_NotesSweeps_k3 K J1 J2 J3 J4 b66 d67a d67n d67c count68 before69a before69n before69c want70a want70n want70c i71 h)))
  (GC pr n_notes_Board_Sweep [.pointer b66, .slice d67a d67n d67c] h fun v_106 h_107 =>
    ∃ (x_108 : Int), v_106 = (.int .i64 x_108 : Value) ∧ br (x_108 == w64 (count68 - ((want70n : Nat) : Int)))
    (GC pr n_notes_Board_All [.pointer b66, .slice d67a d67n d67c] h_107 fun v_109 h_110 =>
      ∃ (x_111a : Option Addr) (x_111n : Nat) (x_111c : Nat), v_109 = (.slice x_111a x_111n x_111c : Value) ∧
      GC pr n_jotterlaw23_eqNotes [.slice x_111a x_111n x_111c, .slice want70a want70n want70c] h_110 fun v_112 h_113 =>
      ∃ (x_114 : Bool), v_112 = (.bool x_114 : Value) ∧ br x_114 (GC pr n_notes_Board_Sweep [.pointer b66, .slice d67a d67n d67c] h_113 fun v_115 h_116 =>
        ∃ (x_117 : Int), v_115 = (.int .i64 x_117 : Value) ∧ K (.bool (x_117 == 0)) h_116)
      (K (.bool false) h_113)) (K (.bool false) h_107))
def s_jotterlaw23_NotesSweeps_k2 (K : Value → GH → Prop) (J1 : ((Option Addr × Nat × Nat) × (Option Addr × Nat × Nat) × (Option Addr × Nat × Nat) × Option Addr × (Option Addr × Nat × Nat) × Int × Int × Unit) → GH → Prop)
  (J2 : ((Option Addr × Nat × Nat) × (Option Addr × Nat × Nat) × Option Addr × (Option Addr × Nat × Nat) × Int × Int × Unit) → GH → Prop)
  (J3 : ((Option Addr × Nat × Nat) × Option Addr × (Option Addr × Nat × Nat) × Int × Int × Unit) → GH → Prop)
  (b60 : Option Addr) (d61a : Option Addr) (d61n : Nat) (d61c : Nat)
  (count62 : Int) (h : GH) : Prop :=
  GC pr n_notes_Board_All [.pointer b60, .slice d61a d61n d61c] h fun v_63 h_64 =>
  ∃ (x_65a : Option Addr) (x_65n : Nat) (x_65c : Nat), v_63 = (.slice x_65a x_65n x_65c : Value) ∧
  br (((x_65n : Nat) : Int) != count62) (K (.bool false) h_64)
  (LoopP (T := Option Addr × (Option Addr × Nat × Nat) × Int × (Option Addr × Nat × Nat) × (Option Addr × Nat × Nat) × Int × Unit)
    (fun J => J (b60, (d61a, d61n, d61c), count62, (x_65a, x_65n, x_65c), (none, 0, 0), 0, ()) h_64)
    (fun J t h => s_jotterlaw23_NotesSweeps_l4 K J1 J2 J3 J t.1 t.2.1.1 t.2.1.2.1 t.2.1.2.2 t.2.2.1 t.2.2.2.1.1 t.2.2.2.1.2.1 t.2.2.2.1.2.2 t.2.2.2.2.1.1 t.2.2.2.2.1.2.1 t.2.2.2.2.1.2.2 t.2.2.2.2.2.1 h))
def s_jotterlaw23_NotesSweeps_l3 (K : Value → GH → Prop) (J1 : ((Option Addr × Nat × Nat) × (Option Addr × Nat × Nat) × (Option Addr × Nat × Nat) × Option Addr × (Option Addr × Nat × Nat) × Int × Int × Unit) → GH → Prop)
  (J2 : ((Option Addr × Nat × Nat) × (Option Addr × Nat × Nat) × Option Addr × (Option Addr × Nat × Nat) × Int × Int × Unit) → GH → Prop)
  (J3 : ((Option Addr × Nat × Nat) × Option Addr × (Option Addr × Nat × Nat) × Int × Int × Unit) → GH → Prop)
  (now46a : Option Addr) (now46n : Nat) (now46c : Nat) (b47 : Option Addr)
  (d48a : Option Addr) (d48n : Nat) (d48c : Nat) (count49 : Int)
  (k50 : Int) (h : GH) : Prop :=
  br (decide (k50 < ((now46n : Nat) : Int))) (br (decide (k50 < 2048))
    (0 ≤ k50 ∧ k50 < ((now46n : Nat) : Int) ∧ nn now46a fun p51 =>
      ∃ (x_Out52 : Bool), ∃ (x_N53 : Int), Rds h (Addr.add p51 (k50.toNat * 2)) [.bool x_Out52, .int .i64 x_N53] ∧
      GC pr n_jotterlaw23_turned [.slice d48a d48n d48c, .agg ⟨[.bool x_Out52, .int .i64 x_N53]⟩, .int .i64 k50] h fun v_54 h_55 =>
      ∃ (x_56a : Option Addr) (x_56n : Nat) (x_56c : Nat), ∃ (x_57 : Int), ∃ (x_58 : Bool), ∃ (x_59 : Bool), v_54 = (.tuple ⟨[.slice x_56a x_56n x_56c, .int .i64 x_57, .bool x_58, .bool x_59]⟩ : Value) ∧
      br (!x_59) (K (.bool false) h_55) (J3 ((now46a, now46n, now46c), b47, (x_56a, x_56n, x_56c), count49, w64 (k50 + 1), ()) h_55))
    (s_jotterlaw23_NotesSweeps_k2 K J1 J2 J3 b47 d48a d48n d48c count49 h))
  (s_jotterlaw23_NotesSweeps_k2 K J1 J2 J3 b47 d48a d48n d48c count49 h)
def s_jotterlaw23_NotesSweeps_l2 (K : Value → GH → Prop) (J1 : ((Option Addr × Nat × Nat) × (Option Addr × Nat × Nat) × (Option Addr × Nat × Nat) × Option Addr × (Option Addr × Nat × Nat) × Int × Int × Unit) → GH → Prop)
  (J2 : ((Option Addr × Nat × Nat) × (Option Addr × Nat × Nat) × Option Addr × (Option Addr × Nat × Nat) × Int × Int × Unit) → GH → Prop)
  (shut32a : Option Addr) (shut32n : Nat) (shut32c : Nat) (now33a : Option Addr)
  (now33n : Nat) (now33c : Nat) (b34 : Option Addr) (d35a : Option Addr)
  (d35n : Nat) (d35c : Nat) (count36 : Int) (i37 : Int) (h : GH) : Prop :=
  br (decide (i37 < ((shut32n : Nat) : Int))) (0 ≤ i37 ∧ i37 < ((shut32n : Nat) : Int) ∧
    nn shut32a fun p38 => ∃ (x_39 : Int), Rds h (Addr.add p38 (i37.toNat * 1)) [.int .i64 x_39] ∧
    GC pr n_jotterlaw23_within [.int .i64 x_39, .int .i64 1, .int .i64 count36] h fun v_40 h_41 =>
    ∃ (x_42 : Int), v_40 = (.int .i64 x_42 : Value) ∧ GC pr n_notes_Board_Shut [.pointer b34, .int .i64 x_42] h_41 fun v_43 h_44 =>
    ∃ (x_45 : Int), v_43 = (.int .i64 x_45 : Value) ∧ J2 ((shut32a, shut32n, shut32c), (now33a, now33n, now33c), b34, (d35a, d35n, d35c), count36, w64 (i37 + 1), ()) h_44)
  (LoopP (T := (Option Addr × Nat × Nat) × Option Addr × (Option Addr × Nat × Nat) × Int × Int × Unit)
    (fun J => J ((now33a, now33n, now33c), b34, (d35a, d35n, d35c), count36, 0, ()) h)
    (fun J t h => s_jotterlaw23_NotesSweeps_l3 K J1 J2 J t.1.1 t.1.2.1 t.1.2.2 t.2.1 t.2.2.1.1 t.2.2.1.2.1 t.2.2.1.2.2 t.2.2.2.1 t.2.2.2.2.1 h))
def s_jotterlaw23_NotesSweeps_k1 (K : Value → GH → Prop) (J1 : ((Option Addr × Nat × Nat) × (Option Addr × Nat × Nat) × (Option Addr × Nat × Nat) × Option Addr × (Option Addr × Nat × Nat) × Int × Int × Unit) → GH → Prop)
  (shut27a : Option Addr) (shut27n : Nat) (shut27c : Nat) (now28a : Option Addr)
  (now28n : Nat) (now28c : Nat) (b29 : Option Addr) (d30a : Option Addr)
  (d30n : Nat) (d30c : Nat) (count31 : Int) (h : GH) : Prop :=
  LoopP (T := (Option Addr × Nat × Nat) × (Option Addr × Nat × Nat) × Option Addr × (Option Addr × Nat × Nat) × Int × Int × Unit)
  (fun J => J ((shut27a, shut27n, shut27c), (now28a, now28n, now28c), b29, (d30a, d30n, d30c), count31, 0, ()) h)
  (fun J t h => s_jotterlaw23_NotesSweeps_l2 K J1 J t.1.1 t.1.2.1 t.1.2.2 t.2.1.1 t.2.1.2.1 t.2.1.2.2 t.2.2.1 t.2.2.2.1.1 t.2.2.2.1.2.1 t.2.2.2.1.2.2 t.2.2.2.2.1 t.2.2.2.2.2.1 h)
def s_jotterlaw23_NotesSweeps_l1 (K : Value → GH → Prop) (J1 : ((Option Addr × Nat × Nat) × (Option Addr × Nat × Nat) × (Option Addr × Nat × Nat) × Option Addr × (Option Addr × Nat × Nat) × Int × Int × Unit) → GH → Prop)
  (ranges12a : Option Addr) (ranges12n : Nat) (ranges12c : Nat)
  (shut13a : Option Addr) (shut13n : Nat) (shut13c : Nat) (now14a : Option Addr)
  (now14n : Nat) (now14c : Nat) (b15 : Option Addr) (d16a : Option Addr)
  (d16n : Nat) (d16c : Nat) (count17 : Int) (i18 : Int) (h : GH) : Prop :=
  br (decide ((w64 (i18 + 1)) < ((ranges12n : Nat) : Int))) (br (decide (count17 < 256))
    (0 ≤ i18 ∧ i18 < ((ranges12n : Nat) : Int) ∧ nn ranges12a fun p19 =>
      ∃ (x_20 : Int), Rds h (Addr.add p19 (i18.toNat * 1)) [.int .i64 x_20] ∧
      0 ≤ w64 (i18 + 1) ∧ w64 (i18 + 1) < ((ranges12n : Nat) : Int) ∧
      nn ranges12a fun p21 => ∃ (x_22 : Int), Rds h (Addr.add p21 ((w64 (i18 + 1)).toNat * 1)) [.int .i64 x_22] ∧
      GC pr n_jotterlaw23_put [.pointer b15, .slice d16a d16n d16c, .int .i64 x_20, .int .i64 x_22] h fun v_23 h_24 =>
      ∃ (x_25 : Int), ∃ (x_26 : Int), v_23 = (.tuple ⟨[.int .i64 x_25, .int .i64 x_26]⟩ : Value) ∧
      br (x_25 != w64 (count17 + 1)) (K (.bool false) h_24) (br (x_26 != 0)
        (K (.bool false) h_24) (J1 ((ranges12a, ranges12n, ranges12c), (shut13a, shut13n, shut13c), (now14a, now14n, now14c), b15, (d16a, d16n, d16c), w64 (count17 + 1), w64 (i18 + 2), ()) h_24)))
    (s_jotterlaw23_NotesSweeps_k1 K J1 shut13a shut13n shut13c now14a now14n now14c b15 d16a d16n d16c count17 h))
  (s_jotterlaw23_NotesSweeps_k1 K J1 shut13a shut13n shut13c now14a now14n now14c b15 d16a d16n d16c count17 h)
def s_jotterlaw23_NotesSweeps (K : Value → GH → Prop) (ranges1a : Option Addr)
  (ranges1n : Nat) (ranges1c : Nat) (shut2a : Option Addr) (shut2n : Nat)
  (shut2c : Nat) (now3a : Option Addr) (now3n : Nat) (now3c : Nat)
  (h : GH) : Prop :=
  GC pr n_jotterlaw23_fixed [] h fun v_4 h_5 => ∃ (x_6 : Option Addr), ∃ (x_7a : Option Addr)
  (x_7n : Nat) (x_7c : Nat), ∃ (x_8 : Bool), v_4 = (.tuple ⟨[.pointer x_6, .slice x_7a x_7n x_7c, .bool x_8]⟩ : Value) ∧
  br (!x_8) (K (.bool false) h_5) (GC pr n_jotterlaw23_text [.int .i64 30] h_5 fun v_9 h_10 =>
    ∃ (x_11a : Option Addr) (x_11n : Nat) (x_11c : Nat), v_9 = (.slice x_11a x_11n x_11c : Value) ∧
    0 ≤ (1 : Int) ∧ (1 : Int) ≤ ((x_11n : Nat) : Int) ∧ LoopP (T := (Option Addr × Nat × Nat) × (Option Addr × Nat × Nat) × (Option Addr × Nat × Nat) × Option Addr × (Option Addr × Nat × Nat) × Int × Int × Unit)
    (fun J => J ((ranges1a, ranges1n, ranges1c), (shut2a, shut2n, shut2c), (now3a, now3n, now3c), x_6, ((cutA x_11a ((1 : Int).toNat) x_11c 3), (x_11n - (1 : Int).toNat), (x_11c - (1 : Int).toNat)), 1, 0, ()) h_10)
    (fun J t h => s_jotterlaw23_NotesSweeps_l1 K J t.1.1 t.1.2.1 t.1.2.2 t.2.1.1 t.2.1.2.1 t.2.1.2.2 t.2.2.1.1 t.2.2.1.2.1 t.2.2.1.2.2 t.2.2.2.1 t.2.2.2.2.1.1 t.2.2.2.2.1.2.1 t.2.2.2.2.1.2.2 t.2.2.2.2.2.1 t.2.2.2.2.2.2.1 h))
theorem ok_jotterlaw23_NotesSweeps {K : Value → GH → Prop} {ranges1a : Option Addr} {ranges1n : Nat} {ranges1c : Nat} {shut2a : Option Addr} {shut2n : Nat} {shut2c : Nat} {now3a : Option Addr} {now3n : Nat} {now3c : Nat} {h : GH} (H : s_jotterlaw23_NotesSweeps K ranges1a ranges1n ranges1c shut2a shut2n shut2c now3a now3n now3c h) : GC pr n_jotterlaw23_NotesSweeps [.slice ranges1a ranges1n ranges1c, .slice shut2a shut2n shut2c, .slice now3a now3n now3c] h K :=
  GC_of mixed Try.func9 (hp := []) (an := an_jotterlaw23_NotesSweeps) (Eq.mp (by kernel_rfl : s_jotterlaw23_NotesSweeps K ranges1a ranges1n ranges1c shut2a shut2n shut2c now3a now3n now3c h = fnVC pr Try.f9 [] an_jotterlaw23_NotesSweeps [.slice ranges1a ranges1n ranges1c, .slice shut2a shut2n shut2c, .slice now3a now3n now3c] h K) H)

end Go.Proofs.Ytjieepgapjbjlaa.G
