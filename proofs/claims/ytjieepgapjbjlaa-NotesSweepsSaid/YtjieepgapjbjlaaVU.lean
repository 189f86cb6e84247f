/- What the ghost machine asks of functions of the program. -/
import Derived.Test.YtjieepgapjbjlaaVA
import Derived.Test.YtjieepgapjbjlaaV11
import Derived.Test.YtjieepgapjbjlaaChecked
namespace Go.Proofs.Ytjieepgapjbjlaa.G
open Go.Gv
set_option linter.unusedVariables false
set_option maxRecDepth 100000
abbrev n_jotterlaw23_NotesTwice : FuncId := 6
/-! jotter/jotterlaw23.NotesTwice -/
def an_jotterlaw23_NotesTwice : Ann := .seq .leaf (.seq .leaf (.seq .leaf (.seq .leaf (.seq (.seq .leaf (.cond (.seq .leaf .leaf) .leaf)) (.seq .leaf (.seq (.seq .leaf (.cond (.seq .leaf .leaf) .leaf)) (.seq (.seq .leaf (.one (.loop ⟨[(3, .slice), (4, .slice), (11, .slice), (12, .ptr), (15, .int .i64)], [], []⟩ (.seq (.seq .leaf (.cond .leaf .leaf)) (.seq (.one (.seq .leaf (.seq (.seq .leaf (.cond (.seq .leaf .leaf) .leaf)) .leaf))) .leaf))))) (.seq .leaf (.seq (.seq .leaf (.one (.loop ⟨[(4, .slice), (11, .slice), (12, .ptr), (20, .slice), (21, .int .i64)], [], []⟩ (.seq (.seq .leaf (.cond .leaf .leaf)) (.join ⟨[(4, .slice), (11, .slice), (12, .ptr), (20, .slice), (21, .int .i64)], [], []⟩ (.one (.seq .leaf (.seq (.seq .leaf (.cond (.seq .leaf .leaf) .leaf)) .leaf))) .leaf))))) (.seq .leaf (.seq .leaf (.seq (.seq .leaf (.cond (.seq .leaf .leaf) .leaf)) (.seq (.seq .leaf (.cond (.seq .leaf .leaf) .leaf)) (.seq (.seq .leaf (.cond (.seq .leaf .leaf) .leaf)) (.seq .leaf .leaf)))))))))))))))
def s_jotterlaw23_NotesTwice_k1 (K : Value → GH → Prop) (J1 : ((Option Addr × Nat × Nat) × (Option Addr × Nat × Nat) × (Option Addr × Nat × Nat) × Option Addr × Int × Unit) → GH → Prop)
  (J2 : ((Option Addr × Nat × Nat) × (Option Addr × Nat × Nat) × Option Addr × (Option Addr × Nat × Nat) × Int × Unit) → GH → Prop)
  (more46a : Option Addr) (more46n : Nat) (more46c : Nat) (d47a : Option Addr)
  (d47n : Nat) (d47c : Nat) (b48 : Option Addr) (c49a : Option Addr)
  (c49n : Nat) (c49c : Nat) (k50 : Int) (h : GH) : Prop :=
  J2 ((more46a, more46n, more46c), (d47a, d47n, d47c), b48, (c49a, c49n, c49c), w64 (k50 + 1), ()) h
def s_jotterlaw23_NotesTwice_l2 (K : Value → GH → Prop) (J1 : ((Option Addr × Nat × Nat) × (Option Addr × Nat × Nat) × (Option Addr × Nat × Nat) × Option Addr × Int × Unit) → GH → Prop)
  (J2 : ((Option Addr × Nat × Nat) × (Option Addr × Nat × Nat) × Option Addr × (Option Addr × Nat × Nat) × Int × Unit) → GH → Prop)
  (more33a : Option Addr) (more33n : Nat) (more33c : Nat) (d34a : Option Addr)
  (d34n : Nat) (d34c : Nat) (b35 : Option Addr) (c36a : Option Addr)
  (c36n : Nat) (c36c : Nat) (k37 : Int) (h : GH) : Prop :=
  br (decide (k37 < ((more33n : Nat) : Int))) (br (decide (k37 < 1000))
    (0 ≤ k37 ∧ k37 < ((more33n : Nat) : Int) ∧ nn more33a fun p38 =>
      ∃ (x_39 : Int), Rds h (Addr.add (Addr.add p38 (k37.toNat * 2)) 1) [.int .i64 x_39] ∧
      GC pr n_jotterlaw23_turned [.slice c36a c36n c36c, .agg ⟨[.bool false, .int .i64 x_39]⟩, .int .i64 (w64 ((1000 : Int) + k37))] h fun v_40 h_41 =>
      ∃ (x_42a : Option Addr) (x_42n : Nat) (x_42c : Nat), ∃ (x_43 : Int), ∃ (x_44 : Bool), ∃ (x_45 : Bool), v_40 = (.tuple ⟨[.slice x_42a x_42n x_42c, .int .i64 x_43, .bool x_44, .bool x_45]⟩ : Value) ∧
      br (!x_45) (K (.bool false) h_41) (s_jotterlaw23_NotesTwice_k1 K J1 J2 more33a more33n more33c d34a d34n d34c b35 x_42a x_42n x_42c k37 h_41))
    (GC pr n_notes_Board_Look [.pointer b35, .slice d34a d34n d34c, .int .i64 1] h fun v_51 h_52 =>
      ∃ (x_ID53 : Int), ∃ (x_Client54 : Int), ∃ (x_Words55 : ByteArray), ∃ (x_From56 : Int), ∃ (x_To57 : Int), ∃ (x_Gone58 : Bool), ∃ (x_Shut59 : Bool), ∃ (x_Replies60a : Option Addr)
      (x_Replies60n : Nat) (x_Replies60c : Nat), ∃ (x_61 : Int), v_51 = (.tuple ⟨[.agg ⟨[.int .i64 x_ID53, .int .i64 x_Client54, .string x_Words55, .int .i64 x_From56, .int .i64 x_To57, .bool x_Gone58, .bool x_Shut59, .slice x_Replies60a x_Replies60n x_Replies60c]⟩, .int .i64 x_61]⟩ : Value) ∧
      GC pr n_notes_Board_Look [.pointer b35, .slice c36a c36n c36c, .int .i64 1] h_52 fun v_62 h_63 =>
      ∃ (x_ID64 : Int), ∃ (x_Client65 : Int), ∃ (x_Words66 : ByteArray), ∃ (x_From67 : Int), ∃ (x_To68 : Int), ∃ (x_Gone69 : Bool), ∃ (x_Shut70 : Bool), ∃ (x_Replies71a : Option Addr)
      (x_Replies71n : Nat) (x_Replies71c : Nat), ∃ (x_72 : Int), v_62 = (.tuple ⟨[.agg ⟨[.int .i64 x_ID64, .int .i64 x_Client65, .string x_Words66, .int .i64 x_From67, .int .i64 x_To68, .bool x_Gone69, .bool x_Shut70, .slice x_Replies71a x_Replies71n x_Replies71c]⟩, .int .i64 x_72]⟩ : Value) ∧
      br (x_61 != 0) (K (.bool false) h_63) (br (x_72 != 0) (K (.bool false) h_63)
        (br (!(x_Gone58 == x_Gone69)) (K (.bool false) h_63) (br x_Gone58 (br (x_From56 == 0)
              (br (x_To57 == 0) (br (x_From67 == 0) (K (.bool (x_To68 == 0)) h_63)
                  (K (.bool false) h_63)) (K (.bool false) h_63))
              (K (.bool false) h_63)) (br (decide (x_From56 < 0))
              (K (.bool false) h_63) (br (decide (x_From56 ≥ x_To57))
                (K (.bool false) h_63) (br (decide (x_To57 > ((d34n : Nat) : Int)))
                  (K (.bool false) h_63) (br (decide (x_From67 < 0))
                    (K (.bool false) h_63) (br (decide (x_From67 ≥ x_To68))
                      (K (.bool false) h_63) (br (decide (x_To68 > ((c36n : Nat) : Int)))
                        (K (.bool false) h_63) (0 ≤ x_From56 ∧
                        x_From56 < ((d34n : Nat) : Int) ∧ nn d34a fun p73 =>
                        ∃ (x_Ch74 : Int), ∃ (x_Client75 : Int), ∃ (x_Seq76 : Int), Rds h_63 (Addr.add p73 (x_From56.toNat * 3)) [.int .u8 x_Ch74, .int .i64 x_Client75, .int .i64 x_Seq76] ∧
                        0 ≤ x_From67 ∧ x_From67 < ((c36n : Nat) : Int) ∧
                        nn c36a fun p77 => ∃ (x_Ch78 : Int), ∃ (x_Client79 : Int), ∃ (x_Seq80 : Int), Rds h_63 (Addr.add p77 (x_From67.toNat * 3)) [.int .u8 x_Ch78, .int .i64 x_Client79, .int .i64 x_Seq80] ∧
                        br ((x_Ch74 == x_Ch78) && ((x_Client75 == x_Client79) && (x_Seq76 == x_Seq80)))
                        (0 ≤ w64 (x_To57 - 1) ∧ w64 (x_To57 - 1) < ((d34n : Nat) : Int) ∧
                        nn d34a fun p81 => ∃ (x_Ch82 : Int), ∃ (x_Client83 : Int), ∃ (x_Seq84 : Int), Rds h_63 (Addr.add p81 ((w64 (x_To57 - 1)).toNat * 3)) [.int .u8 x_Ch82, .int .i64 x_Client83, .int .i64 x_Seq84] ∧
                        0 ≤ w64 (x_To68 - 1) ∧ w64 (x_To68 - 1) < ((c36n : Nat) : Int) ∧
                        nn c36a fun p85 => ∃ (x_Ch86 : Int), ∃ (x_Client87 : Int), ∃ (x_Seq88 : Int), Rds h_63 (Addr.add p85 ((w64 (x_To68 - 1)).toNat * 3)) [.int .u8 x_Ch86, .int .i64 x_Client87, .int .i64 x_Seq88] ∧
                        K (.bool ((x_Ch82 == x_Ch86) && ((x_Client83 == x_Client87) && (x_Seq84 == x_Seq88)))) h_63)
                        (K (.bool false) h_63))))))))))))) (GC pr n_notes_Board_Look [.pointer b35, .slice d34a d34n d34c, .int .i64 1] h fun v_89 h_90 =>
    ∃ (x_ID91 : Int), ∃ (x_Client92 : Int), ∃ (x_Words93 : ByteArray), ∃ (x_From94 : Int), ∃ (x_To95 : Int), ∃ (x_Gone96 : Bool), ∃ (x_Shut97 : Bool), ∃ (x_Replies98a : Option Addr)
    (x_Replies98n : Nat) (x_Replies98c : Nat), ∃ (x_99 : Int), v_89 = (.tuple ⟨[.agg ⟨[.int .i64 x_ID91, .int .i64 x_Client92, .string x_Words93, .int .i64 x_From94, .int .i64 x_To95, .bool x_Gone96, .bool x_Shut97, .slice x_Replies98a x_Replies98n x_Replies98c]⟩, .int .i64 x_99]⟩ : Value) ∧
    GC pr n_notes_Board_Look [.pointer b35, .slice c36a c36n c36c, .int .i64 1] h_90 fun v_100 h_101 =>
    ∃ (x_ID102 : Int), ∃ (x_Client103 : Int), ∃ (x_Words104 : ByteArray), ∃ (x_From105 : Int), ∃ (x_To106 : Int), ∃ (x_Gone107 : Bool), ∃ (x_Shut108 : Bool), ∃ (x_Replies109a : Option Addr)
    (x_Replies109n : Nat) (x_Replies109c : Nat), ∃ (x_110 : Int), v_100 = (.tuple ⟨[.agg ⟨[.int .i64 x_ID102, .int .i64 x_Client103, .string x_Words104, .int .i64 x_From105, .int .i64 x_To106, .bool x_Gone107, .bool x_Shut108, .slice x_Replies109a x_Replies109n x_Replies109c]⟩, .int .i64 x_110]⟩ : Value) ∧
    br (x_99 != 0) (K (.bool false) h_101) (br (x_110 != 0) (K (.bool false) h_101)
      (br (!(x_Gone96 == x_Gone107)) (K (.bool false) h_101) (br x_Gone96 (br (x_From94 == 0)
            (br (x_To95 == 0) (br (x_From105 == 0) (K (.bool (x_To106 == 0)) h_101)
                (K (.bool false) h_101)) (K (.bool false) h_101))
            (K (.bool false) h_101)) (br (decide (x_From94 < 0))
            (K (.bool false) h_101) (br (decide (x_From94 ≥ x_To95))
              (K (.bool false) h_101) (br (decide (x_To95 > ((d34n : Nat) : Int)))
                (K (.bool false) h_101) (br (decide (x_From105 < 0))
                  (K (.bool false) h_101) (br (decide (x_From105 ≥ x_To106))
                    (K (.bool false) h_101) (br (decide (x_To106 > ((c36n : Nat) : Int)))
                      (K (.bool false) h_101) (0 ≤ x_From94 ∧ x_From94 < ((d34n : Nat) : Int) ∧
                        nn d34a fun p111 => ∃ (x_Ch112 : Int), ∃ (x_Client113 : Int), ∃ (x_Seq114 : Int), Rds h_101 (Addr.add p111 (x_From94.toNat * 3)) [.int .u8 x_Ch112, .int .i64 x_Client113, .int .i64 x_Seq114] ∧
                        0 ≤ x_From105 ∧ x_From105 < ((c36n : Nat) : Int) ∧
                        nn c36a fun p115 => ∃ (x_Ch116 : Int), ∃ (x_Client117 : Int), ∃ (x_Seq118 : Int), Rds h_101 (Addr.add p115 (x_From105.toNat * 3)) [.int .u8 x_Ch116, .int .i64 x_Client117, .int .i64 x_Seq118] ∧
                        br ((x_Ch112 == x_Ch116) && ((x_Client113 == x_Client117) && (x_Seq114 == x_Seq118)))
                        (0 ≤ w64 (x_To95 - 1) ∧ w64 (x_To95 - 1) < ((d34n : Nat) : Int) ∧
                        nn d34a fun p119 => ∃ (x_Ch120 : Int), ∃ (x_Client121 : Int), ∃ (x_Seq122 : Int), Rds h_101 (Addr.add p119 ((w64 (x_To95 - 1)).toNat * 3)) [.int .u8 x_Ch120, .int .i64 x_Client121, .int .i64 x_Seq122] ∧
                        0 ≤ w64 (x_To106 - 1) ∧ w64 (x_To106 - 1) < ((c36n : Nat) : Int) ∧
                        nn c36a fun p123 => ∃ (x_Ch124 : Int), ∃ (x_Client125 : Int), ∃ (x_Seq126 : Int), Rds h_101 (Addr.add p123 ((w64 (x_To106 - 1)).toNat * 3)) [.int .u8 x_Ch124, .int .i64 x_Client125, .int .i64 x_Seq126] ∧
                        K (.bool ((x_Ch120 == x_Ch124) && ((x_Client121 == x_Client125) && (x_Seq122 == x_Seq126)))) h_101)
                        (K (.bool false) h_101))))))))))))
def s_jotterlaw23_NotesTwice_k2 (K : Value → GH → Prop) (J1 : ((Option Addr × Nat × Nat) × (Option Addr × Nat × Nat) × (Option Addr × Nat × Nat) × Option Addr × Int × Unit) → GH → Prop)
  (J2 : ((Option Addr × Nat × Nat) × (Option Addr × Nat × Nat) × Option Addr × (Option Addr × Nat × Nat) × Int × Unit) → GH → Prop)
  (more140a : Option Addr) (more140n : Nat) (more140c : Nat) (d141a : Option Addr)
  (d141n : Nat) (d141c : Nat) (b142 : Option Addr) (c143a : Option Addr)
  (c143n : Nat) (c143c : Nat) (k144 : Int) (h : GH) : Prop :=
  J2 ((more140a, more140n, more140c), (d141a, d141n, d141c), b142, (c143a, c143n, c143c), w64 (k144 + 1), ()) h
def s_jotterlaw23_NotesTwice_l3 (K : Value → GH → Prop) (J1 : ((Option Addr × Nat × Nat) × (Option Addr × Nat × Nat) × (Option Addr × Nat × Nat) × Option Addr × Int × Unit) → GH → Prop)
  (J2 : ((Option Addr × Nat × Nat) × (Option Addr × Nat × Nat) × Option Addr × (Option Addr × Nat × Nat) × Int × Unit) → GH → Prop)
  (more127a : Option Addr) (more127n : Nat) (more127c : Nat) (d128a : Option Addr)
  (d128n : Nat) (d128c : Nat) (b129 : Option Addr) (c130a : Option Addr)
  (c130n : Nat) (c130c : Nat) (k131 : Int) (h : GH) : Prop :=
  br (decide (k131 < ((more127n : Nat) : Int))) (br (decide (k131 < 1000))
    (0 ≤ k131 ∧ k131 < ((more127n : Nat) : Int) ∧ nn more127a fun p132 =>
      ∃ (x_133 : Int), Rds h (Addr.add (Addr.add p132 (k131.toNat * 2)) 1) [.int .i64 x_133] ∧
      GC pr n_jotterlaw23_turned [.slice c130a c130n c130c, .agg ⟨[.bool false, .int .i64 x_133]⟩, .int .i64 (w64 ((1000 : Int) + k131))] h fun v_134 h_135 =>
      ∃ (x_136a : Option Addr) (x_136n : Nat) (x_136c : Nat), ∃ (x_137 : Int), ∃ (x_138 : Bool), ∃ (x_139 : Bool), v_134 = (.tuple ⟨[.slice x_136a x_136n x_136c, .int .i64 x_137, .bool x_138, .bool x_139]⟩ : Value) ∧
      br (!x_139) (K (.bool false) h_135) (s_jotterlaw23_NotesTwice_k2 K J1 J2 more127a more127n more127c d128a d128n d128c b129 x_136a x_136n x_136c k131 h_135))
    (GC pr n_notes_Board_Look [.pointer b129, .slice d128a d128n d128c, .int .i64 1] h fun v_145 h_146 =>
      ∃ (x_ID147 : Int), ∃ (x_Client148 : Int), ∃ (x_Words149 : ByteArray), ∃ (x_From150 : Int), ∃ (x_To151 : Int), ∃ (x_Gone152 : Bool), ∃ (x_Shut153 : Bool), ∃ (x_Replies154a : Option Addr)
      (x_Replies154n : Nat) (x_Replies154c : Nat), ∃ (x_155 : Int), v_145 = (.tuple ⟨[.agg ⟨[.int .i64 x_ID147, .int .i64 x_Client148, .string x_Words149, .int .i64 x_From150, .int .i64 x_To151, .bool x_Gone152, .bool x_Shut153, .slice x_Replies154a x_Replies154n x_Replies154c]⟩, .int .i64 x_155]⟩ : Value) ∧
      GC pr n_notes_Board_Look [.pointer b129, .slice c130a c130n c130c, .int .i64 1] h_146 fun v_156 h_157 =>
      ∃ (x_ID158 : Int), ∃ (x_Client159 : Int), ∃ (x_Words160 : ByteArray), ∃ (x_From161 : Int), ∃ (x_To162 : Int), ∃ (x_Gone163 : Bool), ∃ (x_Shut164 : Bool), ∃ (x_Replies165a : Option Addr)
      (x_Replies165n : Nat) (x_Replies165c : Nat), ∃ (x_166 : Int), v_156 = (.tuple ⟨[.agg ⟨[.int .i64 x_ID158, .int .i64 x_Client159, .string x_Words160, .int .i64 x_From161, .int .i64 x_To162, .bool x_Gone163, .bool x_Shut164, .slice x_Replies165a x_Replies165n x_Replies165c]⟩, .int .i64 x_166]⟩ : Value) ∧
      br (x_155 != 0) (K (.bool false) h_157) (br (x_166 != 0)
        (K (.bool false) h_157) (br (!(x_Gone152 == x_Gone163))
          (K (.bool false) h_157) (br x_Gone152 (br (x_From150 == 0)
              (br (x_To151 == 0) (br (x_From161 == 0) (K (.bool (x_To162 == 0)) h_157)
                  (K (.bool false) h_157)) (K (.bool false) h_157))
              (K (.bool false) h_157)) (br (decide (x_From150 < 0))
              (K (.bool false) h_157) (br (decide (x_From150 ≥ x_To151))
                (K (.bool false) h_157) (br (decide (x_To151 > ((d128n : Nat) : Int)))
                  (K (.bool false) h_157) (br (decide (x_From161 < 0))
                    (K (.bool false) h_157) (br (decide (x_From161 ≥ x_To162))
                      (K (.bool false) h_157) (br (decide (x_To162 > ((c130n : Nat) : Int)))
                        (K (.bool false) h_157) (0 ≤ x_From150 ∧
                        x_From150 < ((d128n : Nat) : Int) ∧ nn d128a fun p167 =>
                        ∃ (x_Ch168 : Int), ∃ (x_Client169 : Int), ∃ (x_Seq170 : Int), Rds h_157 (Addr.add p167 (x_From150.toNat * 3)) [.int .u8 x_Ch168, .int .i64 x_Client169, .int .i64 x_Seq170] ∧
                        0 ≤ x_From161 ∧ x_From161 < ((c130n : Nat) : Int) ∧
                        nn c130a fun p171 => ∃ (x_Ch172 : Int), ∃ (x_Client173 : Int), ∃ (x_Seq174 : Int), Rds h_157 (Addr.add p171 (x_From161.toNat * 3)) [.int .u8 x_Ch172, .int .i64 x_Client173, .int .i64 x_Seq174] ∧
                        br ((x_Ch168 == x_Ch172) && ((x_Client169 == x_Client173) && (x_Seq170 == x_Seq174)))
                        (0 ≤ w64 (x_To151 - 1) ∧ w64 (x_To151 - 1) < ((d128n : Nat) : Int) ∧
                        nn d128a fun p175 => ∃ (x_Ch176 : Int), ∃ (x_Client177 : Int), ∃ (x_Seq178 : Int), Rds h_157 (Addr.add p175 ((w64 (x_To151 - 1)).toNat * 3)) [.int .u8 x_Ch176, .int .i64 x_Client177, .int .i64 x_Seq178] ∧
                        0 ≤ w64 (x_To162 - 1) ∧ w64 (x_To162 - 1) < ((c130n : Nat) : Int) ∧
                        nn c130a fun p179 => ∃ (x_Ch180 : Int), ∃ (x_Client181 : Int), ∃ (x_Seq182 : Int), Rds h_157 (Addr.add p179 ((w64 (x_To162 - 1)).toNat * 3)) [.int .u8 x_Ch180, .int .i64 x_Client181, .int .i64 x_Seq182] ∧
                        K (.bool ((x_Ch176 == x_Ch180) && ((x_Client177 == x_Client181) && (x_Seq178 == x_Seq182)))) h_157)
                        (K (.bool false) h_157))))))))))))) (GC pr n_notes_Board_Look [.pointer b129, .slice d128a d128n d128c, .int .i64 1] h fun v_183 h_184 =>
    ∃ (x_ID185 : Int), ∃ (x_Client186 : Int), ∃ (x_Words187 : ByteArray), ∃ (x_From188 : Int), ∃ (x_To189 : Int), ∃ (x_Gone190 : Bool), ∃ (x_Shut191 : Bool), ∃ (x_Replies192a : Option Addr)
    (x_Replies192n : Nat) (x_Replies192c : Nat), ∃ (x_193 : Int), v_183 = (.tuple ⟨[.agg ⟨[.int .i64 x_ID185, .int .i64 x_Client186, .string x_Words187, .int .i64 x_From188, .int .i64 x_To189, .bool x_Gone190, .bool x_Shut191, .slice x_Replies192a x_Replies192n x_Replies192c]⟩, .int .i64 x_193]⟩ : Value) ∧
    GC pr n_notes_Board_Look [.pointer b129, .slice c130a c130n c130c, .int .i64 1] h_184 fun v_194 h_195 =>
    ∃ (x_ID196 : Int), ∃ (x_Client197 : Int), ∃ (x_Words198 : ByteArray), ∃ (x_From199 : Int), ∃ (x_To200 : Int), ∃ (x_Gone201 : Bool), ∃ (x_Shut202 : Bool), ∃ (x_Replies203a : Option Addr)
    (x_Replies203n : Nat) (x_Replies203c : Nat), ∃ (x_204 : Int), v_194 = (.tuple ⟨[.agg ⟨[.int .i64 x_ID196, .int .i64 x_Client197, .string x_Words198, .int .i64 x_From199, .int .i64 x_To200, .bool x_Gone201, .bool x_Shut202, .slice x_Replies203a x_Replies203n x_Replies203c]⟩, .int .i64 x_204]⟩ : Value) ∧
    br (x_193 != 0) (K (.bool false) h_195) (br (x_204 != 0) (K (.bool false) h_195)
      (br (!(x_Gone190 == x_Gone201)) (K (.bool false) h_195)
        (br x_Gone190 (br (x_From188 == 0) (br (x_To189 == 0)
              (br (x_From199 == 0) (K (.bool (x_To200 == 0)) h_195)
                (K (.bool false) h_195)) (K (.bool false) h_195))
            (K (.bool false) h_195)) (br (decide (x_From188 < 0))
            (K (.bool false) h_195) (br (decide (x_From188 ≥ x_To189))
              (K (.bool false) h_195) (br (decide (x_To189 > ((d128n : Nat) : Int)))
                (K (.bool false) h_195) (br (decide (x_From199 < 0))
                  (K (.bool false) h_195) (br (decide (x_From199 ≥ x_To200))
                    (K (.bool false) h_195) (br (decide (x_To200 > ((c130n : Nat) : Int)))
                      (K (.bool false) h_195) (0 ≤ x_From188 ∧
                        x_From188 < ((d128n : Nat) : Int) ∧ nn d128a fun p205 =>
                        ∃ (x_Ch206 : Int), ∃ (x_Client207 : Int), ∃ (x_Seq208 : Int), Rds h_195 (Addr.add p205 (x_From188.toNat * 3)) [.int .u8 x_Ch206, .int .i64 x_Client207, .int .i64 x_Seq208] ∧
                        0 ≤ x_From199 ∧ x_From199 < ((c130n : Nat) : Int) ∧
                        nn c130a fun p209 => ∃ (x_Ch210 : Int), ∃ (x_Client211 : Int), ∃ (x_Seq212 : Int), Rds h_195 (Addr.add p209 (x_From199.toNat * 3)) [.int .u8 x_Ch210, .int .i64 x_Client211, .int .i64 x_Seq212] ∧
                        br ((x_Ch206 == x_Ch210) && ((x_Client207 == x_Client211) && (x_Seq208 == x_Seq212)))
                        (0 ≤ w64 (x_To189 - 1) ∧ w64 (x_To189 - 1) < ((d128n : Nat) : Int) ∧
                        nn d128a fun p213 => ∃ (x_Ch214 : Int), ∃ (x_Client215 : Int), ∃ (x_Seq216 : Int), Rds h_195 (Addr.add p213 ((w64 (x_To189 - 1)).toNat * 3)) [.int .u8 x_Ch214, .int .i64 x_Client215, .int .i64 x_Seq216] ∧
                        0 ≤ w64 (x_To200 - 1) ∧ w64 (x_To200 - 1) < ((c130n : Nat) : Int) ∧
                        nn c130a fun p217 => ∃ (x_Ch218 : Int), ∃ (x_Client219 : Int), ∃ (x_Seq220 : Int), Rds h_195 (Addr.add p217 ((w64 (x_To200 - 1)).toNat * 3)) [.int .u8 x_Ch218, .int .i64 x_Client219, .int .i64 x_Seq220] ∧
                        K (.bool ((x_Ch214 == x_Ch218) && ((x_Client215 == x_Client219) && (x_Seq216 == x_Seq220)))) h_195)
                        (K (.bool false) h_195))))))))))))
def s_jotterlaw23_NotesTwice_l1 (K : Value → GH → Prop) (J1 : ((Option Addr × Nat × Nat) × (Option Addr × Nat × Nat) × (Option Addr × Nat × Nat) × Option Addr × Int × Unit) → GH → Prop)
  (turns19a : Option Addr) (turns19n : Nat) (turns19c : Nat) (more20a : Option Addr)
  (more20n : Nat) (more20c : Nat) (d21a : Option Addr) (d21n : Nat)
  (d21c : Nat) (b22 : Option Addr) (k23 : Int) (h : GH) : Prop :=
  br (decide (k23 < ((turns19n : Nat) : Int))) (br (decide (k23 < 1000))
    (0 ≤ k23 ∧ k23 < ((turns19n : Nat) : Int) ∧ nn turns19a fun p24 =>
      ∃ (x_Out25 : Bool), ∃ (x_N26 : Int), Rds h (Addr.add p24 (k23.toNat * 2)) [.bool x_Out25, .int .i64 x_N26] ∧
      GC pr n_jotterlaw23_turned [.slice d21a d21n d21c, .agg ⟨[.bool x_Out25, .int .i64 x_N26]⟩, .int .i64 k23] h fun v_27 h_28 =>
      ∃ (x_29a : Option Addr) (x_29n : Nat) (x_29c : Nat), ∃ (x_30 : Int), ∃ (x_31 : Bool), ∃ (x_32 : Bool), v_27 = (.tuple ⟨[.slice x_29a x_29n x_29c, .int .i64 x_30, .bool x_31, .bool x_32]⟩ : Value) ∧
      br (!x_32) (K (.bool false) h_28) (J1 ((turns19a, turns19n, turns19c), (more20a, more20n, more20c), (x_29a, x_29n, x_29c), b22, w64 (k23 + 1), ()) h_28))
    (LoopP (T := (Option Addr × Nat × Nat) × (Option Addr × Nat × Nat) × Option Addr × (Option Addr × Nat × Nat) × Int × Unit)
      (fun J => J ((more20a, more20n, more20c), (d21a, d21n, d21c), b22, (d21a, d21n, d21c), 0, ()) h)
      (fun J t h => s_jotterlaw23_NotesTwice_l2 K J1 J t.1.1 t.1.2.1 t.1.2.2 t.2.1.1 t.2.1.2.1 t.2.1.2.2 t.2.2.1 t.2.2.2.1.1 t.2.2.2.1.2.1 t.2.2.2.1.2.2 t.2.2.2.2.1 h)))
  (LoopP (T := (Option Addr × Nat × Nat) × (Option Addr × Nat × Nat) × Option Addr × (Option Addr × Nat × Nat) × Int × Unit)
    (fun J => J ((more20a, more20n, more20c), (d21a, d21n, d21c), b22, (d21a, d21n, d21c), 0, ()) h)
    (fun J t h => s_jotterlaw23_NotesTwice_l3 K J1 J t.1.1 t.1.2.1 t.1.2.2 t.2.1.1 t.2.1.2.1 t.2.1.2.2 t.2.2.1 t.2.2.2.1.1 t.2.2.2.1.2.1 t.2.2.2.1.2.2 t.2.2.2.2.1 h))
def s_jotterlaw23_NotesTwice (K : Value → GH → Prop) (n1 : Int)
  (from_2 : Int) (to_3 : Int) (turns4a : Option Addr) (turns4n : Nat)
  (turns4c : Nat) (more5a : Option Addr) (more5n : Nat) (more5c : Nat)
  (h : GH) : Prop :=
  GC pr n_jotterlaw23_within [.int .i64 n1, .int .i64 1, .int .i64 200] h fun v_6 h_7 =>
  ∃ (x_8 : Int), v_6 = (.int .i64 x_8 : Value) ∧ GC pr n_jotterlaw23_text [.int .i64 x_8] h_7 fun v_9 h_10 =>
  ∃ (x_11a : Option Addr) (x_11n : Nat) (x_11c : Nat), v_9 = (.slice x_11a x_11n x_11c : Value) ∧
  GC pr n_notes_New [] h_10 fun v_12 h_13 => ∃ (x_14 : Option Addr), v_12 = (.pointer x_14 : Value) ∧
  br x_14.isNone (K (.bool false) h_13) (GC pr n_jotterlaw23_put [.pointer x_14, .slice x_11a x_11n x_11c, .int .i64 from_2, .int .i64 to_3] h_13 fun v_15 h_16 =>
    ∃ (x_17 : Int), ∃ (x_18 : Int), v_15 = (.tuple ⟨[.int .i64 x_17, .int .i64 x_18]⟩ : Value) ∧
    br (x_17 != 1) (K (.bool false) h_16) (br (x_18 != 0) (K (.bool false) h_16)
      (LoopP (T := (Option Addr × Nat × Nat) × (Option Addr × Nat × Nat) × (Option Addr × Nat × Nat) × Option Addr × Int × Unit)
        (fun J => J ((turns4a, turns4n, turns4c), (more5a, more5n, more5c), (x_11a, x_11n, x_11c), x_14, 0, ()) h_16)
        (fun J t h => s_jotterlaw23_NotesTwice_l1 K J t.1.1 t.1.2.1 t.1.2.2 t.2.1.1 t.2.1.2.1 t.2.1.2.2 t.2.2.1.1 t.2.2.1.2.1 t.2.2.1.2.2 t.2.2.2.1 t.2.2.2.2.1 h))))
theorem ok_jotterlaw23_NotesTwice {K : Value → GH → Prop} {n1 : Int} {from_2 : Int} {to_3 : Int} {turns4a : Option Addr} {turns4n : Nat} {turns4c : Nat} {more5a : Option Addr} {more5n : Nat} {more5c : Nat} {h : GH} (H : s_jotterlaw23_NotesTwice K n1 from_2 to_3 turns4a turns4n turns4c more5a more5n more5c h) : GC pr n_jotterlaw23_NotesTwice [.int .i64 n1, .int .i64 from_2, .int .i64 to_3, .slice turns4a turns4n turns4c, .slice more5a more5n more5c] h K :=
  GC_of mixed Try.func6 (hp := []) (an := an_jotterlaw23_NotesTwice) (Eq.mp (by kernel_rfl : s_jotterlaw23_NotesTwice K n1 from_2 to_3 turns4a turns4n turns4c more5a more5n more5c h = fnVC pr Try.f6 [] an_jotterlaw23_NotesTwice [.int .i64 n1, .int .i64 from_2, .int .i64 to_3, .slice turns4a turns4n turns4c, .slice more5a more5n more5c] h K) H)

end Go.Proofs.Ytjieepgapjbjlaa.G
