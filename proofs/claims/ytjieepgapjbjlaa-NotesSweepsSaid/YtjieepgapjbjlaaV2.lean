/- The ghost machine: an operation, a region, a body. -/
import Derived.Test.YtjieepgapjbjlaaV1
import Derived.Test.YtjieepgapjbjlaaVO
namespace Go.Gv
set_option linter.unusedVariables false

/-! ### Reading and writing -/

def RdsO (h : GH) (a : Option Addr) (vs : List Value) : Prop :=
  match a with
  | none => vs = []
  | some p => Rds h p vs

/-- The cells that an append or a copy reads: n elements of k cells. -/
def Src (st : St) (h : GH) (x : FVal) (k : Nat) (K : List Value → Nat → Prop) : Prop :=
  match x with
  | .lsl s n => match look s st.l with
    | some vs => match Nat.beq vs.length (n * k), vs.all one with
      | true, true => K vs n
      | _, _ => False
    | none => False
  | .v (.slice a n _) => ∃ Y : List Value, Y.length = n * k ∧ RdsO h a Y ∧ K Y n
  | .v (.string s) => match Nat.beq k 1 with
    | true => K (s.data.toList.map fun b => .int .u8 b.toNat) s.size
    | false => False
  | _ => False

/-- What an append comes to: K is given the address, the capacity and the heap. -/
def AppK (h : GH) (a : Option Addr) (n c k bytes : Nat) (Y : List Value) (m : Nat) (K : Option Addr → Nat → GH → Prop) : Prop :=
  (n + m) * bytes ≤ 140737488355328 ∧
  match a with
  | none => n = 0 ∧ c = 0 ∧ (m = 0 → K none 0 h) ∧
      (0 < m → ∀ b c' : Nat, h b = none → m ≤ c' → K (some ⟨b, 0, none⟩) c' (h.set b (.cells 0 Y (some (c' * k)))))
  | some p => ∃ X : List Value, X.length = n * k ∧ Rds h p X ∧
      ((∃ base vs room, h p.block = some (.cells base vs (some room)) ∧ base ≤ p.off ∧ p.off + c * k ≤ room ∧ n ≤ c ∧
          ∀ b off c' room' : Nat, (h.del p.block) b = none → n + m ≤ c' → off + c' * k ≤ room' →
            K (some ⟨b, off, none⟩) c' ((h.del p.block).set b (.cells off (X ++ Y) (some room')))) ∨
       (c < n + m ∧ ∀ b c' : Nat, h b = none → n + m ≤ c' → K (some ⟨b, 0, none⟩) c' (h.set b (.cells 0 (X ++ Y) (some (c' * k))))))

def copyVC (st : St) (h : GH) (a : Option Addr) (dn k : Nat) (x : FVal) (sn : Nat) (K : Value → GH → Prop) : Prop :=
  (Nat.min sn dn = 0 → K (goInt (0 : Nat)) h) ∧
  (0 < Nat.min sn dn → ∃ Y : List Value, Y.length = Nat.min sn dn * k ∧
    (match x with
     | .v (.slice b _ _) => RdsO h b Y
     | .v (.string s) => k = 1 ∧ Y = ((s.extract 0 (Nat.min sn dn)).data.toList.map fun b => .int .u8 b.toNat)
     | _ => False) ∧ nn a fun p => Wr h p Y fun h' => K (goInt (Nat.min sn dn : Nat)) h')

/-! ### Maps -/

def zeroT (P : Program) (t : TypeId) : Option Value :=
  match P.info? t with
  | some i => i.zero
  | none => none

def findE (P : Program) (kt : TypeId) (k : Value) : List MapEntry → Nat → Option (Option (Nat × Value))
  | [], _ => some none
  | e :: es, i => match eqB P 10000 kt k e.key with
    | some true => some (some (i, e.val))
    | some false => findE P kt k es (i + 1)
    | none => none

def ckKey (P : Program) (kt : TypeId) (k : Value) : Bool :=
  match pev P (Instr.checkKey true 10000 kt k), pev P (Instr.checkKey false 10000 kt k) with
  | some _, some _ => true
  | _, _ => false

/-- Asked of the map m (none: nil) the key k has v, and is there or not. -/
def Lk (P : Program) (h : GH) (kt et : TypeId) (m : Option Nat) (k v : Value) (ok : Bool) : Prop :=
  match m with
  | none => ok = false ∧ zeroT P et = some v
  | some r => ∃ es clock, h r = some (.raw (.map es clock)) ∧ ∃ res, findE P kt k es.toList 0 = some res ∧
      match res with
      | some (_, u) => v = u ∧ ok = true
      | none => zeroT P et = some v ∧ ok = false

def plainK : Value → Bool
  | .int _ _ | .bool _ | .string _ => true
  | .agg cs => cs.toList.all fun | .int _ _ | .bool _ | .string _ => true | _ => false
  | _ => false

def MUp (P : Program) (h : GH) (kt : TypeId) (m : Option Nat) (k v : Value) (K : GH → Prop) : Prop :=
  match m with
  | none => False
  | some r => ∃ es clock, h r = some (.raw (.map es clock)) ∧ ∃ res, findE P kt k es.toList 0 = some res ∧
      match res with
      | some (i, _) => (es[i]?).map (·.key) = some k ∧ K (h.set r (.raw (.map (es.modify i fun e => { e with key := k, val := v }) clock)))
      | none => K (h.set r (.raw (.map (es.push { key := k, val := v, born := clock }) (clock + 1))))

def MDel (P : Program) (h : GH) (kt : TypeId) (m : Option Nat) (k : Value) (K : GH → Prop) : Prop :=
  match m with
  | none => K h
  | some r => ∃ es clock, h r = some (.raw (.map es clock)) ∧ ∃ res, findE P kt k es.toList 0 = some res ∧
      match res with
      | some (i, _) => K (h.set r (.raw (.map (es.eraseIdxIfInBounds i) clock)))
      | none => K h

def MLen (h : GH) (m : Option Nat) (n : Nat) : Prop :=
  match m with
  | none => n = 0
  | some r => ∃ es clock, h r = some (.raw (.map es clock)) ∧ n = es.size

def MRange (h : GH) (m : Option Nat) (K : Nat → GH → Prop) : Prop :=
  match m with
  | none => NewRaw h (.mapIter none 0 #[] 0) K
  | some r => ∃ es clock, h r = some (.raw (.map es clock)) ∧ NewRaw h (.mapIter (some r) clock #[] clock) K

/-- The next step of a range over a map that got no new entry since the range began: A where it is at its end, B at the entry that comes. -/
def MNx (h : GH) (b : Nat) (A : Prop) (B : MapEntry → GH → Prop) : Prop :=
  ∃ m since seen last, h b = some (.raw (.mapIter m since seen last)) ∧
    match m with
    | none => A
    | some r => ∃ es clock, h r = some (.raw (.map es clock)) ∧ clock = since ∧ last = since ∧ (∀ e ∈ es.toList, e.born < clock) ∧
        ((es.filter fun e => !seen.contains e.born).toList = [] → A) ∧
        (∀ e, e ∈ (es.filter fun e => !seen.contains e.born).toList → B e (h.set b (.raw (.mapIter (some r) since (seen.push e.born) clock))))

def MNext (P : Program) (h : GH) (t : TypeId) (b : Nat) (K : Value → GH → Prop) : Prop :=
  MNx h b (K (.tuple ⟨[.bool false]⟩) h) fun e h' => K (.tuple ⟨[.bool true, e.key, e.val]⟩) h'

/-- The entry at which a range over a map stands. -/
def MEx (h : GH) (b : Nat) (B : MapEntry → Prop) : Prop :=
  ∃ r since seen stepped es clock stamp e, h b = some (.raw (.mapIter (some r) since seen stepped)) ∧ h r = some (.raw (.map es clock)) ∧ clock = stepped ∧
    seen.back? = some stamp ∧ es.find? (fun e => e.born == stamp) = some e ∧ B e

/-- The type of the map over which a range goes, told for its entry's slot among the blocks' numbers. -/
def hintT (hp : List Nat) (d : Option Tmp) : TypeId :=
  match d with
  | none => 0
  | some d => match hp.find? (fun x => Nat.ble 1000000 x && Nat.beq (x % 1000000) d) with
    | some x => x / 1000000 - 1
    | none => 0

def MEntry (P : Program) (h : GH) (t : TypeId) (b : Nat) (K : Value → Prop) : Prop :=
  MEx h b fun e => match P.underlying t with
    | some (.map kt et) => exT1 P kt fun k => exT1 P et fun v => k = e.key ∧ v = e.val ∧ K (.tuple ⟨[k, v]⟩)
    | _ => K (.tuple ⟨[e.key, e.val]⟩)

/-! ### An operation -/

def bnd (x : Option FVal) (dflt lim : Nat) (K : Nat → Prop) : Prop :=
  match x with
  | none => K dflt
  | some (.v (.int _ i)) => 0 ≤ i ∧ i ≤ (lim : Int) ∧ K i.toNat
  | _ => False

def bndO (st : St) (x : Option Operand) (dflt lim : Nat) (K : Nat → Prop) : Prop :=
  match x with
  | none => K dflt
  | some x => match st.ev x with
    | some v => bnd (some v) dflt lim K
    | none => False

/-- Where a slice begins that is cut at l. -/
def cutA (a : Option Addr) (l m size : Nat) : Option Addr := if m = l then a else a.map (·.add (l * size))

def adr (lo : Option Operand) (a : Option Addr) (l m size : Nat) : Option Addr :=
  match lo with
  | none => a
  | some _ => cutA a l m size

def bt (s : ByteArray) (i : Int) : Int := ((s.data.toList.getD i.toNat 0).toNat : Int)

def isSelect : Op → Bool
  | .select .. => true
  | _ => false

/-- What a value hangs on: cells of the ghost heap, or a private block. -/
inductive Fact where
  | none
  | heap (p : Addr) (vs : List Value)
  | priv (s : Nat) (vs : List Value)

/-- Whatever value the model's own operation comes to where it looks at no memory. -/
def genV (P : Program) (o : Oper) (st : St) (K : FVal → Fact → Prop) : Prop :=
  match isSelect o.op, o.op.operands.toList.all st.known with
  | false, true => match pev P (execOp st.val o) with
    | some (.value v) => K (.v v) .none
    | _ => False
  | _, _ => False

/-- Whatever the model's own operation comes to where it looks at no memory; a call. -/
def genVC (P : Program) (N : Nat) (o : Oper) (st : St) (h : GH) (K : St → GH → Prop) : Prop :=
  match isSelect o.op, o.op.operands.toList.all st.known with
  | false, true => match pev P (execOp st.val o) with
    | some (.value v) => putD N st o.dst (.v v) h K
    | some .skip => putD N st o.dst (.v undef) h K
    | some (.enter f args) => GC P f args.toList h fun v h' => exT P o.type fun u => v = u ∧ putD N st o.dst (.v u) h' K
    | _ => False
  | _, _ => False

def elemT (P : Program) (t : TypeId) : Option TypeId :=
  match P.underlying t with
  | some (.slice e) => some e
  | _ => none

def bytesT (P : Program) (t : TypeId) : Option Nat := (P.info? t).map (·.bytes)

def isEqOp : BinOp → Bool
  | .eql | .neq => true
  | _ => false

def notInt : TypeDesc → Bool
  | .int _ => false
  | _ => true

def eqOk : Value → Value → Bool
  | .int _ _, .int _ _ => false
  | .string _, .string _ => false
  | .float _ _, .float _ _ => false
  | .complex _ _ _, .complex _ _ _ => false
  | _, _ => true

def mxOk (mx hi : Option Operand) : Bool :=
  match mx, hi with
  | some _, none => false
  | _, _ => true

def eqV (P : Program) (o : Oper) (neg : Bool) (t : TypeId) (x y : Operand) (st : St) (K : FVal → Fact → Prop) : Prop :=
  match st.ev x, st.ev y with
  | some (.v (.int _ _)), some (.v (.int _ _)) => genV P o st K
  | some (.v (.string _)), some (.v (.string _)) => genV P o st K
  | some (.v a), some (.v b) => match pev P (eqGuard (match neg with | true => .neq | false => .eql) t x y a b), eqOk a b with
    | some _, true => match eqB P 10000 t a b with
      | some r => K (.v (.bool (match neg with | true => !r | false => r))) .none
      | none => False
    | _, _ => False
  | _, _ => False

/-- The operations that yield a value and change nothing: what the value hangs on is told beside it. -/
def valV (P : Program) (o : Oper) (st : St) (h : GH) (K : FVal → Fact → Prop) : Prop :=
  match o.op with
  | .move x => match st.ev x with
    | some v => K v .none
    | none => False
  | .assign x => match st.ev x with
    | some v => K v .none
    | none => False
  | .pick c a b => match st.ev c with
    | some (.v (.bool t)) => match t with
      | true => match st.ev a with
        | some v => K v .none
        | none => False
      | false => match st.ev b with
        | some v => K v .none
        | none => False
    | _ => False
  | .load t x => match st.ev x with
    | some (.loc s off) => match look s st.l with
      | some vs => ldL P t vs off fun v => K (.v v) (.priv s vs)
      | none => False
    | some (.v (.pointer (some p))) => ldH P t h p fun v vs => K (.v v) (.heap p vs)
    | _ => False
  | .nilCheck x => match st.ev x with
    | some (.loc s off) => K (.loc s off) .none
    | some (.v (.pointer a)) => nn a fun p => K (.v (.pointer (some p))) .none
    | _ => genV P o st K
  | .fieldAddr s x i => match fieldOff P s i with
    | none => False
    | some n => match st.ev x with
      | some (.loc s off) => K (.loc s (off + n)) .none
      | some (.v (.pointer (some p))) => K (.v (.pointer (some (p.add n)))) .none
      | _ => False
  | .indexAddr t x ix => match P.underlying t, st.ev x, st.ev ix with
    | some (.slice e), some (.v (.slice a n _)), some (.v (.int _ i)) => match sizeT P e with
      | some k => 0 ≤ i ∧ i < (n : Int) ∧ nn a fun p => K (.v (.pointer (some (p.add (i.toNat * k))))) .none
      | none => False
    | some (.array n e), some (.loc s off), some (.v (.int _ i)) => match sizeT P e with
      | some k => 0 ≤ i ∧ i < (n : Int) ∧ K (.loc s (off + i.toNat * k)) .none
      | none => False
    | some (.array n e), some (.v (.pointer (some p))), some (.v (.int _ i)) => match sizeT P e with
      | some k => 0 ≤ i ∧ i < (n : Int) ∧ K (.v (.pointer (some (p.add (i.toNat * k))))) .none
      | none => False
    | _, _, _ => False
  | .slice t x lo hi mx => match mxOk mx hi, P.underlying t, st.ev x with
    | true, some .string, some (.v (.string s)) => match mx with
      | none => bndO st hi s.size s.size fun hh => bndO st lo 0 hh fun l => K (.v (.string (s.extract l hh))) .none
      | some _ => False
    | true, some (.slice e), some (.v (.slice a n c)) => match sizeT P e with
      | some k => bndO st mx c c fun m => bndO st hi n m fun hh => bndO st lo 0 hh fun l => K (.v (.slice (adr lo a l m k) (hh - l) (m - l))) .none
      | none => False
    | true, some (.array n e), some (.v (.pointer (some p))) => match sizeT P e with
      | some k => bndO st mx n n fun m => bndO st hi n m fun hh => bndO st lo 0 hh fun l => K (.v (.slice (adr lo (some p) l m k) (hh - l) (m - l))) .none
      | none => False
    | _, _, _ => False
  | .index t x ix => match P.underlying t, st.ev x, st.ev ix with
    | some .string, some (.v (.string s)), some (.v (.int _ i)) => 0 ≤ i ∧ i < (s.size : Int) ∧ K (.v (.int .u8 (bt s i))) .none
    | _, _, _ => False
  | .binOp op t x y u => match op with
    | .eql => eqV P o false t x y st K
    | .neq => eqV P o true t x y st K
    | .quo => match st.ev x, st.ev y with
      | some (.v (.int k a)), some (.v (.int k' b)) => match decide (k = k') with
        | true => b ≠ 0 ∧ K (.v (.int k (k.wrap (a.tdiv b)))) .none
        | false => False
      | _, _ => False
    | .rem => match st.ev x, st.ev y with
      | some (.v (.int k a)), some (.v (.int k' b)) => match decide (k = k') with
        | true => b ≠ 0 ∧ K (.v (.int k (a.tmod b))) .none
        | false => False
      | _, _ => False
    | .shl => match st.ev x, st.ev y with
      | some (.v (.int k a)), some (.v (.int _ b)) => 0 ≤ b ∧ K (.v (.int k (k.wrap (a * 2 ^ min b.toNat k.bits)))) .none
      | _, _ => False
    | .shr => match st.ev x, st.ev y with
      | some (.v (.int k a)), some (.v (.int _ b)) => 0 ≤ b ∧ K (.v (.int k (a.fdiv (2 ^ min b.toNat k.bits)))) .none
      | _, _ => False
    | .add => match st.ev x, st.ev y with
      | some (.v (.string a)), some (.v (.string b)) => a.size + b.size ≤ 9223372036854775807 ∧ K (.v (.string (a ++ b))) .none
      | _, _ => genV P o st K
    | _ => genV P o st K
  | _ => genV P o st K

/-- Which operations are such ones. -/
def isVal : Op → Bool
  | .move _ | .assign _ | .pick .. | .load .. | .nilCheck _ | .fieldAddr .. | .indexAddr .. | .slice .. | .index .. | .binOp .. | .unOp .. | .extract .. | .field .. | .build .. | .makeInterface .. => true
  | _ => false

def opVC (P : Program) (N : Nat) (hp : List Nat) (o : Oper) (st : St) (h : GH) (K : St → GH → Prop) : Prop :=
  match isVal o.op with
  | true => valV P o st h fun v _ => putD N st o.dst v h K
  | false => match o.op with
    | .alloc t => match zeroT P t with
      | some z => newV N hp st o.dst z.cells.toList h K
      | none => False
    | .box t x => match st.ev x with
      | some (.v v) => newV N hp st o.dst v.cells.toList h K
      | _ => False
    | .store t x y => match st.ev y with
      | some (.v y) => match sizeT P t with
        | some n => match Nat.beq y.cells.size n, y.cells.toList.all one with
          | true, true => match st.ev x with
            | some (.loc s off) => match look s st.l with
              | some vs => match Nat.ble (off + n) vs.length with
                | true => putD N { st with l := upd s (splice vs off y.cells.toList) st.l } o.dst (.v undef) h K
                | false => False
              | none => False
            | some (.v (.pointer (some p))) => Wr h p y.cells.toList fun h' => putD N st o.dst (.v undef) h' K
            | _ => False
          | _, _ => False
        | none => False
      | _ => False
    | .buildSlice t n parts => match elemT P t with
      | some e => match sizeT P e, zeroT P e, parts.toList.all (fun p => st.known p.2) with
        | some k, some z, true => match Nat.ble (n * k) 16777216, Instr.fill (fun i => some (i * k, k)) ((Array.range (n * k)).map (z.cells[· % z.cells.size]!)) (parts.toList.map fun p => (p.1, st.val p.2)) with
          | true, some cs => newSl N hp st o.dst n cs.toList h K
          | _, _ => False
        | _, _, _ => False
      | none => False
    | .makeSlice t l c => match elemT P t with
      | some e => match sizeT P e, zeroT P e, bytesT P e, st.ev l, st.ev c with
        | some k, some z, some bs, some (.v (.int _ l)), some (.v (.int _ c)) => match Nat.beq z.cells.size k, z.cells.toList.all one, Nat.ble 1 bs with
          | true, true, true => 0 ≤ l ∧ l ≤ c ∧ c * (bs : Int) ≤ 140737488355328 ∧ ∀ b, h b = none → putD N st o.dst (.v (.slice (some ⟨b, 0, none⟩) l.toNat c.toNat)) (h.set b (.cells 0 (List.replicate c.toNat z.cells.toList).flatten (some (c.toNat * k)))) K
          | _, _, _ => False
        | _, _, _, _, _ => False
      | none => False
    | .makeMap t r => match r with
      | none => NewRaw h (.map #[] 0) fun b h' => putD N st o.dst (.v (.map (some b))) h' K
      | some x => match st.ev x, P.underlying t with
        | some (.v (.int _ _)), some (.map _ _) => NewRaw h (.map #[] 0) fun b h' => putD N st o.dst (.v (.map (some b))) h' K
        | _, _ => False
    | .lookup t x ix ok => match P.underlying t, st.ev x, st.ev ix with
      | some (.map kt et), some (.v (.map m)), some (.v k) => match ckKey P kt k, ok with
        | true, true => exT1 P et fun v => ∃ b : Bool, Lk P h kt et m k v b ∧ putD N st o.dst (.v (.tuple ⟨[v, .bool b]⟩)) h K
        | true, false => exT1 P et fun v => (∃ b : Bool, Lk P h kt et m k v b) ∧ putD N st o.dst (.v v) h K
        | _, _ => False
      | _, _, _ => False
    | .mapUpdate t m k x => match P.underlying t, st.ev m, st.ev k, st.ev x with
      | some (.map kt et), some (.v (.map m)), some (.v k), some (.v x) => match ckKey P kt k, plainK k with
        | true, true => MUp P h kt m k x fun h' => putD N st o.dst (.v undef) h' K
        | _, _ => False
      | _, _, _, _ => False
    | .insert t m k x => match P.underlying t, st.ev m, st.ev k, st.ev x with
      | some (.map kt et), some (.v (.map m)), some (.v k), some (.v x) => match ckKey P kt k, plainK k with
        | true, true => MUp P h kt m k x fun h' => putD N st o.dst (.v undef) h' K
        | _, _ => False
      | _, _, _, _ => False
    | .range t x => match P.underlying t, st.ev x with
      | some (.map _ _), some (.v (.map m)) => MRange h m fun b h' => putD N st o.dst (.v (.pointer (some ⟨b, 0, none⟩))) h' K
      | _, _ => False
    | .next it str => match str, st.ev it with
      | false, some (.v (.pointer x)) => nn x fun p => p.off = 0 ∧ MNext P h o.type p.block fun v h' => putD N st o.dst (.v v) h' K
      | _, _ => False
    | .entry it => match st.ev it with
      | some (.v (.pointer x)) => nn x fun p => p.off = 0 ∧ MEntry P h (hintT hp o.dst) p.block fun v => putD N st o.dst (.v v) h K
      | _ => False
    | .convert s d x => match P.underlying s, P.underlying d, st.ev x with
      | some (.slice e), some .string, some (.v (.slice a n _)) => match P.underlying e with
        | some (.int .u8) => ∃ bs : List UInt8, bs.length = n ∧ RdsO h a (bs.map fun b => .int .u8 b.toNat) ∧ putD N st o.dst (.v (.string ⟨bs.toArray⟩)) h K
        | _ => False
      | _, _, _ => genVC P N o st h K
    | .call c => match c.callee with
      | .builtin .append => match c.argTypes.toList, c.args.toList with
        | [sT, xT], [s, x] => match elemT P sT, st.ev s, st.ev x, P.underlying xT with
          | some e, some (.v (.slice a n cp)), some xv, some xd => match sizeT P e, bytesT P e, zeroT P e with
            | some k, some bs, some z => match Nat.ble 1 bs, Nat.beq z.cells.size k, z.cells.toList.all one, notInt xd with
              | true, true, true, true => Src st h xv k fun Y m => AppK h a n cp k bs Y m fun a' c' h' => putD N st o.dst (.v (.slice a' (n + m) c')) h' K
              | _, _, _, _ => False
            | _, _, _ => False
          | _, _, _, _ => False
        | _, _ => False
      | .builtin .copy => match c.argTypes.toList, c.args.toList with
        | [dT, xT], [d, x] => match elemT P dT, st.ev d, st.ev x with
          | some e, some (.v (.slice a n _)), some xv => match sizeT P e, xv with
            | some k, .v (.slice _ sn _) => copyVC st h a n k xv sn fun v h' => putD N st o.dst (.v v) h' K
            | some k, .v (.string s) => copyVC st h a n k xv s.size fun v h' => putD N st o.dst (.v v) h' K
            | _, _ => False
          | _, _, _ => False
        | _, _ => False
      | .builtin .len => match c.args.toList with
        | [x] => match st.ev x with
          | some (.v (.map m)) => match c.argTypes.toList with
            | [t] => match P.underlying t with
              | some (.map _ _) => ∃ n : Nat, MLen h m n ∧ putD N st o.dst (.v (goInt n)) h K
              | _ => False
            | _ => False
          | _ => genVC P N o st h K
        | _ => False
      | .builtin .delete => match c.argTypes.toList, c.args.toList with
        | t :: _, [m, k] => match P.underlying t, st.ev m, st.ev k with
          | some (.map kt _), some (.v (.map m)), some (.v k) => match ckKey P kt k with
            | true => MDel P h kt m k fun h' => putD N st o.dst (.v (.tuple ⟨[]⟩)) h' K
            | false => False
          | _, _, _ => False
        | _, _ => False
      | _ => genVC P N o st h K
    | _ => genVC P N o st h K

/-! ### A region -/

/-- An operation that may wait for a test's outcome. -/
def guardVC (ops : Array Oper) (o : Oper) (st : St) (yes no : St → Prop) : Prop :=
  match o.guard with
  | none => yes st
  | some (j, want) => match (ops[j]?).bind (·.dst) with
    | none => False
    | some d => match look d st.f with
      | some (.v (.bool b)) => match want with
        | true => br b (yes { st with f := upd d (.v (.bool true)) st.f }) (no { st with f := upd d (.v (.bool false)) st.f })
        | false => br b (no { st with f := upd d (.v (.bool true)) st.f }) (yes { st with f := upd d (.v (.bool false)) st.f })
      | some (.v (.tuple _)) => no st
      | _ => False

/-- A region whose order is the text's. -/
def regVC (P : Program) (N : Nat) (hp : List Nat) (ops : Array Oper) : List Nat → St → GH → (St → GH → Prop) → Prop
  | [], st, h, K => K st h
  | i :: r, st, h, K => match ops[i]? with
    | none => regVC P N hp ops r st h K
    | some o => guardVC ops o st (fun st => opVC P N hp o st h fun st h => regVC P N hp ops r st h K) (fun st => putD N st o.dst (.v undef) h fun st h => regVC P N hp ops r st h K)

def isTake (ops : Array Oper) (listed : Array Bool) (eff : List Nat) (i : Nat) : Bool :=
  match ops[i]? with
  | some o => isVal o.op && Region.free .any ops listed i && liveB ops eff i
  | none => false

def firstTake (ops : Array Oper) (listed : Array Bool) (eff : List Nat) : List Nat → Option Nat
  | [] => none
  | i :: r => match isTake ops listed eff i with
    | true => some i
    | false => firstTake ops listed eff r

/-- The facts that nobody who has been carried out waits for are asked anew. -/
def askFacts (ops : Array Oper) (j : Nat) (st : St) (h : GH) : List (Nat × Fact) → Prop → Prop
  | [], K => K
  | (i, f) :: r, K => match liveB ops [j] i with
    | true => match f with
      | .none => askFacts ops j st h r K
      | .heap p vs => Rds h p vs ∧ askFacts ops j st h r K
      | .priv s vs => look s st.l = some vs ∧ askFacts ops j st h r K
    | false => askFacts ops j st h r K

def keepFacts (ops : Array Oper) (j : Nat) : List (Nat × Fact) → List (Nat × Fact)
  | [] => []
  | (i, f) :: r => match liveB ops [j] i with
    | true => (i, f) :: keepFacts ops j r
    | false => keepFacts ops j r

def noPriv (d : Option Tmp) : List (Nat × Fact) → Bool
  | [] => true
  | (_, .priv s _) :: r => match d with
    | some t => match Nat.beq s t with
      | true => false
      | false => noPriv d r
    | none => noPriv d r
  | _ :: r => noPriv d r

def allVC (B : Nat → Prop) : List Nat → Prop
  | [] => True
  | [i] => B i
  | i :: r => B i ∧ allVC B r

/-- A region whose order is open. -/
def drawVC (P : Program) (N : Nat) (hp : List Nat) (ops : Array Oper) : Nat → Array Bool → List Nat → List (Nat × Fact) → St → GH → (St → GH → Prop) → Prop
  | 0, listed, _, _, st, h, K => match Region.ready .any ops listed with
    | [] => K st h
    | _ :: _ => False
  | n + 1, listed, eff, F, st, h, K => match Region.ready .any ops listed with
    | [] => K st h
    | r :: rs => match firstTake ops listed eff (r :: rs) with
      | some i => match ops[i]? with
        | none => False
        | some o => guardVC ops o st
            (fun st => valV P o st h fun v f => putD N st o.dst v h fun st h => drawVC P N hp ops n (listed.setIfInBounds i true) eff ((i, f) :: F) st h K)
            (fun st => putD N st o.dst (.v undef) h fun st h => drawVC P N hp ops n (listed.setIfInBounds i true) eff ((i, .none) :: F) st h K)
      | none => allVC (fun i => match ops[i]? with
        | none => False
        | some o => match noPriv o.dst F with
          | true => guardVC ops o st
              (fun st => opVC P N hp o st h fun st h => askFacts ops i st h F (drawVC P N hp ops n (listed.setIfInBounds i true) (i :: eff) (keepFacts ops i F) st h K))
              (fun st => putD N st o.dst (.v undef) h fun st h => drawVC P N hp ops n (listed.setIfInBounds i true) (i :: eff) (keepFacts ops i F) st h K)
          | false => False) (r :: rs)

/-! ### A body -/

def Sh.ty : Sh → Type
  | .int _ => Int
  | .bool => Bool
  | .str => ByteArray
  | .ptr => Option Addr
  | .slice => Option Addr × Nat × Nat
  | .map => Option Nat
  | .any => Value

def Sh.enc : (s : Sh) → s.ty → Value
  | .int k, n => .int k n
  | .bool, b => .bool b
  | .str, s => .string s
  | .ptr, a => .pointer a
  | .slice, x => .slice x.1 x.2.1 x.2.2
  | .map, r => .map r
  | .any, v => v

def Sh.dec : (s : Sh) → Value → (s.ty → Prop) → Prop
  | .int k, v, K => match v with
    | .int k' n => match decide (k' = k) with
      | true => K n
      | false => False
    | _ => False
  | .bool, v, K => match v with
    | .bool b => K b
    | _ => False
  | .str, v, K => match v with
    | .string s => K s
    | _ => False
  | .ptr, v, K => match v with
    | .pointer a => K a
    | _ => False
  | .slice, v, K => match v with
    | .slice a n c => K (a, n, c)
    | _ => False
  | .map, v, K => match v with
    | .map r => K r
    | _ => False
  | .any, v, K => K v

def Tup : List Sh → Type
  | [] => Unit
  | s :: r => s.ty × Tup r

def encs : (l : List Sh) → Tup l → List Value
  | [], _ => []
  | s :: r, t => s.enc t.1 :: encs r t.2

def decs : (l : List Sh) → List Value → (Tup l → Prop) → Prop
  | [], [], K => K ()
  | s :: r, v :: vs, K => s.dec v fun x => decs r vs fun xs => K (x, xs)
  | _, _, _ => False

/-- What lives on at a place of the text: slots with values, slots that point into private blocks, private blocks. -/
structure Lv where
  vals : List (Nat × Sh)
  locs : List (Nat × Nat × Nat)
  blks : List (Nat × List Sh)

def Lv.shapes (lv : Lv) : List Sh := lv.vals.map (·.2) ++ lv.blks.flatMap (·.2)

def getVals (st : St) : List (Nat × Sh) → Option (List Value)
  | [] => some []
  | (t, _) :: r => match look t st.f with
    | some (.v v) => match getVals st r with
      | some vs => some (v :: vs)
      | none => none
    | _ => none

def getBlks (st : St) : List (Nat × List Sh) → Option (List Value)
  | [] => some []
  | (s, sh) :: r => match look s st.l with
    | some us => match Nat.beq us.length sh.length, getBlks st r with
      | true, some vs => some (us ++ vs)
      | _, _ => none
    | none => none

def hasLocs (st : St) : List (Nat × Nat × Nat) → Bool
  | [] => true
  | (t, s, off) :: r => match look t st.f with
    | some (.loc s' off') => match Nat.beq s' s, Nat.beq off' off with
      | true, true => hasLocs st r
      | _, _ => false
    | _ => false

def pack (lv : Lv) (st : St) (K : Tup lv.shapes → Prop) : Prop :=
  match getVals st lv.vals, getBlks st lv.blks, hasLocs st lv.locs with
  | some vs, some us, true => decs lv.shapes (vs ++ us) K
  | _, _, _ => False

def putVals : List (Nat × Sh) → List Value → List (Nat × FVal)
  | (t, _) :: r, v :: vs => (t, .v v) :: putVals r vs
  | _, _ => []

def putBlks : List (Nat × List Sh) → List Value → List (Nat × List Value)
  | (s, sh) :: r, vs => (s, vs.take sh.length) :: putBlks r (vs.drop sh.length)
  | [], _ => []

def putLocs : List (Nat × Nat × Nat) → List (Nat × FVal)
  | [] => []
  | (t, s, off) :: r => (t, .loc s off) :: putLocs r

def appF : List (Nat × FVal) → List (Nat × FVal) → List (Nat × FVal)
  | [], l => l
  | x :: r, l => x :: appF r l

def unpack (lv : Lv) (t : Tup lv.shapes) : St :=
  { f := appF (putVals lv.vals (encs lv.shapes t)) (putLocs lv.locs), l := putBlks lv.blks ((encs lv.shapes t).drop lv.vals.length) }

inductive Ann where
  | leaf
  | seq (a b : Ann)
  | join (lv : Lv) (a b : Ann)
  | cond (a b : Ann)
  | one (a : Ann)
  | loop (lv : Lv) (a : Ann)

/-- A loop: what holds at each round's head, and what goes down. -/
def LoopP {T : Type} (start : (T → GH → Prop) → Prop) (round : (T → GH → Prop) → T → GH → Prop) : Prop :=
  ∃ (I : T → GH → Prop) (m : T → GH → Nat), start I ∧ ∀ t h, I t h → round (fun t' h' => I t' h' ∧ m t' h' < m t h) t h

def codeVC (P : Program) (N : Nat) (hp : List Nat) : Code → Ann → (Exit → St → GH → Prop) → St → GH → Prop
  | .skip, _, Q, st, h => Q .normal st h
  | .region _ ops draw, _, Q, st, h => match draw with
    | false => regVC P N hp ops (List.range ops.size) st h fun st h => Q .normal st h
    | true => match Region.noSelect ops with
      | true => drawVC P N hp ops ops.size (Array.replicate ops.size false) [] [] st h fun st h => Q .normal st h
      | false => False
  | .seq x y, .seq ax ay, Q, st, h => codeVC P N hp x ax (fun e st h => match e with
      | .normal => codeVC P N hp y ay Q st h
      | e => Q e st h) st h
  | .seq x y, .join lv ax ay, Q, st, h => codeVC P N hp x ax (fun e st h => match e with
      | .normal => pack lv st fun t => codeVC P N hp y ay Q (unpack lv t) h
      | e => Q e st h) st h
  | .cond c x y, .cond ax ay, Q, st, h => match st.ev c with
    | some (.v (.bool b)) => br b (codeVC P N hp x ax Q st h) (codeVC P N hp y ay Q st h)
    | _ => False
  | .block id c, .one a, Q, st, h => codeVC P N hp c a (fun e st h => match e with
      | .exit id' => match Nat.beq id' id with
        | true => Q .normal st h
        | false => Q (.exit id') st h
      | e => Q e st h) st h
  | .loop c, .loop lv a, Q, st, h => LoopP (T := Tup lv.shapes) (fun J => pack lv st fun t => J t h) (fun J t h => codeVC P N hp c a (fun e st h => match e with
      | .normal => pack lv st fun t => J t h
      | e => Q e st h) (unpack lv t) h)
  | .exit id, _, Q, st, h => Q (.exit id) st h
  | .ret, _, Q, st, h => Q .ret st h
  | _, _, _, _, _ => False

def resVC (P : Program) (st : St) (h : GH) : List ResultVar → (List Value → Prop) → Prop
  | [], K => K []
  | .tmp t :: r, K => match look t st.f with
    | some (.v v) => resVC P st h r fun vs => K (v :: vs)
    | _ => False
  | .cell x t :: r, K => match look x st.f with
    | some (.loc s off) => match look s st.l with
      | some us => ldL P t us off fun v => resVC P st h r fun vs => K (v :: vs)
      | none => False
    | some (.v (.pointer (some p))) => ldH P t h p fun v _ => resVC P st h r fun vs => K (v :: vs)
    | _ => False

def oneOf : List Value → Value
  | [v] => v
  | vs => .tuple ⟨vs⟩

def initF : Nat → List Value → List (Nat × FVal)
  | _, [] => []
  | n, v :: vs => (n, .v v) :: initF (n + 1) vs

def fnVC (P : Program) (fn : Func) (hp : List Nat) (an : Ann) (args : List Value) (h : GH) (K : Value → GH → Prop) : Prop :=
  match fn.body, Nat.ble args.length fn.ntmps with
  | some c, true => codeVC P fn.ntmps hp c an (fun e st h => match e with
      | .normal => resVC P st h fn.results.toList fun vs => K (oneOf vs) h
      | .ret => resVC P st h fn.results.toList fun vs => K (oneOf vs) h
      | _ => False) ⟨initF 0 args, []⟩ h
  | _, _ => False

end Go.Gv
