/- The evaluator: abstract values, states, operations, code. No program in sight. -/
import Derived.Tactics
import Derived.Scope
import Derived.LoopN
set_option linter.unusedVariables false
set_option linter.unusedSimpArgs false
namespace Go.Ev

/-- Values that last, told by value: what a pointer points to stands inside it; a slice is its list (t: no room behind its last element). -/
inductive PV where
  | bool (b : Bool)
  | int (k : IntKind) (n : Int)
  | str (s : ByteArray)
  | nilp
  | imm (cells : List PV) (off : Nat)
  | nils
  | emp
  | ints (k : IntKind) (l : List Int) (t : Bool)
  | bools (l : List Bool) (t : Bool)
  | recs (sz : Nat) (l : List (List PV)) (t : Bool)
  deriving Inhabited

/-- What one cell of a frame holds: a lasting value, a borrowed slice, a handle of an object or of a row of the frame's own, an element's place. -/
inductive CV where
  | pv (p : PV)
  | bor (p : PV)
  | ref (o off : Nat)
  | own (r off len : Nat) (t : Bool)
  | iadr (p : PV) (i fo : Nat)
  | radr (r i fo : Nat)
  | dead
  deriving Inhabited

inductive AV where
  | one (c : CV)
  | agg (l : List CV)
  deriving Inhabited

inductive SV where
  | av (a : AV)
  | tup (l : List AV)
  deriving Inhabited

inductive Row where
  | ints (k : IntKind) (l : List Int)
  | bools (l : List Bool)
  | recs (sz : Nat) (l : List (List PV))
  deriving Inhabited

inductive RowB where
  | live (r : Row)
  | froz (r : Row)
  | gone
  deriving Inhabited

abbrev Obj := List CV

structure St where
  slots : List (Nat × SV)
  objs : List (Nat × Obj)
  rows : List (Nat × RowB)

abbrev Res := List AV × List Obj × List Row
abbrev CallP := FuncId → List AV → List Obj → List Row → Res → Prop
inductive Ex where
  | normal
  | exit (id : Nat)
  | goto (l : Nat)
  | ret
  deriving Inhabited
inductive Ev where
  | br (b : Bool)
  | res (r : Res)
  | lp (e : Ex) (s : St)
  | el (ps : List PV)
structure Cfg where
  immT : List TypeId
  shutT : List TypeId
  bor : List FuncId
  keep : FuncId → List (Nat × List Nat)
  head : FuncId → List (Nat × (List Nat × List (Nat × Row)))

def memT (x : Nat) : List Nat → Bool
  | [] => false
  | y :: l => bif Nat.beq x y then true else memT x l
def lkup {α : Type} (x : Nat) : List (Nat × α) → Option α
  | [] => none
  | (y, v) :: l => bif Nat.beq x y then some v else lkup x l

abbrev pone (p : PV) : SV := .av (.one (.pv p))
abbrev cone (c : CV) : SV := .av (.one c)
abbrev pint (k : IntKind) (n : Int) : SV := pone (.int k n)
abbrev pbool (b : Bool) : SV := pone (.bool b)

/-- What is told with an answer: that something is so; that two states are one. -/
inductive Ob where
  | p (q : Prop)
  | e (s s' : St)
@[reducible] def Ob.holds : Ob → Prop
  | .p q => q
  | .e s s' => s = s'
abbrev Ans (R : Type) := Option (R × List Ob)

section
variable {R : Type}

/-- It must be so: told with the answer. -/
def need (b : Bool) (k : Unit → Ans R) : Ans R :=
  match k () with
  | some (r, ps) => some (r, .p (b = true) :: ps)
  | none => none
/-- It is so, by sight. -/
def chk (b : Bool) (k : Unit → Ans R) : Ans R := bif b then k () else none
def getD' {α : Type} (o : Option α) (k : α → Ans R) : Ans R := match o with | some x => k x | none => none

/-! ### Constants, operands -/
def pvOf : Value → Option PV
  | .bool b => some (.bool b)
  | .int k n => some (.int k n)
  | .string s => some (.str s)
  | .pointer none => some .nilp
  | .slice none 0 0 => some .nils
  | _ => none
def cvsOf : List Value → Option (List CV)
  | [] => some []
  | v :: l => match pvOf v, cvsOf l with
    | some p, some r => some (.pv p :: r)
    | _, _ => none
def svOf : Value → Option SV
  | .agg cs => (cvsOf cs.toList).map fun l => .av (.agg l)
  | v => (pvOf v).map fun p => pone p
def opd (s : St) : Operand → Option SV
  | .tmp t => lkup t s.slots
  | .const v => svOf v
  | _ => none

/-! ### Views -/
def wInt (v : SV) (k : IntKind → Int → Ans R) : Ans R :=
  match v with | .av (.one (.pv (.int kd n))) => k kd n | _ => none
def wBool (v : SV) (k : Bool → Ans R) : Ans R :=
  match v with | .av (.one (.pv (.bool b))) => k b | _ => none
def wAv (v : SV) (k : AV → Ans R) : Ans R :=
  match v with | .av a => k a | _ => none
def wCv (v : SV) (k : CV → Ans R) : Ans R :=
  match v with | .av (.one c) => k c | _ => none
def AV.cells : AV → List CV
  | .one c => [c]
  | .agg l => l

def Row.len : Row → Nat
  | .ints _ l => l.length
  | .bools l => l.length
  | .recs _ l => l.length
/-- A slice of a row, from an element on. -/
def Row.cut (off n : Nat) : Row → Row
  | .ints k l => .ints k ((l.drop off).take n)
  | .bools l => .bools ((l.drop off).take n)
  | .recs sz l => .recs sz ((l.drop off).take n)
/-- The whole of it, where that can be seen. -/
def Row.cutW (off n : Nat) (r : Row) : Row := r.cut off n
def Row.pv (t : Bool) : Row → PV
  | .ints k l => .ints k l t
  | .bools l => .bools l t
  | .recs sz l => .recs sz l t
def Row.app (a b : Row) (k : Row → Ans R) : Ans R :=
  match a, b with
  | .ints x l, .ints y m => chk (decide (x = y)) fun _ => k (.ints x (l ++ m))
  | .bools l, .bools m => k (.bools (l ++ m))
  | .recs x l, .recs y m => chk (Nat.beq x y) fun _ => k (.recs x (l ++ m))
  | _, _ => none
/-- A lasting slice as a row (nil and empty ones: none of a kind: told by the caller). -/
def PV.row (e : Row) (p : PV) (k : Row → Bool → Ans R) : Ans R :=
  match p with
  | .ints kd l t => k (.ints kd l) t
  | .bools l t => k (.bools l) t
  | .recs sz l t => k (.recs sz l) t
  | .nils => k e true
  | .emp => k e false
  | _ => none
def PV.slen (p : PV) (k : Nat → Ans R) : Ans R :=
  match p with
  | .ints _ l _ => k l.length
  | .bools l _ => k l.length
  | .recs _ l _ => k l.length
  | .nils => k 0
  | .emp => k 0
  | _ => none
/-- How many elements a slice has. -/
def cvLen (c : CV) (k : Nat → Ans R) : Ans R :=
  match c with
  | .pv p => p.slen k
  | .bor p => p.slen k
  | .own _ _ n _ => k n
  | _ => none

/-! ### Types -/
structure TI where
  agg : Bool
  size : Nat
  zero : List CV
/-- What is asked of a type: is it a struct or an array, its cells, its zero value. -/
def tinfo (P : Program) (t : TypeId) : Option TI :=
  match P.info? t, P.underlying t with
  | some i, some d =>
    match i.zero with
    | some (.agg cs) => match d with
      | .struct _ | .array _ _ => (cvsOf cs.toList).map fun l => ⟨true, i.size, l⟩
      | _ => none
    | some v => match d with
      | .struct _ | .array _ _ => none
      | _ => (pvOf v).map fun p => ⟨false, i.size, [.pv p]⟩
    | none => none
  | _, _ => none
def fieldInfo (P : Program) (t : TypeId) (f : Nat) : Option (Nat × TypeId) :=
  match P.underlying t with
  | some (.struct fs) => (fs[f]?).map fun x => (x.offset, x.type)
  | _ => none
def elemT (P : Program) (t : TypeId) : Option TypeId :=
  match P.underlying t with
  | some (.slice e) => some e
  | _ => none
def PV.esz : PV → Nat
  | .recs sz _ _ => sz
  | _ => 1
def Row.esz : Row → Nat
  | .recs sz _ => sz
  | _ => 1
/-- Has an element of the type so many cells? -/
def eszOk (P : Program) (e : TypeId) (n : Nat) : Bool := Nat.beq (P.cellsOf e) n && !(Nat.beq n 0)
/-- The empty row of an element type. -/
def row0' (P : Program) (e : TypeId) : Option Row :=
  match P.underlying e with
  | some (.int k) => some (.ints k [])
  | some .bool => some (.bools [])
  | some _ => some (.recs (P.cellsOf e) [])
  | none => none
def row0 (P : Program) (e : TypeId) : Option Row :=
  match row0' P e with
  | some r => bif eszOk P e r.esz then some r else none
  | none => none

/-! ### Cells -/
def takeP (l : List PV) (off : Nat) : Nat → (List CV → Ans R) → Ans R
  | 0, k => k []
  | n + 1, k => getD' (l[off]?) fun p => takeP l (off + 1) n fun cs => k (.pv p :: cs)
def takeC (l : List CV) (off : Nat) : Nat → (List CV → Ans R) → Ans R
  | 0, k => k []
  | n + 1, k => getD' (l[off]?) fun p => takeC l (off + 1) n fun cs => k (p :: cs)
def toAv (agg : Bool) (cs : List CV) (k : AV → Ans R) : Ans R :=
  match agg, cs with
  | true, cs => k (.agg cs)
  | false, [c] => k (.one c)
  | false, _ => none
def setL {α : Type} (l : List α) (i : Nat) (cs : List α) : List α :=
  match cs with
  | [] => l
  | c :: cs => setL (l.set i c) (i + 1) cs

/-- An element of a row, cell by cell. -/
def Row.elem (r : Row) (i fo n : Nat) (k : List CV → Ans R) : Ans R :=
  match r with
  | .ints kd l => chk (Nat.beq fo 0 && Nat.beq n 1) fun _ => k [.pv (.int kd (l.getD i 0))]
  | .bools l => chk (Nat.beq fo 0 && Nat.beq n 1) fun _ => k [.pv (.bool (l.getD i false))]
  | .recs _ l => takeP (l.getD i []) fo n k
def evLoad (P : Program) (t : TypeId) (a : SV) (s : St) (k : SV → Ans R) : Ans R :=
  getD' (tinfo P t) fun ti => wCv a fun c =>
    match c with
    | .pv (.imm cells off) => takeP cells off ti.size fun cs => toAv ti.agg cs fun a => k (.av a)
    | .ref o off => getD' (lkup o s.objs) fun ob => takeC ob off ti.size fun cs => toAv ti.agg cs fun a => k (.av a)
    | .iadr p i fo => p.row (.recs ti.size []) fun r _ => r.elem i fo ti.size fun cs => toAv ti.agg cs fun a => k (.av a)
    | .radr r i fo => getD' (lkup r s.rows) fun rb => match rb with
      | .live rw => rw.elem i fo ti.size fun cs => toAv ti.agg cs fun a => k (.av a)
      | .froz rw => rw.elem i fo ti.size fun cs => toAv ti.agg cs fun a => k (.av a)
      | .gone => none
    | _ => none

/-- A cell's value as a lasting one: a row of the frame's own is closed for good. -/
def lastC (c : CV) (s : St) (k : PV → St → Ans R) : Ans R :=
  match c with
  | .pv p => k p s
  | .own r off n t => getD' (lkup r s.rows) fun rb => match rb with
    | .live rw => k ((rw.cut off n).pv t) { s with rows := (r, .froz rw) :: s.rows }
    | .froz rw => k ((rw.cut off n).pv t) s
    | .gone => none
  | _ => none
def lastL (cs : List CV) (s : St) (k : List PV → St → Ans R) : Ans R :=
  match cs with
  | [] => k [] s
  | c :: cs => lastC c s fun p s => lastL cs s fun ps s => k (p :: ps) s

/-- A row with one element's cells laid anew. -/
def Row.put (r : Row) (i fo : Nat) (ps : List PV) (k : Row → Ans R) : Ans R :=
  match r with
  | .ints kd l => match ps with
    | [.int kd' n] => chk (decide (kd = kd') && Nat.beq fo 0) fun _ => k (.ints kd (l.set i n))
    | _ => none
  | .bools l => match ps with
    | [.bool b] => chk (Nat.beq fo 0) fun _ => k (.bools (l.set i b))
    | _ => none
  | .recs sz l => chk (Nat.ble (fo + ps.length) sz) fun _ => k (.recs sz (l.set i (setL (l.getD i []) fo ps)))
def evStore (P : Program) (t : TypeId) (a v : SV) (s : St) (k : St → Ans R) : Ans R :=
  getD' (tinfo P t) fun ti => wCv a fun c => wAv v fun x =>
    chk (Nat.beq x.cells.length ti.size) fun _ =>
    match c with
    | .ref o off => getD' (lkup o s.objs) fun ob => chk (Nat.ble (off + ti.size) ob.length) fun _ => k { s with objs := (o, setL ob off x.cells) :: s.objs }
    | .radr r i fo => lastL x.cells s fun ps s => getD' (lkup r s.rows) fun rb => match rb with
      | .live rw => rw.put i fo ps fun rw' => k { s with rows := (r, .live rw') :: s.rows }
      | _ => none
    | _ => none

def evFieldAddr (P : Program) (t : TypeId) (a : SV) (f : Nat) (k : SV → Ans R) : Ans R :=
  getD' (fieldInfo P t f) fun x => chk (!(Nat.beq (P.cellsOf x.2) 0)) fun _ => wCv a fun c =>
    match c with
    | .pv (.imm cells off) => k (pone (.imm cells (off + x.1)))
    | .ref o off => k (cone (.ref o (off + x.1)))
    | .iadr p i fo => k (cone (.iadr p i (fo + x.1)))
    | .radr r i fo => k (cone (.radr r i (fo + x.1)))
    | _ => none
def evField (P : Program) (t : TypeId) (a : SV) (f : Nat) (k : SV → Ans R) : Ans R :=
  getD' (fieldInfo P t f) fun x => getD' (tinfo P x.2) fun ti =>
    match a with
    | .av (.agg l) => takeC l x.1 ti.size fun cs => toAv ti.agg cs fun a => k (.av a)
    | _ => none

def evIndexAddr (P : Program) (t : TypeId) (x i : SV) (s : St) (k : SV → Ans R) : Ans R :=
  getD' (elemT P t) fun e => wInt i fun _ n => wCv x fun c => cvLen c fun len =>
    need (decide (0 ≤ n) && decide (n < (len : Int))) fun _ =>
    match c with
    | .pv p => chk (eszOk P e p.esz) fun _ => k (cone (.iadr p n.toNat 0))
    | .bor p => chk (eszOk P e p.esz) fun _ => k (cone (.iadr p n.toNat 0))
    | .own r off _ _ => getD' (lkup r s.rows) fun rb => match rb with
      | .live rw => chk (eszOk P e rw.esz) fun _ => k (cone (.radr r (off + n.toNat) 0))
      | .froz rw => chk (eszOk P e rw.esz) fun _ => k (cone (.radr r (off + n.toNat) 0))
      | .gone => none
    | _ => none
def evIndex (x i : SV) (k : SV → Ans R) : Ans R :=
  match x with
  | .av (.one (.pv (.str s))) => wInt i fun _ n => need (decide (0 ≤ n) && decide (n < (s.size : Int))) fun _ => k (pint .u8 ((s.data.getD n.toNat 0).toNat : Int))
  | _ => none

/-! ### Slicing -/
def bnd (x : Option SV) (d : Int) (k : Int → Ans R) : Ans R :=
  match x with
  | some v => wInt v fun _ n => k n
  | none => k d
def tightOf (mx hi : Option SV) (t : Bool) : Bool :=
  match mx, hi with
  | some _, _ => true
  | none, none => t
  | none, some _ => false
def isStr (P : Program) (t : TypeId) : Bool := match P.underlying t with | some .string => true | _ => false
def evSlice (P : Program) (t : TypeId) (x : SV) (lo hi mx : Option SV) (s : St) (k : SV → Ans R) : Ans R :=
  match x with
  | .av (.one (.pv (.str b))) => chk (mx.isNone && isStr P t) fun _ => bnd lo 0 fun l => bnd hi (b.size : Int) fun h =>
      need (decide (0 ≤ l) && decide (l ≤ h) && decide (h ≤ (b.size : Int))) fun _ => k (pone (.str (b.extract l.toNat h.toNat)))
  | .av (.one c) => chk (mx.isNone || hi.isSome) fun _ => getD' (elemT P t) fun e => getD' (row0 P e) fun r0 => cvLen c fun len => bnd lo 0 fun l => bnd hi (len : Int) fun h => bnd mx h fun m =>
      need (decide (0 ≤ l) && decide (l ≤ h) && decide (h ≤ (len : Int)) && decide (m = h)) fun _ =>
      match c with
      | .pv p => p.row r0 fun r t => chk (Nat.beq r.esz r0.esz) fun _ => k (pone ((r.cut l.toNat (h - l).toNat).pv (tightOf mx hi t)))
      | .bor p => p.row r0 fun r t => chk (Nat.beq r.esz r0.esz) fun _ => k (cone (.bor ((r.cut l.toNat (h - l).toNat).pv (tightOf mx hi t))))
      | .own r off _ t => getD' (lkup r s.rows) fun rb => match rb with
        | .live rw => chk (Nat.beq rw.esz r0.esz) fun _ => k (cone (.own r (off + l.toNat) (h - l).toNat (tightOf mx hi t)))
        | .froz rw => chk (Nat.beq rw.esz r0.esz) fun _ => k (cone (.own r (off + l.toNat) (h - l).toNat (tightOf mx hi t)))
        | .gone => none
      | _ => none
  | _ => none

/-! ### Numbers, texts, tests -/
def ibin (op : BinOp) (k : IntKind) (x y : Int) : Option PV :=
  match op with
  | .add => some (.int k (k.wrap (x + y)))
  | .sub => some (.int k (k.wrap (x - y)))
  | .mul => some (.int k (k.wrap (x * y)))
  | .and => some (.int k (k.wrap (BitVec.ofInt k.bits x &&& BitVec.ofInt k.bits y).toNat))
  | .or => some (.int k (k.wrap (BitVec.ofInt k.bits x ||| BitVec.ofInt k.bits y).toNat))
  | .xor => some (.int k (k.wrap (BitVec.ofInt k.bits x ^^^ BitVec.ofInt k.bits y).toNat))
  | .andNot => some (.int k (k.wrap (BitVec.ofInt k.bits x &&& ~~~ BitVec.ofInt k.bits y).toNat))
  | .eql => some (.bool (decide (x = y)))
  | .neq => some (.bool (!decide (x = y)))
  | .lss => some (.bool (decide (x < y)))
  | .leq => some (.bool (decide (x ≤ y)))
  | .gtr => some (.bool (decide (y < x)))
  | .geq => some (.bool (decide (y ≤ x)))
  | _ => none
def sbin (op : BinOp) (x y : ByteArray) (k : PV → Ans R) : Ans R :=
  match op with
  | .add => need (decide (x.size + y.size ≤ 140737488355328)) fun _ => k (.str (x ++ y))
  | .eql => k (.bool (decide (x = y)))
  | .neq => k (.bool (!decide (x = y)))
  | .lss => k (.bool (Op.bytesLess x.toList y.toList))
  | .gtr => k (.bool (!(Op.bytesLess x.toList y.toList || decide (x = y))))
  | .leq => k (.bool (Op.bytesLess x.toList y.toList || decide (x = y)))
  | .geq => k (.bool (!Op.bytesLess x.toList y.toList))
  | _ => none
def neg? (op : BinOp) (b : Bool) : Option PV :=
  match op with
  | .eql => some (.bool b)
  | .neq => some (.bool (!b))
  | _ => none
def isBoolT (P : Program) (t : TypeId) : Bool := match P.underlying t with | some .bool => true | _ => false
def isPtrT (P : Program) (t : TypeId) : Bool := match P.underlying t with | some (.pointer _) => true | _ => false
def isSlT (P : Program) (t : TypeId) : Bool := match P.underlying t with | some (.slice _) => true | _ => false
/-- Is it nil? Where that can be told. -/
def nilqP (c : CV) (k : Bool → Ans R) : Ans R :=
  match c with
  | .pv .nilp => k true
  | .pv (.imm _ _) => k false
  | .ref _ _ => k false
  | _ => none
def nilqS (c : CV) (k : Bool → Ans R) : Ans R :=
  match c with
  | .pv .nils => k true
  | .pv .emp => k false
  | .bor .nils => k true
  | .bor .emp => k false
  | c => cvLen c fun n => need (!(Nat.beq n 0)) fun _ => k false
def evInt (op : BinOp) (kx : IntKind) (a : Int) (ky : IntKind) (b : Int) (k : SV → Ans R) : Ans R :=
  match op with
  | .shl => need (decide (0 ≤ b)) fun _ => k (pint kx (kx.wrap (a * 2 ^ (min b.toNat kx.bits))))
  | .shr => need (decide (0 ≤ b)) fun _ => k (pint kx (a.fdiv (2 ^ (min b.toNat kx.bits))))
  | .quo => chk (decide (kx = ky)) fun _ => need (!decide (b = 0)) fun _ => k (pint kx (kx.wrap (a.tdiv b)))
  | .rem => chk (decide (kx = ky)) fun _ => need (!decide (b = 0)) fun _ => k (pint kx (a.tmod b))
  | op => chk (decide (kx = ky)) fun _ => getD' (ibin op kx a b) fun p => k (pone p)
def evBin (P : Program) (t : TypeId) (op : BinOp) (x y : SV) (k : SV → Ans R) : Ans R :=
  match x, y with
  | .av (.one (.pv (.int kx a))), .av (.one (.pv (.int ky b))) => evInt op kx a ky b k
  | .av (.one (.pv (.str a))), .av (.one (.pv (.str b))) => sbin op a b fun p => k (pone p)
  | .av (.one (.pv (.bool a))), .av (.one (.pv (.bool b))) => chk (isBoolT P t) fun _ => getD' (neg? op (a == b)) fun p => k (pone p)
  | .av (.one c), .av (.one (.pv .nilp)) => chk (isPtrT P t) fun _ => nilqP c fun b => getD' (neg? op b) fun p => k (pone p)
  | .av (.one c), .av (.one (.pv .nils)) => chk (isSlT P t) fun _ => nilqS c fun b => getD' (neg? op b) fun p => k (pone p)
  | _, _ => none
def evUn (op : UnOp) (x : SV) (k : SV → Ans R) : Ans R :=
  match op with
  | .not => wBool x fun b => k (pbool (!b))
  | .neg => wInt x fun kd n => k (pint kd (kd.wrap (0 - n)))
  | .xor => wInt x fun kd n => getD' (ibin .xor kd (if kd.signed then -1 else kd.max) n) fun p => k (pone p)
  | _ => none

/-! ### New memory -/
def rowNew (nm : Nat) (r : Row) (t : Bool) (s : St) (k : SV → St → Ans R) : Ans R :=
  k (cone (.own nm 0 r.len t)) { s with rows := (nm, .live r) :: s.rows }
def bytesL (s : ByteArray) : List Int := s.data.toList.map fun b => (b.toNat : Int)
def strOf (l : List Int) : ByteArray := ⟨(l.map fun n => UInt8.ofNat n.toNat).toArray⟩
def evConvert (P : Program) (src dst : TypeId) (x : SV) (nm : Nat) (s : St) (k : SV → St → Ans R) : Ans R :=
  chk (P.underlying src).isSome fun _ => match P.underlying dst with
  | some (.int kd) => wInt x fun _ n => k (pint kd (kd.wrap n)) s
  | some .string => match x with
    | .av (.one (.pv (.str b))) => k (pone (.str b)) s
    | .av (.one c) => getD' (elemT P src) fun e => match P.underlying e with
      | some (.int .u8) => match c with
        | .pv p => p.row (.ints .u8 []) fun r _ => match r with
          | .ints .u8 l => k (pone (.str (strOf l))) s
          | _ => none
        | .bor p => p.row (.ints .u8 []) fun r _ => match r with
          | .ints .u8 l => k (pone (.str (strOf l))) s
          | _ => none
        | .own r off n _ => getD' (lkup r s.rows) fun rb => match rb with
          | .live (.ints .u8 l) => k (pone (.str (strOf ((l.drop off).take n)))) s
          | .froz (.ints .u8 l) => k (pone (.str (strOf ((l.drop off).take n)))) s
          | _ => none
        | _ => none
      | _ => none
    | _ => none
  | some (.slice e) => match x with
    | .av (.one (.pv (.str b))) => match P.underlying e with
      | some (.int .u8) => need (decide (b.size ≤ 140737488355328)) fun _ => rowNew nm (.ints .u8 (bytesL b)) false s k
      | _ => none
    | .av (.one (.own r off n t)) => match P.underlying e with
      | some (.int .u8) => chk (Nat.beq src dst && Nat.blt 0 n) fun _ => getD' (lkup r s.rows) fun rb => match rb with
        | .live _ => k (cone (.own r off n t)) s
        | _ => none
      | _ => none
    | _ => none
  | _ => none
/-- Rows of the frame's own are closed for good; all else stays. -/
def shutL (cs : List CV) (s : St) (k : List CV → St → Ans R) : Ans R :=
  match cs with
  | [] => k [] s
  | .own r off n t :: cs => lastC (.own r off n t) s fun p s => shutL cs s fun cs s => k (.pv p :: cs) s
  | c :: cs => shutL cs s fun cs s => k (c :: cs) s
def evBox (P : Program) (C : Cfg) (e : TypeId) (v : SV) (nm : Nat) (s : St) (k : SV → St → Ans R) : Ans R :=
  getD' (tinfo P e) fun ti => wAv v fun x => chk (Nat.beq x.cells.length ti.size) fun _ =>
    bif memT e C.immT then lastL x.cells s fun ps s => k (pone (.imm ps 0)) s
    else bif memT e C.shutT then shutL x.cells s fun cs s => k (cone (.ref nm 0)) { s with objs := (nm, cs) :: s.objs }
    else k (cone (.ref nm 0)) { s with objs := (nm, x.cells) :: s.objs }
def evAlloc (P : Program) (e : TypeId) (nm : Nat) (s : St) (k : SV → St → Ans R) : Ans R :=
  getD' (tinfo P e) fun ti => k (cone (.ref nm 0)) { s with objs := (nm, ti.zero) :: s.objs }
def fillL (P : Program) (fs : Nat → Option (Nat × Nat)) (cells : List CV) : List (Nat × SV) → (List CV → Ans R) → Ans R
  | [], k => k cells
  | (i, v) :: rest, k => getD' (fs i) fun x => wAv v fun a =>
      chk (Nat.beq a.cells.length x.2 && Nat.ble (x.1 + x.2) cells.length) fun _ => fillL P fs (setL cells x.1 a.cells) rest k
def fieldsOk (P : Program) (t : TypeId) : Bool :=
  match P.underlying t with
  | some (.struct fs) => fs.toList.all fun f => (P.info? f.type).isSome
  | _ => false
def evBuild (P : Program) (t : TypeId) (parts : List (Nat × SV)) (k : SV → Ans R) : Ans R :=
  getD' (tinfo P t) fun ti => chk (fieldsOk P t) fun _ => match P.underlying t with
    | some (.struct _) => fillL P (fun i => (fieldInfo P t i).map fun x => (x.1, P.cellsOf x.2)) ti.zero parts fun cs => k (.av (.agg cs))
    | _ => none
def opdL (s : St) : List (Nat × Operand) → Option (List (Nat × SV))
  | [] => some []
  | (i, x) :: l => match opd s x, opdL s l with
    | some v, some r => some ((i, v) :: r)
    | _, _ => none
/-- A row's elements out of parts: each place once, in order. -/
def partsR (r0 : Row) (n : Nat) : Nat → List (Nat × SV) → St → (Row → St → Ans R) → Ans R
  | _, [], s, k => k r0 s
  | i, (j, v) :: rest, s, k => chk (Nat.beq i j) fun _ => wAv v fun a => lastL a.cells s fun ps s =>
      partsR r0 n (i + 1) rest s fun r s =>
        match r with
        | .ints kd l => match ps with
          | [.int kd' n] => chk (decide (kd = kd')) fun _ => k (.ints kd (n :: l)) s
          | _ => none
        | .bools l => match ps with
          | [.bool b] => k (.bools (b :: l)) s
          | _ => none
        | .recs sz l => chk (Nat.beq ps.length sz) fun _ => k (.recs sz (ps :: l)) s
def evBuildSlice (P : Program) (t : TypeId) (len : Nat) (parts : List (Nat × SV)) (nm : Nat) (s : St) (k : SV → St → Ans R) : Ans R :=
  getD' (elemT P t) fun e => getD' (row0 P e) fun r0 => getD' (tinfo P e) fun ti => chk (Nat.beq ti.size r0.esz) fun _ => chk (Nat.beq parts.length len && Nat.ble (len * P.cellsOf e) 65536) fun _ =>
    partsR r0 len 0 parts s fun r s => rowNew nm r true s k

/-! ### append -/
/-- What is appended: a slice's elements, or a text's bytes. -/
def srcRow (r0 : Row) (x : SV) (s : St) (k : Row → Ans R) : Ans R :=
  match x with
  | .av (.one (.pv (.str b))) => match r0 with
    | .ints .u8 _ => k (.ints .u8 (bytesL b))
    | _ => none
  | .av (.one (.pv p)) => p.row r0 fun r _ => k r
  | .av (.one (.bor p)) => p.row r0 fun r _ => k r
  | .av (.one (.own r off n _)) => getD' (lkup r s.rows) fun rb => match rb with
    | .live rw => k (rw.cut off n)
    | .froz rw => k (rw.cut off n)
    | .gone => none
  | _ => none
def fits (n : Nat) : Bool := decide (n ≤ 536870912)
/-- What is appended to has no room (t), or is the frame's own, from its row's begin on. A walk tells of what has no room whether nothing is appended (.br true). -/
def evAppend (P : Program) (t : TypeId) (x y : SV) (nm : Nat) (s : St) (sc : List Ev) (k : List Ev → SV → St → Ans R) : Ans R :=
  getD' (elemT P t) fun e => getD' (row0 P e) fun r0 => getD' (tinfo P e) fun ti => chk (Nat.beq ti.size r0.esz && Nat.beq ti.zero.length ti.size && Nat.ble (P.bytesOf e) 65536) fun _ =>
    srcRow r0 y s fun r2 => chk (Nat.beq r2.esz r0.esz) fun _ =>
    let grown (r1 : Row) (sc : List Ev) (same : CV) : Ans R := match sc with
      | .br true :: sc => need (Nat.beq r2.len 0) fun _ => k sc (cone same) s
      | .br false :: sc => need (!(Nat.beq r2.len 0)) fun _ => chk (Nat.beq r1.esz r0.esz) fun _ => r1.app r2 fun r' => need (fits r'.len) fun _ => rowNew nm r' false s (k sc)
      | _ => none
    match x with
    | .av (.one (.own r off n t)) => getD' (lkup r s.rows) fun rb => match rb with
      | .live rw => match t with
        | true => grown (rw.cut off n) sc (.own r off n false)
        | false => chk (Nat.beq off 0 && Nat.beq rw.esz r0.esz) fun _ => need (Nat.beq n rw.len) fun _ => rw.app r2 fun r' => need (fits r'.len) fun _ =>
            k sc (cone (.own nm 0 r'.len false)) { s with rows := (nm, .live r') :: (r, .gone) :: s.rows }
      | .froz rw => chk t fun _ => grown (rw.cut off n) sc (.own r off n false)
      | .gone => none
    | .av (.one (.pv p)) => p.row r0 fun r1 t => chk t fun _ => grown r1 sc (.pv p)
    | .av (.one (.bor p)) => p.row r0 fun r1 t => chk t fun _ => grown r1 sc (.bor p)
    | _ => none

def evMin2 (x y : SV) (k : SV → Ans R) : Ans R :=
  wInt x fun kx a => wInt y fun _ b => k (pint kx (if b < a then b else a))
def evMax2 (x y : SV) (k : SV → Ans R) : Ans R :=
  wInt x fun kx a => wInt y fun _ b => k (pint kx (if b > a then b else a))
def foldS (f : SV → SV → (SV → Ans R) → Ans R) (x : SV) : List SV → (SV → Ans R) → Ans R
  | [], k => k x
  | y :: l, k => f x y fun z => foldS f z l k
def evLen (P : Program) (t : TypeId) (x : SV) (k : SV → Ans R) : Ans R :=
  match P.underlying t, x with
  | some .string, .av (.one (.pv (.str s))) => k (pint .i64 (s.size : Int))
  | some (.slice _), .av (.one c) => cvLen c fun n => k (pint .i64 (n : Int))
  | _, _ => none
/-- Is the second argument's type one of a slice or a text? -/
def srcT (P : Program) (u : TypeId) : Bool :=
  match P.underlying u with
  | some (.slice _) => true
  | some .string => true
  | _ => false
def evBuiltin (P : Program) (b : Builtin) (ts : List TypeId) (xs : List SV) (nm : Nat) (s : St) (sc : List Ev) (k : List Ev → SV → St → Ans R) : Ans R :=
  match b, ts, xs with
  | .len, [t], [x] => evLen P t x fun v => k sc v s
  | .append, [t, u], [x, y] => chk (srcT P u) fun _ => evAppend P t x y nm s sc k
  | .min, _, x :: l => foldS evMin2 x l fun v => k sc v s
  | .max, _, x :: l => foldS evMax2 x l fun v => k sc v s
  | _, _, _ => none

def opdA (s : St) : List Operand → Option (List SV)
  | [] => some []
  | x :: l => match opd s x, opdA s l with
    | some v, some r => some (v :: r)
    | _, _ => none
def opdO (s : St) : Option Operand → Option (Option SV)
  | none => some none
  | some x => (opd s x).map some

/-- An operation that calls nothing. -/
def evOp (P : Program) (C : Cfg) (o : Op) (nm : Nat) (s : St) (k : SV → St → Ans R) : Ans R :=
  match o with
  | .move x => getD' (opd s x) fun v => k v s
  | .assign x => getD' (opd s x) fun v => k v s
  | .pick c a b => getD' (opd s c) fun v => wBool v fun c => match c with
    | true => getD' (opd s a) fun v => k v s
    | false => getD' (opd s b) fun v => k v s
  | .alloc e => evAlloc P e nm s k
  | .box e x => getD' (opd s x) fun v => evBox P C e v nm s k
  | .build t ps => getD' (opdL s ps.toList) fun l => evBuild P t l fun v => k v s
  | .buildSlice t n ps => getD' (opdL s ps.toList) fun l => evBuildSlice P t n l nm s k
  | .load t a => getD' (opd s a) fun v => evLoad P t v s fun v => k v s
  | .nilCheck x => getD' (opd s x) fun v => wCv v fun c => match c with
    | .pv (.imm _ _) => k v s
    | .ref _ _ => k v s
    | _ => none
  | .binOp op t x y _ => getD' (opd s x) fun v => getD' (opd s y) fun u => evBin P t op v u fun v => k v s
  | .unOp op _ x => getD' (opd s x) fun v => evUn op v fun v => k v s
  | .convert a b x => getD' (opd s x) fun v => evConvert P a b v nm s k
  | .slice t x lo hi mx => getD' (opd s x) fun v => getD' (opdO s lo) fun lo => getD' (opdO s hi) fun hi => getD' (opdO s mx) fun mx =>
      evSlice P t v lo hi mx s fun v => k v s
  | .fieldAddr t x f => getD' (opd s x) fun v => evFieldAddr P t v f fun v => k v s
  | .field t x f => getD' (opd s x) fun v => evField P t v f fun v => k v s
  | .indexAddr t x i => getD' (opd s x) fun v => getD' (opd s i) fun i => evIndexAddr P t v i s fun v => k v s
  | .index t x i => getD' (opd s x) fun v => getD' (opd s i) fun i => chk (isStr P t) fun _ => evIndex v i fun v => k v s
  | .extract x i => getD' (opd s x) fun v => match v with
    | .tup l => getD' (l[i]?) fun a => k (.av a) s
    | _ => none
  | _ => none
end

end Go.Ev
