/- The evaluator by value, and that it is sound; contracts by value. No program in sight. -/
import Derived.Tactics
import Derived.Scope
import Derived.LoopN
import Derived.OrdersHeld
import Derived.Below
import Derived.Lib.ItoaNum
import Derived.Lib.LaidTab
import Derived.Laws.Cells
import Derived.Laws.BytesString
import Derived.Laws.StructEq
import Derived.Laws.Strings
set_option linter.unusedVariables false
set_option linter.unusedSimpArgs false
namespace Go.Ev
inductive PV where
 | bool (b : Bool)
 | int (k : IntKind) (n : Int)
 | str (s : ByteArray)
 | nilp
 | imm (cells : List PV) (off : Nat)
 | nils
 | emp
 | ints (k : IntKind) (l : List Int) (t : Bool)
 | bools (l : List Bool) (t : Bool)
 | recs (sz : Nat) (l : List (List PV)) (t : Bool)
 | nilI
 | errI
 | nilm
 deriving Inhabited
inductive KK where
 | int (k : IntKind)
 | str
 | st (ks : List IntKind)
 | oth
 deriving Inhabited, DecidableEq
inductive HV where
 | pv (a : Bool) (ps : List PV)
 | ref (o off : Nat)
 | mp (o : Nat)
 | dead
 deriving Inhabited
inductive CV where
 | pv (p : PV)
 | bor (p : PV)
 | ref (o off : Nat)
 | own (r off len : Nat) (t : Bool)
 | iadr (p : PV) (i fo : Nat)
 | radr (r i fo : Nat)
 | dead
 | mp (o : Nat)
 | fn (f : Nat) (caps : List HV)
 | stamp (n : Nat)
 | maph (kk : KK) (va : Bool) (ents : List (List PV × List PV)) (mk : List (List PV × Nat))
 | sit (s : ByteArray) (pos : Nat)
 deriving Inhabited
inductive AV where
 | one (c : CV)
 | agg (l : List CV)
 deriving Inhabited
inductive SV where
 | av (a : AV)
 | tup (l : List AV)
 deriving Inhabited
inductive Row where
 | ints (k : IntKind) (l : List Int)
 | bools (l : List Bool)
 | recs (sz : Nat) (l : List (List PV))
 deriving Inhabited
inductive RowB where
 | live (r : Row)
 | froz (r : Row)
 | gone
 deriving Inhabited
abbrev Obj := List CV
structure St where
 slots : List (Nat × SV)
 objs : List (Nat × Obj)
 rows : List (Nat × RowB)
abbrev Res := List AV × List Obj × List Row
abbrev zu2 := Bool → FuncId → List AV → List Obj → List Row → Res → Prop
inductive Ex where
 | normal
 | exit (id : Nat)
 | goto (l : Nat)
 | ret
 deriving Inhabited
inductive Ev where
 | br (b : Bool)
 | res (r : Res)
 | lp (e : Ex) (s : St)
 | el (ps : List PV)
structure Cfg where
 immT : List TypeId
 shutT : List TypeId
 bor : List FuncId
 give : List FuncId
 keep : FuncId → List (Nat × List Nat)
 head : FuncId → List (Nat × (List Nat × List (Nat × Row)))
def memT (x : Nat) : List Nat → Bool
 | [] => false
 | y :: l => bif Nat.beq x y then true else memT x l
def lkup {α : Type} (x : Nat) : List (Nat × α) → Option α
 | [] => none
 | (y, v) :: l => bif Nat.beq x y then some v else lkup x l
abbrev pone (p : PV) : SV := .av (.one (.pv p))
abbrev cone (c : CV) : SV := .av (.one c)
abbrev pint (k : IntKind) (n : Int) : SV := pone (.int k n)
abbrev zo9 (b : Bool) : SV := pone (.bool b)
inductive Ob where
 | p (q : Prop)
 | e (s s' : St)
@[reducible] def Ob.holds : Ob → Prop
 | .p q => q
 | .e s s' => s = s'
abbrev Ans (R : Type) := Option (R × List Ob)
section
variable {R : Type}
def need (b : Bool) (k : Unit → Ans R) : Ans R :=
 match k () with
 | some (r, ps) => some (r, .p (b = true) :: ps)
 | none => none
def chk (b : Bool) (k : Unit → Ans R) : Ans R := bif b then k () else none
def zav {α : Type} (o : Option α) (k : α → Ans R) : Ans R := match o with | some x => k x | none => none
def obl (p : Prop) (x : Ans R) : Ans R :=
 match x with
 | some (r, ps) => some (r, .p p :: ps)
 | none => none
def pvOf : Value → Option PV
 | .bool b => some (.bool b)
 | .int k n => some (.int k n)
 | .string s => some (.str s)
 | .pointer none => some .nilp
 | .slice none 0 0 => some .nils
 | .nilIface => some .nilI
 | .map none => some .nilm
 | _ => none
def zjs : List Value → Option (List CV)
 | [] => some []
 | v :: l => match pvOf v, zjs l with
  | some p, some r => some (.pv p :: r)
  | _, _ => none
def svOf : Value → Option SV
 | .agg cs => (zjs cs.toList).map fun l => .av (.agg l)
 | .nilFunc => some (cone .dead)
 | v => (pvOf v).map fun p => pone p
def opd (s : St) : Operand → Option SV
 | .tmp t => lkup t s.slots
 | .const v => svOf v
 | .func f => some (cone (.fn f []))
 | _ => none
def wInt (v : SV) (k : IntKind → Int → Ans R) : Ans R :=
 match v with | .av (.one (.pv (.int kd n))) => k kd n | _ => none
def zuX (v : SV) (k : Bool → Ans R) : Ans R :=
 match v with | .av (.one (.pv (.bool b))) => k b | _ => none
def wAv (v : SV) (k : AV → Ans R) : Ans R :=
 match v with | .av a => k a | _ => none
def wCv (v : SV) (k : CV → Ans R) : Ans R :=
 match v with | .av (.one c) => k c | _ => none
def AV.cells : AV → List CV
 | .one c => [c]
 | .agg l => l
def Row.len : Row → Nat
 | .ints _ l => l.length
 | .bools l => l.length
 | .recs _ l => l.length
def Row.cut (off n : Nat) : Row → Row
 | .ints k l => .ints k ((l.drop off).take n)
 | .bools l => .bools ((l.drop off).take n)
 | .recs sz l => .recs sz ((l.drop off).take n)
def Row.pv (t : Bool) : Row → PV
 | .ints k l => .ints k l t
 | .bools l => .bools l t
 | .recs sz l => .recs sz l t
def Row.app (a b : Row) (k : Row → Ans R) : Ans R :=
 match a, b with
 | .ints x l, .ints y m => chk (decide (x = y)) fun _ => k (.ints x (l ++ m))
 | .bools l, .bools m => k (.bools (l ++ m))
 | .recs x l, .recs y m => chk (Nat.beq x y) fun _ => k (.recs x (l ++ m))
 | _, _ => none
def PV.row (e : Row) (p : PV) (k : Row → Bool → Ans R) : Ans R :=
 match p with
 | .ints kd l t => k (.ints kd l) t
 | .bools l t => k (.bools l) t
 | .recs sz l t => k (.recs sz l) t
 | .nils => k e true
 | .emp => k e false
 | _ => none
def PV.slen (p : PV) (k : Nat → Ans R) : Ans R :=
 match p with
 | .ints _ l _ => k l.length
 | .bools l _ => k l.length
 | .recs _ l _ => k l.length
 | .nils => k 0
 | .emp => k 0
 | _ => none
def ztg (c : CV) (k : Nat → Ans R) : Ans R :=
 match c with
 | .pv p => p.slen k
 | .bor p => p.slen k
 | .own _ _ n _ => k n
 | _ => none
structure TI where
 agg : Bool
 size : Nat
 zero : List CV
def zeZ (P : Program) (t : TypeId) : Option TI :=
 match P.info? t, P.underlying t with
 | some i, some d =>
  match i.zero with
  | some (.agg cs) => match d with
   | .struct _ | .array _ _ => (zjs cs.toList).map fun l => ⟨true, i.size, l⟩
   | _ => none
  | some v => match d with
   | .struct _ | .array _ _ => none
   | _ => (pvOf v).map fun p => ⟨false, i.size, [.pv p]⟩
  | none => none
 | _, _ => none
def zg6 (P : Program) (t : TypeId) (f : Nat) : Option (Nat × TypeId) :=
 match P.underlying t with
 | some (.struct fs) => (fs[f]?).map fun x => (x.offset, x.type)
 | _ => none
def zoY (P : Program) (t : TypeId) : Option TypeId :=
 match P.underlying t with
 | some (.slice e) => some e
 | _ => none
def PV.esz : PV → Nat
 | .recs sz _ _ => sz
 | _ => 1
def Row.esz : Row → Nat
 | .recs sz _ => sz
 | _ => 1
def znC (P : Program) (e : TypeId) (n : Nat) : Bool := Nat.beq (P.cellsOf e) n && !(Nat.beq n 0)
def zxw (P : Program) (e : TypeId) : Option Row :=
 match P.underlying e with
 | some (.int k) => some (.ints k [])
 | some .bool => some (.bools [])
 | some _ => some (.recs (P.cellsOf e) [])
 | none => none
def row0 (P : Program) (e : TypeId) : Option Row :=
 match zxw P e with
 | some r => bif znC P e r.esz then some r else none
 | none => none
def zsm (l : List PV) (off : Nat) : Nat → (List CV → Ans R) → Ans R
 | 0, k => k []
 | n + 1, k => zav (l[off]?) fun p => zsm l (off + 1) n fun cs => k (.pv p :: cs)
def zuV (l : List CV) (off : Nat) : Nat → (List CV → Ans R) → Ans R
 | 0, k => k []
 | n + 1, k => zav (l[off]?) fun p => zuV l (off + 1) n fun cs => k (p :: cs)
def toAv (agg : Bool) (cs : List CV) (k : AV → Ans R) : Ans R :=
 match agg, cs with
 | true, cs => k (.agg cs)
 | false, [c] => k (.one c)
 | false, _ => none
def setL {α : Type} (l : List α) (i : Nat) (cs : List α) : List α :=
 match cs with
 | [] => l
 | c :: cs => setL (l.set i c) (i + 1) cs
def Row.elem (r : Row) (i fo n : Nat) (k : List CV → Ans R) : Ans R :=
 match r with
 | .ints kd l => chk (Nat.beq fo 0 && Nat.beq n 1) fun _ => k [.pv (.int kd (l.getD i 0))]
 | .bools l => chk (Nat.beq fo 0 && Nat.beq n 1) fun _ => k [.pv (.bool (l.getD i false))]
 | .recs _ l => zsm (l.getD i []) fo n k
def zq9 : List CV → Bool
 | .maph _ _ _ _ :: _ => false
 | .sit _ _ :: _ => false
 | _ => true
def zmx (P : Program) (t : TypeId) (a : SV) (s : St) (k : SV → Ans R) : Ans R :=
 zav (zeZ P t) fun ti => wCv a fun c =>
  match c with
  | .pv (.imm cells off) => zsm cells off ti.size fun cs => toAv ti.agg cs fun a => k (.av a)
  | .ref o off => zav (lkup o s.objs) fun ob => chk (zq9 ob) fun _ => zuV ob off ti.size fun cs => toAv ti.agg cs fun a => k (.av a)
  | .iadr p i fo => p.row (.recs ti.size []) fun r _ => r.elem i fo ti.size fun cs => toAv ti.agg cs fun a => k (.av a)
  | .radr r i fo => zav (lkup r s.rows) fun rb => match rb with
   | .live rw => rw.elem i fo ti.size fun cs => toAv ti.agg cs fun a => k (.av a)
   | .froz rw => rw.elem i fo ti.size fun cs => toAv ti.agg cs fun a => k (.av a)
   | .gone => none
  | _ => none
def ztm (c : CV) (s : St) (k : PV → St → Ans R) : Ans R :=
 match c with
 | .pv p => k p s
 | .own r off n t => zav (lkup r s.rows) fun rb => match rb with
  | .live rw => k ((rw.cut off n).pv t) { s with rows := (r, .froz rw) :: s.rows }
  | .froz rw => k ((rw.cut off n).pv t) s
  | .gone => none
 | _ => none
def zqX (cs : List CV) (s : St) (k : List PV → St → Ans R) : Ans R :=
 match cs with
 | [] => k [] s
 | c :: cs => ztm c s fun p s => zqX cs s fun ps s => k (p :: ps) s
def Row.put (r : Row) (i fo : Nat) (ps : List PV) (k : Row → Ans R) : Ans R :=
 match r with
 | .ints kd l => match ps with
  | [.int kd' n] => chk (decide (kd = kd') && Nat.beq fo 0) fun _ => k (.ints kd (l.set i n))
  | _ => none
 | .bools l => match ps with
  | [.bool b] => chk (Nat.beq fo 0) fun _ => k (.bools (l.set i b))
  | _ => none
 | .recs sz l => chk (Nat.ble (fo + ps.length) sz) fun _ => k (.recs sz (l.set i (setL (l.getD i []) fo ps)))
def ztX (P : Program) (t : TypeId) (a v : SV) (s : St) (k : St → Ans R) : Ans R :=
 zav (zeZ P t) fun ti => wCv a fun c => wAv v fun x =>
  chk (Nat.beq x.cells.length ti.size) fun _ =>
  match c with
  | .ref o off => zav (lkup o s.objs) fun ob => chk (zq9 ob && Nat.ble (off + ti.size) ob.length) fun _ => k { s with objs := (o, setL ob off x.cells) :: s.objs }
  | .radr r i fo => zqX x.cells s fun ps s => zav (lkup r s.rows) fun rb => match rb with
   | .live rw => rw.put i fo ps fun rw' => k { s with rows := (r, .live rw') :: s.rows }
   | _ => none
  | _ => none
def znE (P : Program) (t : TypeId) (a : SV) (f : Nat) (k : SV → Ans R) : Ans R :=
 zav (zg6 P t f) fun x => chk (!(Nat.beq (P.cellsOf x.2) 0)) fun _ => wCv a fun c =>
  match c with
  | .pv (.imm cells off) => k (pone (.imm cells (off + x.1)))
  | .ref o off => k (cone (.ref o (off + x.1)))
  | .iadr p i fo => k (cone (.iadr p i (fo + x.1)))
  | .radr r i fo => k (cone (.radr r i (fo + x.1)))
  | _ => none
def ztU (P : Program) (t : TypeId) (a : SV) (f : Nat) (k : SV → Ans R) : Ans R :=
 zav (zg6 P t f) fun x => zav (zeZ P x.2) fun ti =>
  match a with
  | .av (.agg l) => zuV l x.1 ti.size fun cs => toAv ti.agg cs fun a => k (.av a)
  | _ => none
def znF (P : Program) (t : TypeId) (x i : SV) (s : St) (k : SV → Ans R) : Ans R :=
 zav (zoY P t) fun e => wInt i fun _ n => wCv x fun c => ztg c fun len =>
  need (decide (0 ≤ n) && decide (n < (len : Int))) fun _ =>
  match c with
  | .pv p => chk (znC P e p.esz) fun _ => k (cone (.iadr p n.toNat 0))
  | .bor p => chk (znC P e p.esz) fun _ => k (cone (.iadr p n.toNat 0))
  | .own r off _ _ => zav (lkup r s.rows) fun rb => match rb with
   | .live rw => chk (znC P e rw.esz) fun _ => k (cone (.radr r (off + n.toNat) 0))
   | .froz rw => chk (znC P e rw.esz) fun _ => k (cone (.radr r (off + n.toNat) 0))
   | .gone => none
  | _ => none
def zrO (x i : SV) (k : SV → Ans R) : Ans R :=
 match x with
 | .av (.one (.pv (.str s))) => wInt i fun _ n => need (decide (0 ≤ n) && decide (n < (s.size : Int))) fun _ => k (pint .u8 ((s.data.getD n.toNat 0).toNat : Int))
 | _ => none
def bnd (x : Option SV) (d : Int) (k : Int → Ans R) : Ans R :=
 match x with
 | some v => wInt v fun _ n => k n
 | none => k d
def ziX (mx hi : Option SV) (t : Bool) : Bool :=
 match mx, hi with
 | some _, _ => true
 | none, none => t
 | none, some _ => false
def zqS (P : Program) (t : TypeId) : Bool := match P.underlying t with | some .string => true | _ => false
def zrQ (P : Program) (t : TypeId) (x : SV) (lo hi mx : Option SV) (s : St) (k : SV → Ans R) : Ans R :=
 match x with
 | .av (.one (.pv (.str b))) => chk (mx.isNone && zqS P t) fun _ => bnd lo 0 fun l => bnd hi (b.size : Int) fun h =>
   need (decide (0 ≤ l) && decide (l ≤ h) && decide (h ≤ (b.size : Int))) fun _ => k (pone (.str (b.extract l.toNat h.toNat)))
 | .av (.one c) => chk (mx.isNone || hi.isSome) fun _ => zav (zoY P t) fun e => zav (row0 P e) fun r0 => ztg c fun len => bnd lo 0 fun l => bnd hi (len : Int) fun h => bnd mx h fun m =>
   need (decide (0 ≤ l) && decide (l ≤ h) && decide (h ≤ (len : Int)) && decide (m = h)) fun _ =>
   match c with
   | .pv .nils => k (pone .nils)
   | .pv p => p.row r0 fun r t => chk (Nat.beq r.esz r0.esz) fun _ => k (pone ((r.cut l.toNat (h - l).toNat).pv (ziX mx hi t)))
   | .bor p => p.row r0 fun r t => chk (Nat.beq r.esz r0.esz) fun _ => k (cone (.bor ((r.cut l.toNat (h - l).toNat).pv (ziX mx hi t))))
   | .own r off _ t => zav (lkup r s.rows) fun rb => match rb with
    | .live rw => chk (Nat.beq rw.esz r0.esz) fun _ => k (cone (.own r (off + l.toNat) (h - l).toNat (ziX mx hi t)))
    | .froz rw => chk (Nat.beq rw.esz r0.esz) fun _ => k (cone (.own r (off + l.toNat) (h - l).toNat (ziX mx hi t)))
    | .gone => none
   | _ => none
 | _ => none
def ibin (op : BinOp) (k : IntKind) (x y : Int) : Option PV :=
 match op with
 | .add => some (.int k (k.wrap (x + y)))
 | .sub => some (.int k (k.wrap (x - y)))
 | .mul => some (.int k (k.wrap (x * y)))
 | .and => some (.int k (k.wrap (BitVec.ofInt k.bits x &&& BitVec.ofInt k.bits y).toNat))
 | .or => some (.int k (k.wrap (BitVec.ofInt k.bits x ||| BitVec.ofInt k.bits y).toNat))
 | .xor => some (.int k (k.wrap (BitVec.ofInt k.bits x ^^^ BitVec.ofInt k.bits y).toNat))
 | .andNot => some (.int k (k.wrap (BitVec.ofInt k.bits x &&& ~~~ BitVec.ofInt k.bits y).toNat))
 | .eql => some (.bool (decide (x = y)))
 | .neq => some (.bool (!decide (x = y)))
 | .lss => some (.bool (decide (x < y)))
 | .leq => some (.bool (decide (x ≤ y)))
 | .gtr => some (.bool (decide (y < x)))
 | .geq => some (.bool (decide (y ≤ x)))
 | _ => none
def sbin (op : BinOp) (x y : ByteArray) (k : PV → Ans R) : Ans R :=
 match op with
 | .add => need (decide (x.size + y.size ≤ 140737488355328)) fun _ => k (.str (x ++ y))
 | .eql => k (.bool (decide (x = y)))
 | .neq => k (.bool (!decide (x = y)))
 | .lss => k (.bool (Op.bytesLess x.toList y.toList))
 | .gtr => k (.bool (!(Op.bytesLess x.toList y.toList || decide (x = y))))
 | .leq => k (.bool (Op.bytesLess x.toList y.toList || decide (x = y)))
 | .geq => k (.bool (!Op.bytesLess x.toList y.toList))
 | _ => none
def neg? (op : BinOp) (b : Bool) : Option PV :=
 match op with
 | .eql => some (.bool b)
 | .neq => some (.bool (!b))
 | _ => none
def zt5 (P : Program) (t : TypeId) : Bool := match P.underlying t with | some .bool => true | _ => false
def zv3 (P : Program) (t : TypeId) : Bool := match P.underlying t with | some (.pointer _) => true | _ => false
def zxe (P : Program) (t : TypeId) : Bool := match P.underlying t with | some (.slice _) => true | _ => false
def zxk (c : CV) (k : Bool → Ans R) : Ans R :=
 match c with
 | .pv .nilp => k true
 | .pv (.imm _ _) => k false
 | .ref _ _ => k false
 | _ => none
def zxl (c : CV) (k : Bool → Ans R) : Ans R :=
 match c with
 | .pv .nils => k true
 | .pv .emp => k false
 | .bor .nils => k true
 | .bor .emp => k false
 | c => ztg c fun n => need (!(Nat.beq n 0)) fun _ => k false
def zwp (op : BinOp) (kx : IntKind) (a : Int) (ky : IntKind) (b : Int) (k : SV → Ans R) : Ans R :=
 match op with
 | .shl => need (decide (0 ≤ b)) fun _ => k (pint kx (kx.wrap (a * 2 ^ (min b.toNat kx.bits))))
 | .shr => need (decide (0 ≤ b)) fun _ => k (pint kx (a.fdiv (2 ^ (min b.toNat kx.bits))))
 | .quo => chk (decide (kx = ky)) fun _ => need (!decide (b = 0)) fun _ => k (pint kx (kx.wrap (a.tdiv b)))
 | .rem => chk (decide (kx = ky)) fun _ => need (!decide (b = 0)) fun _ => k (pint kx (a.tmod b))
 | op => chk (decide (kx = ky)) fun _ => zav (ibin op kx a b) fun p => k (pone p)
def scEq (P : Program) (t : TypeId) (c d : CV) : Option Bool :=
 match P.underlying t, c, d with
 | some (.int _), .pv (.int k a), .pv (.int k' b) => bif decide (k = k') then some (decide (a = b)) else none
 | some .string, .pv (.str a), .pv (.str b) => some (decide (a = b))
 | some .bool, .pv (.bool a), .pv (.bool b) => some (a == b)
 | _, _, _ => none
def eqF (P : Program) (l m : List CV) : List Field → Option Bool
 | [] => some true
 | f :: fs => bif f.name == "_" then none else match l[f.offset]?, m[f.offset]? with
  | some c, some d => match scEq P f.type c d, eqF P l m fs with
   | some b, some r => some (b && r)
   | _, _ => none
  | _, _ => none
def zwm (P : Program) (t : TypeId) (op : BinOp) (x y : SV) (k : SV → Ans R) : Ans R :=
 match x, y with
 | .av (.one (.pv (.int kx a))), .av (.one (.pv (.int ky b))) => zwp op kx a ky b k
 | .av (.one (.pv (.str a))), .av (.one (.pv (.str b))) => sbin op a b fun p => k (pone p)
 | .av (.one (.pv (.bool a))), .av (.one (.pv (.bool b))) => chk (zt5 P t) fun _ => zav (neg? op (a == b)) fun p => k (pone p)
 | .av (.one c), .av (.one (.pv .nilp)) => chk (zv3 P t) fun _ => zxk c fun b => zav (neg? op b) fun p => k (pone p)
 | .av (.one c), .av (.one (.pv .nils)) => chk (zxe P t) fun _ => zxl c fun b => zav (neg? op b) fun p => k (pone p)
 | .av (.agg l), .av (.agg m) => chk (!P.stoodInHeld t && !P.eqGuardType P.depth t) fun _ => match P.underlying t with
  | some (.struct fs) => zav (eqF P l m fs.toList) fun b => zav (neg? op b) fun p => k (pone p)
  | _ => none
 | _, _ => none
def zqR : Operand → Bool
 | .const .nilIface => true
 | _ => false
def zxd (P : Program) (t : TypeId) : Bool := match P.underlying t with | some (.interface _) => true | _ => false
def zxj (c : CV) (k : Bool → Ans R) : Ans R :=
 match c with
 | .pv .nilI => k true
 | .pv .errI => k false
 | _ => none
def zvY (P : Program) (t : TypeId) (op : BinOp) (x : SV) (k : SV → Ans R) : Ans R :=
 chk (zxd P t) fun _ => wCv x fun c => zxj c fun b => zav (neg? op b) fun p => k (pone p)
def evUn (op : UnOp) (x : SV) (k : SV → Ans R) : Ans R :=
 match op with
 | .not => zuX x fun b => k (zo9 (!b))
 | .neg => wInt x fun kd n => k (pint kd (kd.wrap (0 - n)))
 | .xor => wInt x fun kd n => zav (ibin .xor kd (if kd.signed then -1 else kd.max) n) fun p => k (pone p)
 | _ => none
def zpy (nm : Nat) (r : Row) (t : Bool) (s : St) (k : SV → St → Ans R) : Ans R :=
 k (cone (.own nm 0 r.len t)) { s with rows := (nm, .live r) :: s.rows }
def zcn (s : ByteArray) : List Int := s.data.toList.map fun b => (b.toNat : Int)
def strOf (l : List Int) : ByteArray := ⟨(l.map fun n => UInt8.ofNat n.toNat).toArray⟩
def zqF (P : Program) (src dst : TypeId) (x : SV) (nm : Nat) (s : St) (k : SV → St → Ans R) : Ans R :=
 chk (P.underlying src).isSome fun _ => match P.underlying dst with
 | some (.int kd) => wInt x fun _ n => k (pint kd (kd.wrap n)) s
 | some .string => match x with
  | .av (.one (.pv (.str b))) => k (pone (.str b)) s
  | .av (.one c) => zav (zoY P src) fun e => match P.underlying e with
   | some (.int .u8) => match c with
    | .pv p => p.row (.ints .u8 []) fun r _ => match r with
     | .ints .u8 l => k (pone (.str (strOf l))) s
     | _ => none
    | .bor p => p.row (.ints .u8 []) fun r _ => match r with
     | .ints .u8 l => k (pone (.str (strOf l))) s
     | _ => none
    | .own r off n _ => zav (lkup r s.rows) fun rb => match rb with
     | .live (.ints .u8 l) => k (pone (.str (strOf ((l.drop off).take n)))) s
     | .froz (.ints .u8 l) => k (pone (.str (strOf ((l.drop off).take n)))) s
     | _ => none
    | _ => none
   | _ => none
  | _ => none
 | some (.slice e) => match x with
  | .av (.one (.pv (.str b))) => match P.underlying e with
   | some (.int .u8) => need (decide (b.size ≤ 140737488355328)) fun _ => zpy nm (.ints .u8 (zcn b)) false s k
   | _ => none
  | .av (.one (.own r off n t)) => match P.underlying e with
   | some (.int .u8) => chk (Nat.beq src dst && Nat.blt 0 n) fun _ => zav (lkup r s.rows) fun rb => match rb with
    | .live _ => k (cone (.own r off n t)) s
    | _ => none
   | _ => none
  | _ => none
 | _ => none
def zuP (cs : List CV) (s : St) (k : List CV → St → Ans R) : Ans R :=
 match cs with
 | [] => k [] s
 | .own r off n t :: cs => ztm (.own r off n t) s fun p s => zuP cs s fun cs s => k (.pv p :: cs) s
 | c :: cs => zuP cs s fun cs s => k (c :: cs) s
def zw5 (P : Program) (C : Cfg) (e : TypeId) (v : SV) (nm : Nat) (s : St) (k : SV → St → Ans R) : Ans R :=
 zav (zeZ P e) fun ti => wAv v fun x => chk (Nat.beq x.cells.length ti.size) fun _ =>
  bif memT e C.immT then zqX x.cells s fun ps s => k (pone (.imm ps 0)) s
  else bif memT e C.shutT then zuP x.cells s fun cs s => k (cone (.ref nm 0)) { s with objs := (nm, cs) :: s.objs }
  else k (cone (.ref nm 0)) { s with objs := (nm, x.cells) :: s.objs }
def ztT (P : Program) (e : TypeId) (nm : Nat) (s : St) (k : SV → St → Ans R) : Ans R :=
 zav (zeZ P e) fun ti => k (cone (.ref nm 0)) { s with objs := (nm, ti.zero) :: s.objs }
def zwr (P : Program) (fs : Nat → Option (Nat × Nat)) (cells : List CV) : List (Nat × SV) → (List CV → Ans R) → Ans R
 | [], k => k cells
 | (i, v) :: rest, k => zav (fs i) fun x => wAv v fun a =>
   chk (Nat.beq a.cells.length x.2 && Nat.ble (x.1 + x.2) cells.length) fun _ => zwr P fs (setL cells x.1 a.cells) rest k
def zsH (P : Program) (t : TypeId) : Bool :=
 match P.underlying t with
 | some (.struct fs) => fs.toList.all fun f => (P.info? f.type).isSome
 | _ => false
def zrK (P : Program) (t : TypeId) (parts : List (Nat × SV)) (k : SV → Ans R) : Ans R :=
 zav (zeZ P t) fun ti => chk (zsH P t) fun _ => match P.underlying t with
  | some (.struct _) => zwr P (fun i => (zg6 P t i).map fun x => (x.1, P.cellsOf x.2)) ti.zero parts fun cs => k (.av (.agg cs))
  | _ => none
def opdL (s : St) : List (Nat × Operand) → Option (List (Nat × SV))
 | [] => some []
 | (i, x) :: l => match opd s x, opdL s l with
  | some v, some r => some ((i, v) :: r)
  | _, _ => none
def zup (r0 : Row) (n : Nat) : Nat → List (Nat × SV) → St → (Row → St → Ans R) → Ans R
 | _, [], s, k => k r0 s
 | i, (j, v) :: rest, s, k => chk (Nat.beq i j) fun _ => wAv v fun a => zqX a.cells s fun ps s =>
   zup r0 n (i + 1) rest s fun r s =>
    match r with
    | .ints kd l => match ps with
     | [.int kd' n] => chk (decide (kd = kd')) fun _ => k (.ints kd (n :: l)) s
     | _ => none
    | .bools l => match ps with
     | [.bool b] => k (.bools (b :: l)) s
     | _ => none
    | .recs sz l => chk (Nat.beq ps.length sz) fun _ => k (.recs sz (ps :: l)) s
def zjz (P : Program) (t : TypeId) (len : Nat) (parts : List (Nat × SV)) (nm : Nat) (s : St) (k : SV → St → Ans R) : Ans R :=
 zav (zoY P t) fun e => zav (row0 P e) fun r0 => zav (zeZ P e) fun ti => chk (Nat.beq ti.size r0.esz) fun _ => chk (Nat.beq parts.length len && Nat.ble (len * P.cellsOf e) 65536) fun _ =>
  zup r0 len 0 parts s fun r s => zpy nm r true s k
def zoj : List CV → Option (List PV)
 | [] => some []
 | .pv p :: l => match zoj l with
  | some r => some (p :: r)
  | none => none
 | _ => none
def Row.zeros (r0 : Row) (n : Nat) (z : List PV) : Option Row :=
 match r0, z with
 | .ints k _, [.int k' a] => bif decide (k = k') then some (.ints k (List.replicate n a)) else none
 | .bools _, [.bool b] => some (.bools (List.replicate n b))
 | .recs sz _, z => bif Nat.beq z.length sz then some (.recs sz (List.replicate n z)) else none
 | _, _ => none
def fits (n : Nat) : Bool := decide (n ≤ 536870912)
def znG (P : Program) (t : TypeId) (x y : SV) (nm : Nat) (s : St) (k : SV → St → Ans R) : Ans R :=
 zav (zoY P t) fun e => zav (row0 P e) fun r0 => zav (zeZ P e) fun ti => zav (zoj ti.zero) fun z => chk (Nat.beq z.length r0.esz && Nat.ble (P.bytesOf e) 65536) fun _ =>
  wInt x fun _ n => wInt y fun _ m => need (decide (0 ≤ n) && decide (n = m) && fits n.toNat) fun _ => zav (r0.zeros n.toNat z) fun rw => zpy nm rw true s k
def intT (P : Program) (u : TypeId) : Bool := match P.underlying u with | some (.int _) => true | _ => false
def znD (P : Program) (t : TypeId) (x y : SV) (nm : Nat) (s : St) (k : SV → St → Ans R) : Ans R :=
 match x with
 | .av (.one (.pv .nils)) =>
  zav (zoY P t) fun e => zav (row0 P e) fun r0 => zav (zeZ P e) fun ti => zav (zoj ti.zero) fun z => chk (Nat.beq z.length r0.esz && Nat.ble (P.bytesOf e) 65536) fun _ =>
   wInt y fun _ n => need (decide (0 < n) && fits n.toNat) fun _ => zav (r0.zeros n.toNat z) fun rw => zpy nm rw false s k
 | _ => none
def zuT (r0 : Row) (x : SV) (s : St) (k : Row → Ans R) : Ans R :=
 match x with
 | .av (.one (.pv (.str b))) => match r0 with
  | .ints .u8 _ => k (.ints .u8 (zcn b))
  | _ => none
 | .av (.one (.pv p)) => p.row r0 fun r _ => k r
 | .av (.one (.bor p)) => p.row r0 fun r _ => k r
 | .av (.one (.own r off n _)) => zav (lkup r s.rows) fun rb => match rb with
  | .live rw => k (rw.cut off n)
  | .froz rw => k (rw.cut off n)
  | .gone => none
 | _ => none
def zpY (P : Program) (t : TypeId) (x y : SV) (nm : Nat) (s : St) (sc : List Ev) (k : List Ev → SV → St → Ans R) : Ans R :=
 zav (zoY P t) fun e => zav (row0 P e) fun r0 => zav (zeZ P e) fun ti => chk (Nat.beq ti.size r0.esz && Nat.beq ti.zero.length ti.size && Nat.ble (P.bytesOf e) 65536) fun _ =>
  zuT r0 y s fun r2 => chk (Nat.beq r2.esz r0.esz) fun _ =>
  let grown (r1 : Row) (sc : List Ev) (same : CV) : Ans R := match sc with
   | .br true :: sc => need (Nat.beq r2.len 0) fun _ => k sc (cone same) s
   | .br false :: sc => need (!(Nat.beq r2.len 0)) fun _ => chk (Nat.beq r1.esz r0.esz) fun _ => r1.app r2 fun r' => need (fits r'.len) fun _ => zpy nm r' false s (k sc)
   | _ => none
  match x with
  | .av (.one (.own r off n t)) => zav (lkup r s.rows) fun rb => match rb with
   | .live rw => match t with
    | true => grown (rw.cut off n) sc (.own r off n false)
    | false => chk (Nat.beq off 0 && Nat.beq rw.esz r0.esz) fun _ => need (Nat.beq n rw.len) fun _ => rw.app r2 fun r' => need (fits r'.len) fun _ =>
      k sc (cone (.own nm 0 r'.len false)) { s with rows := (nm, .live r') :: (r, .gone) :: s.rows }
   | .froz rw => chk t fun _ => grown (rw.cut off n) sc (.own r off n false)
   | .gone => none
  | .av (.one (.pv p)) => p.row r0 fun r1 t => chk t fun _ => grown r1 sc (.pv p)
  | .av (.one (.bor p)) => p.row r0 fun r1 t => chk t fun _ => grown r1 sc (.bor p)
  | _ => none
def zwo (x : SV) (nm : Nat) (s : St) (k : SV → St → Ans R) : Ans R :=
 match x with
 | .av (.one (.own r off n t)) => zav (lkup r s.rows) fun rb => match rb with
  | .live rw => chk (Nat.beq off 0 && !t) fun _ => need (Nat.ble n rw.len) fun _ => k (cone (.own nm 0 n false)) { s with rows := (nm, .live (rw.cut 0 n)) :: (r, .gone) :: s.rows }
  | _ => none
 | _ => none
def Row.fill (r : Row) (off n : Nat) (z : List PV) : Option Row :=
 match r with
 | .recs sz l => bif Nat.beq z.length sz then some (.recs sz (l.take off ++ (List.replicate n z ++ l.drop (off + n)))) else none
 | _ => none
def zsC (P : Program) (t : TypeId) (x : SV) (s : St) (k : SV → St → Ans R) : Ans R :=
 zav (zoY P t) fun e => zav (zeZ P e) fun ti => zav (zoj ti.zero) fun z => match x with
 | .av (.one (.own r off n _)) => zav (lkup r s.rows) fun rb => match rb with
  | .live rw => chk (znC P e rw.esz && Nat.beq z.length rw.esz) fun _ => zav (rw.fill off n z) fun rw' => k (.tup []) { s with rows := (r, .live rw') :: s.rows }
  | _ => none
 | .av (.one (.pv .nils)) => k (.tup []) s
 | _ => none
def zvX (x y : SV) (k : SV → Ans R) : Ans R :=
 wInt x fun kx a => wInt y fun _ b => k (pint kx (if b < a then b else a))
def zvW (x y : SV) (k : SV → Ans R) : Ans R :=
 wInt x fun kx a => wInt y fun _ b => k (pint kx (if b > a then b else a))
def zvm (f : SV → SV → (SV → Ans R) → Ans R) (x : SV) : List SV → (SV → Ans R) → Ans R
 | [], k => k x
 | y :: l, k => f x y fun z => zvm f z l k
def zwq (P : Program) (t : TypeId) (x : SV) (k : SV → Ans R) : Ans R :=
 match P.underlying t, x with
 | some .string, .av (.one (.pv (.str s))) => k (pint .i64 (s.size : Int))
 | some (.slice _), .av (.one c) => ztg c fun n => k (pint .i64 (n : Int))
 | _, _ => none
def zwn (P : Program) (t : TypeId) (x : SV) (k : SV → Ans R) : Ans R :=
 match P.underlying t, x with
 | some (.slice _), .av (.one (.pv .nils)) => k (pint .i64 0)
 | some (.slice _), .av (.one (.pv (.ints _ l true))) => k (pint .i64 (l.length : Int))
 | some (.slice _), .av (.one (.pv (.recs _ l true))) => k (pint .i64 (l.length : Int))
 | some (.slice _), .av (.one (.own _ _ n true)) => k (pint .i64 (n : Int))
 | _, _ => none
def srcT (P : Program) (u : TypeId) : Bool :=
 match P.underlying u with
 | some (.slice _) => true
 | some .string => true
 | _ => false
def opdA (s : St) : List Operand → Option (List SV)
 | [] => some []
 | x :: l => match opd s x, opdA s l with
  | some v, some r => some (v :: r)
  | _, _ => none
def opdO (s : St) : Option Operand → Option (Option SV)
 | none => some none
 | some x => (opd s x).map some
def capL : List SV → St → (List HV → St → Ans R) → Ans R
 | [], s, k => k [] s
 | .av (.one (.ref o off)) :: l, s, k => capL l s fun hs s => k (.ref o off :: hs) s
 | .av (.one (.mp o)) :: l, s, k => capL l s fun hs s => k (.mp o :: hs) s
 | .av (.one c) :: l, s, k => ztm c s fun p s => capL l s fun hs s => k (.pv false [p] :: hs) s
 | .av (.agg cs) :: l, s, k => zqX cs s fun p s => capL l s fun hs s => k (.pv true p :: hs) s
 | .tup _ :: _, _, _ => none
def capS : List HV → Option (List SV)
 | [] => some []
 | h :: l => match capS l with
  | some r => match h with
   | .pv true ps => some (.av (.agg (ps.map .pv)) :: r)
   | .pv false [p] => some (pone p :: r)
   | .ref o off => some (cone (.ref o off) :: r)
   | .mp o => some (cone (.mp o) :: r)
   | _ => none
  | none => none
def zqQ (P : Program) : List Field → Nat → Option (List IntKind)
 | [], _ => some []
 | f :: l, i => bif (f.name == "_") || !(Nat.beq f.offset i) then none else match P.underlying f.type with
  | some (.int k) => (zqQ P l (i + 1)).map fun ks => k :: ks
  | _ => none
def kkOf (P : Program) (t : TypeId) : Option KK :=
 match P.underlying t with
 | some (.int k) => some (.int k)
 | some .string => some .str
 | some (.struct fs) => match zqQ P fs.toList 0 with
  | some ks => bif !(P.stoodInHeld t) && !(ks.isEmpty) then some (.st ks) else some .oth
  | none => some .oth
 | _ => none
def KK.ag : KK → Bool
 | .st _ => true
 | _ => false
def zb2 : List IntKind → List PV → Bool
 | [], [] => true
 | k :: l, .int k' _ :: m => decide (k = k') && zb2 l m
 | _, _ => false
def zhq : KK → List PV → Bool
 | .int k, [.int k' _] => decide (k = k')
 | .str, [.str _] => true
 | .st ks, ps => zb2 ks ps
 | _, _ => false
def keq : List PV → List PV → Bool
 | [.int _ a], [.int _ b] => decide (a = b)
 | [.str a], [.str b] => decide (a = b)
 | .int _ a :: l, .int _ b :: m => decide (a = b) && keq l m
 | _, _ => false
def kget (k : List PV) : List (List PV × List PV) → Option (List PV)
 | [] => none
 | e :: l => bif keq k e.1 then some e.2 else kget k l
def kset (k v : List PV) : List (List PV × List PV) → List (List PV × List PV)
 | [] => [(k, v)]
 | e :: l => bif keq k e.1 then (k, v) :: l else e :: kset k v l
def kdel (k : List PV) : List (List PV × List PV) → List (List PV × List PV)
 | [] => []
 | e :: l => bif keq k e.1 then l else e :: kdel k l
def mapT (P : Program) (t : TypeId) : Option (KK × TI) :=
 match P.underlying t with
 | some (.map kt et) => match kkOf P kt, zeZ P et with
  | some kk, some ti => bif Nat.beq ti.zero.length ti.size then some (kk, ti) else none
  | _, _ => none
 | _ => none
def zt3 : Option SV → Bool
 | none => true
 | some (.av (.one (.pv (.int _ _)))) => true
 | _ => false
def zqH (P : Program) (t : TypeId) (r : Option SV) (nm : Nat) (s : St) (k : SV → St → Ans R) : Ans R :=
 zav (mapT P t) fun m => chk (zt3 r) fun _ => k (cone (.mp nm)) { s with objs := (nm, [.maph m.1 m.2.agg [] []]) :: s.objs }
def wKey (kk : KK) (i : SV) (k : List PV → Ans R) : Ans R :=
 match i with
 | .av (.one (.pv p)) => chk (!kk.ag && zhq kk [p]) fun _ => k [p]
 | .av (.agg l) => zav (zoj l) fun ps => chk (kk.ag && zhq kk ps) fun _ => k ps
 | _ => none
def zvv (ok : Bool) (a : AV) (b : Bool) : SV := bif ok then .tup [a, .one (.pv (.bool b))] else .av a
def zsF (P : Program) (t : TypeId) (x i : SV) (ok : Bool) (s : St) (sc : List Ev) (k : List Ev → SV → Ans R) : Ans R :=
 zav (mapT P t) fun m => wKey m.1 i fun kp => wCv x fun c =>
  match c with
  | .pv .nilm => toAv m.2.agg m.2.zero fun a => k sc (zvv ok a false)
  | .mp o => zav (lkup o s.objs) fun ob => match ob with
   | [.maph kk va ents _] => chk (decide (kk = m.1) && (va == m.2.agg)) fun _ => match sc with
    | .br true :: .el ps :: sc => obl (kget kp ents = some ps) (toAv va (ps.map .pv) fun a => k sc (zvv ok a true))
    | .br false :: sc => obl (kget kp ents = none) (toAv m.2.agg m.2.zero fun a => k sc (zvv ok a false))
    | _ => none
   | _ => none
  | _ => none
def zkS (P : Program) (t : TypeId) (x i v : SV) (s : St) (k : St → Ans R) : Ans R :=
 zav (mapT P t) fun m => wKey m.1 i fun kp => wCv x fun c => wAv v fun a => chk (Nat.beq a.cells.length m.2.size && (match a with | .one _ => !m.2.agg | .agg _ => m.2.agg)) fun _ =>
  match c with
  | .mp o => zqX a.cells s fun ps s => zav (lkup o s.objs) fun ob => match ob with
   | [.maph kk va ents _] => chk (decide (kk = m.1) && (va == m.2.agg)) fun _ => k { s with objs := (o, [.maph kk va (kset kp ps ents) []]) :: s.objs }
   | _ => none
  | _ => none
def zsP (n : Nat) : List (List PV × Nat) → Option (List PV)
 | [] => none
 | z :: l => bif Nat.beq z.2 n then some z.1 else zsP n l
def zpi (P : Program) (t : TypeId) (x i : SV) (nm : Nat) (s : St) (sc : List Ev) (k : List Ev → SV → St → Ans R) : Ans R :=
 zav (mapT P t) fun m => wKey m.1 i fun kp => wCv x fun c =>
  match c with
  | .mp o => zav (lkup o s.objs) fun ob => match ob with
   | [.maph kk va ents _] => chk (decide (kk = m.1) && (va == m.2.agg)) fun _ => match sc with
    | .br true :: .el ps :: sc => obl (kget kp ents = some ps) (toAv va (ps.map .pv) fun a => k sc (.tup [a, .one (.stamp nm)]) { s with objs := (o, [.maph kk va (kset kp ps ents) [(kp, nm)]]) :: s.objs })
    | .br false :: sc => obl (kget kp ents = none) (zav (zoj m.2.zero) fun z => toAv m.2.agg m.2.zero fun a => k sc (.tup [a, .one (.stamp nm)]) { s with objs := (o, [.maph kk va (kset kp z ents) [(kp, nm)]]) :: s.objs })
    | _ => none
   | _ => none
  | _ => none
def zmw (x i v : SV) (s : St) (k : St → Ans R) : Ans R :=
 wCv x fun c => wCv i fun d => wAv v fun a =>
  match c, d with
  | .mp o, .stamp n => zqX a.cells s fun ps s => zav (lkup o s.objs) fun ob => match ob with
   | [.maph kk va ents mk] => chk (match a with | .one _ => !va | .agg _ => va) fun _ => zav (zsP n mk) fun kp => k { s with objs := (o, [.maph kk va (kset kp ps ents) []]) :: s.objs }
   | _ => none
  | _, _ => none
def zsD (P : Program) (t : TypeId) (x i : SV) (s : St) (k : SV → St → Ans R) : Ans R :=
 zav (mapT P t) fun m => wKey m.1 i fun kp => wCv x fun c =>
  match c with
  | .pv .nilm => k (.tup []) s
  | .mp o => zav (lkup o s.objs) fun ob => match ob with
   | [.maph kk va ents _] => chk (decide (kk = m.1)) fun _ => k (.tup []) { s with objs := (o, [.maph kk va (kdel kp ents) []]) :: s.objs }
   | _ => none
  | _ => none
def zsB (P : Program) (t : TypeId) (x : SV) (s : St) (k : SV → St → Ans R) : Ans R :=
 zav (mapT P t) fun m => wCv x fun c =>
  match c with
  | .pv .nilm => k (.tup []) s
  | .mp o => zav (lkup o s.objs) fun ob => match ob with
   | [.maph kk va _ _] => k (.tup []) { s with objs := (o, [.maph kk va [] []]) :: s.objs }
   | _ => none
  | _ => none
def zvV (P : Program) (t : TypeId) (x : SV) (s : St) (k : SV → Ans R) : Ans R :=
 zav (mapT P t) fun _ => wCv x fun c =>
  match c with
  | .pv .nilm => k (pint .i64 0)
  | .mp o => zav (lkup o s.objs) fun ob => match ob with
   | [.maph _ _ ents _] => k (pint .i64 (ents.length : Int))
   | _ => none
  | _ => none
def zsG (P : Program) (t : TypeId) (x : SV) (nm : Nat) (s : St) (k : SV → St → Ans R) : Ans R :=
 chk (zqS P t) fun _ => match x with
 | .av (.one (.pv (.str b))) => k (cone (.ref nm 0)) { s with objs := (nm, [.sit b 0]) :: s.objs }
 | _ => none
def ztV (x : SV) (s : St) (sc : List Ev) (k : List Ev → SV → St → Ans R) : Ans R :=
 wCv x fun c => match c with
 | .ref o 0 => zav (lkup o s.objs) fun ob => match ob, sc with
  | [.sit b pos], .br true :: sc => obl (decide (pos < b.size) = true) (k sc (.tup [.one (.pv (.bool true)), .one (.pv (.int .i64 (pos : Int))), .one (.pv (.int .i32 ((Utf8.decode b pos).1 : Int)))]) { s with objs := (o, [.sit b (pos + (Utf8.decode b pos).2)]) :: s.objs })
  | [.sit b pos], .br false :: sc => obl (decide (pos < b.size) = false) (k sc (.tup [.one (.pv (.bool false))]) s)
  | _, _ => none
 | _ => none
def zlj (P : Program) (b : Builtin) (ts : List TypeId) (xs : List SV) (nm nm' : Nat) (s : St) (sc : List Ev) (k : List Ev → SV → St → Ans R) : Ans R :=
 match b, ts, xs with
 | .len, [t], [x] => match P.underlying t with
  | some (.map _ _) => zvV P t x s fun v => k sc v s
  | _ => zwq P t x fun v => k sc v s
 | .cap, [t], [x] => zwn P t x fun v => k sc v s
 | .delete, [t, _], [x, i] => zsD P t x i s (k sc)
 | .clear, [t], [x] => match P.underlying t with
  | some (.map _ _) => zsB P t x s (k sc)
  | _ => zsC P t x s (k sc)
 | .append, [t, u], [x, y] => bif intT P u then znD P t x y nm s (k sc) else chk (srcT P u) fun _ => match sc with
  | .el [] :: sc => zwo x nm' s fun x s => zpY P t x y nm s sc k
  | sc => zpY P t x y nm s sc k
 | .min, _, x :: l => zvm zvX x l fun v => k sc v s
 | .max, _, x :: l => zvm zvW x l fun v => k sc v s
 | _, _, _ => none
def evOp (P : Program) (C : Cfg) (o : Op) (nm : Nat) (s : St) (k : SV → St → Ans R) : Ans R :=
 match o with
 | .move x => zav (opd s x) fun v => k v s
 | .assign x => zav (opd s x) fun v => k v s
 | .pick c a b => zav (opd s c) fun v => zuX v fun c => match c with
  | true => zav (opd s a) fun v => k v s
  | false => zav (opd s b) fun v => k v s
 | .alloc e => ztT P e nm s k
 | .box e x => zav (opd s x) fun v => zw5 P C e v nm s k
 | .build t ps => zav (opdL s ps.toList) fun l => zrK P t l fun v => k v s
 | .buildSlice t n ps => zav (opdL s ps.toList) fun l => zjz P t n l nm s k
 | .load t a => zav (opd s a) fun v => zmx P t v s fun v => k v s
 | .nilCheck x => zav (opd s x) fun v => wCv v fun c => match c with
  | .pv (.imm _ _) => k v s
  | .ref _ _ => k v s
  | .fn _ _ => k v s
  | _ => none
 | .binOp op t x y _ => zav (opd s x) fun v => bif zqR y then zvY P t op v fun v => k v s else zav (opd s y) fun u => zwm P t op v u fun v => k v s
 | .unOp op _ x => zav (opd s x) fun v => evUn op v fun v => k v s
 | .convert a b x => zav (opd s x) fun v => zqF P a b v nm s k
 | .slice t x lo hi mx => zav (opd s x) fun v => zav (opdO s lo) fun lo => zav (opdO s hi) fun hi => zav (opdO s mx) fun mx =>
   zrQ P t v lo hi mx s fun v => k v s
 | .fieldAddr t x f => zav (opd s x) fun v => znE P t v f fun v => k v s
 | .field t x f => zav (opd s x) fun v => ztU P t v f fun v => k v s
 | .indexAddr t x i => zav (opd s x) fun v => zav (opd s i) fun i => znF P t v i s fun v => k v s
 | .index t x i => zav (opd s x) fun v => zav (opd s i) fun i => chk (zqS P t) fun _ => zrO v i fun v => k v s
 | .extract x i => zav (opd s x) fun v => match v with
  | .tup l => zav (l[i]?) fun a => k (.av a) s
  | _ => none
 | .makeFunc (.func f) first caps => chk first.isEmpty fun _ => zav (opdA s caps.toList) fun l => capL l s fun hs s => k (cone (.fn f hs)) s
 | .makeMap t r => zav (opdO s r) fun r => zqH P t r nm s k
 | .range t x => zav (opd s x) fun v => zsG P t v nm s k
 | .makeSlice t l c => zav (opd s l) fun l => zav (opd s c) fun c => znG P t l c nm s k
 | _ => none
end
end Go.Ev
set_option linter.unusedVariables false
set_option linter.unusedSimpArgs false
namespace Go.Ev
def SV.cells : SV → List CV
 | .av a => a.cells
 | .tup l => l.flatMap AV.cells
def mem (x : Nat) : List Nat → Bool
 | [] => false
 | y :: l => bif Nat.beq x y then true else mem x l
def zoc : List Nat → Bool
 | [] => true
 | x :: l => !(mem x l) && zoc l
def idx (x : Nat) : List Nat → Option Nat
 | [] => none
 | y :: l => bif Nat.beq x y then some 0 else (idx x l).map (· + 1)
def HV.cvs : HV → List CV
 | .ref o off => [.ref o off]
 | .mp o => [.mp o]
 | _ => []
def zfk (objs : List (Nat × Obj)) : Nat → List CV → List Nat → List Nat
 | 0, _, v => v
 | _ + 1, [], v => v
 | n + 1, c :: cs, v => match c with
  | .ref o _ => bif mem o v then zfk objs n cs v else match lkup o objs with
   | some ob => zfk objs n (ob ++ cs) (v ++ [o])
   | none => zfk objs n cs v
  | .mp o => bif mem o v then zfk objs n cs v else match lkup o objs with
   | some ob => zfk objs n (ob ++ cs) (v ++ [o])
   | none => zfk objs n cs v
  | .fn _ caps => zfk objs n (caps.flatMap HV.cvs ++ cs) v
  | _ => zfk objs n cs v
def zik (rows : List (Nat × RowB)) : List CV → List Nat → List Nat
 | [], v => v
 | c :: cs, v => match c with
  | .own r _ _ _ => bif mem r v then zik rows cs v else match lkup r rows with
   | some (.live _) => zik rows cs (v ++ [r])
   | _ => zik rows cs v
  | _ => zik rows cs v
def resC (rows : List (Nat × RowB)) (c : CV) : CV :=
 match c with
 | .own r off n t => match lkup r rows with
  | some (.froz rw) => .pv ((rw.cut off n).pv t)
  | _ => c
 | c => c
def renH (os : List Nat) (h : HV) : HV :=
 match h with
 | .ref o off => match idx o os with
  | some j => .ref j off
  | none => .dead
 | .mp o => match idx o os with
  | some j => .mp j
  | none => .dead
 | h => h
def renC (os rs : List Nat) (c : CV) : CV :=
 match c with
 | .mp o => match idx o os with
  | some j => .mp j
  | none => .dead
 | .fn f caps => .fn f (caps.map (renH os))
 | .stamp _ => .dead
 | .maph kk va ents _ => .maph kk va ents []
 | .ref o off => match idx o os with
  | some j => .ref j off
  | none => .dead
 | .own r off n t => match idx r rs with
  | some j => .own j off n t
  | none => .dead
 | .radr r i fo => match idx r rs with
  | some j => .radr j i fo
  | none => .dead
 | c => c
def AV.map (f : CV → CV) : AV → AV
 | .one c => .one (f c)
 | .agg l => .agg (l.map f)
def SV.map (f : CV → CV) : SV → SV
 | .av a => .av (a.map f)
 | .tup l => .tup (l.map (AV.map f))
def znL (objs : List (Nat × Obj)) : List Nat → Option (List Obj)
 | [] => some []
 | o :: l => match lkup o objs, znL objs l with
  | some ob, some r => some (ob :: r)
  | _, _ => none
def znM (rows : List (Nat × RowB)) : List Nat → Option (List Row)
 | [] => some []
 | o :: l => match lkup o rows, znM rows l with
  | some (.live rw), some r => some (rw :: r)
  | _, _ => none
def zaC {α : Type} (i : Nat) : List α → List (Nat × α)
 | [] => []
 | x :: l => (i, x) :: zaC (i + 1) l
def upTo (i : Nat) : Nat → List Nat
 | 0 => []
 | n + 1 => i :: upTo (i + 1) n
structure Part where
 os : List Nat
 rs : List Nat
 objs : List Obj
 rows : List Row
def pinned (objs : List (Nat × Obj)) : List Nat → List CV
 | [] => []
 | o :: l => (lkup o objs).getD [] ++ pinned objs l
def pinO (m : Nat) : Nat := m % 1000
def pinR (m : Nat) : Nat := m / 1000
def part (pins rpins : List Nat) (roots : List CV) (s : St) : Option Part :=
 let os := zfk s.objs 400 (pinned s.objs pins ++ roots) pins
 let rs := zik s.rows (pinned s.objs os ++ roots) rpins
 match znL s.objs os, znM s.rows rs with
 | some ob, some rw => bif zoc os && zoc rs then some ⟨os, rs, ob.map (·.map fun c => renC os rs (resC s.rows c)), rw⟩ else none
 | _, _ => none
def Part.f (p : Part) (rows : List (Nat × RowB)) (c : CV) : CV := renC p.os p.rs (resC rows c)
def ztk (slots : List (Nat × SV)) : List Nat → List (Nat × SV)
 | [] => []
 | t :: l => match lkup t slots with
  | some v => (t, v) :: ztk slots l
  | none => ztk slots l
def tidy (keep : List Nat) (m : Nat) (s : St) : Option St :=
 let ks := ztk s.slots keep
 match part (upTo 0 (pinO m)) (upTo 0 (pinR m)) (ks.flatMap fun x => x.2.cells) s with
 | some p => some ⟨ks.map fun x => (x.1, x.2.map (p.f s.rows)), zaC 0 p.objs, zaC 0 (p.rows.map .live)⟩
 | none => none
section
variable {R : Type}
def isSl (P : Program) (t : TypeId) : Bool := match P.underlying t with | some (.slice _) => true | _ => false
def ztu (lend give sl : Bool) (c : CV) (s : St) (k : CV → St → Ans R) : Ans R :=
 match c with
 | .own r off n t => zav (lkup r s.rows) fun rb => match rb with
  | .live rw => bif lend then k (.bor ((rw.cut off n).pv t)) s else bif give then k (.own r off n t) s else k (.pv ((rw.cut off n).pv t)) { s with rows := (r, .froz rw) :: s.rows }
  | .froz rw => bif lend && sl then k (.bor ((rw.cut off n).pv t)) s else k (.pv ((rw.cut off n).pv t)) s
  | .gone => none
 | .pv p => bif lend && sl then k (.bor p) s else k (.pv p) s
 | .bor p => k (.bor p) s
 | .ref o off => k (.ref o off) s
 | .mp o => k (.mp o) s
 | .fn f caps => k (.fn f caps) s
 | _ => none
def zvB (lend give : Bool) (cs : List CV) (s : St) (k : List CV → St → Ans R) : Ans R :=
 match cs with
 | [] => k [] s
 | c :: cs => ztu lend give false c s fun c s => zvB lend give cs s fun cs s => k (c :: cs) s
def ztt (P : Program) (lend give : Bool) : List SV → List TypeId → St → (List AV → St → Ans R) → Ans R
 | [], _, s, k => k [] s
 | .av (.one c) :: xs, ts, s, k => ztu lend give (match ts with | t :: _ => isSl P t | [] => false) c s fun c s => ztt P lend give xs ts.tail s fun as_ s => k (.one c :: as_) s
 | .av (.agg l) :: xs, ts, s, k => zvB lend give l s fun l s => ztt P lend give xs ts.tail s fun as_ s => k (.agg l :: as_) s
 | .tup _ :: _, _, _, _ => none
def zwd (os : List Nat) (nm : Nat → Nat) (h : HV) : HV :=
 match h with
 | .ref o off => match os[o]? with
  | some x => .ref x off
  | none => .ref (nm o) off
 | .mp o => match os[o]? with
  | some x => .mp x
  | none => .mp (nm o)
 | h => h
def zmH (os : List Nat) (nm : Nat → Nat) (c : CV) : CV :=
 match c with
 | .mp o => match os[o]? with
  | some x => .mp x
  | none => .mp (nm o)
 | .fn f caps => .fn f (caps.map (zwd os nm))
 | .maph kk va ents _ => .maph kk va ents []
 | .ref o off => match os[o]? with
  | some x => .ref x off
  | none => .ref (nm o) off
 | .own r off n t => .own (nm r) off n t
 | c => c
def zpq (os : List Nat) (nm : Nat → Nat) (i : Nat) : Nat := match os[i]? with | some x => x | none => nm i
def zel (os : List Nat) (nm : Nat → Nat) (i : Nat) : List Obj → List (Nat × Obj)
 | [] => []
 | ob :: l => (zpq os nm i, ob.map (zmH os nm)) :: zel os nm (i + 1) l
def zgg (nm : Nat → Nat) (i : Nat) : List Row → List (Nat × RowB)
 | [] => []
 | r :: l => (nm i, .live r) :: zgg nm (i + 1) l
def ze6 : List Nat → List (Nat × RowB)
 | [] => []
 | r :: l => (r, .gone) :: ze6 l
def zge : List AV → SV
 | [a] => .av a
 | l => .tup l
structure Env where
 P : Program
 C : Cfg
 call : zu2
 L : Code → St → Ex → St → Prop
 keep : List (Nat × List Nat)
 head : List (Nat × (List Nat × List (Nat × Row)))
 m : Nat
 nt : Nat
def same (s s' : St) (x : Ans R) : Ans R :=
 match x with
 | some (r, ps) => some (r, .e s s' :: ps)
 | none => none
def zq0 (xs : List SV) (rs : List Nat) : Bool :=
 (xs.flatMap SV.cells).all fun c => match c with
  | .own r _ _ _ => !(mem r rs)
  | _ => true
def zsA (V : Env) (f : FuncId) (xs : List SV) (ts : List TypeId) (nm : Nat → Nat) (s : St) (sc : List Ev) (k : List Ev → SV → St → Ans R) : Ans R :=
 ztt V.P (mem f V.C.bor) (mem f V.C.give) xs ts s fun as_ s =>
  match part [] [] (as_.flatMap AV.cells) s, sc with
  | some p, .res r :: sc => chk (!(mem f V.C.bor) || zq0 xs p.rs) fun _ =>
   obl (V.call false f (as_.map (AV.map (p.f s.rows))) p.objs p.rows r) (chk (Nat.ble p.objs.length r.2.1.length) fun _ =>
    k sc (zge (r.1.map (AV.map (zmH p.os nm)))) { s with objs := zel p.os nm 0 r.2.1 ++ s.objs, rows := zgg nm 0 r.2.2 ++ ze6 p.rs ++ s.rows })
  | _, _ => none
def ztY : AV → Bool
 | .one (.pv (.int _ _)) => true
 | .one (.pv (.bool _)) => true
 | .one (.pv (.str _)) => true
 | _ => false
def zrL (V : Env) (f : FuncId) (xs : List SV) (ts : List TypeId) (r : Res) (s : St) (k : SV → St → Ans R) : Ans R :=
 ztt V.P false true xs ts s fun as_ s =>
  match part [] [] (as_.flatMap AV.cells) s with
  | some p => match p.os, p.rs, p.rows, r with
   | [], [q], [_], (avs, [], [rw']) => chk (avs.all ztY) fun _ => obl (V.call true f (as_.map (AV.map (p.f s.rows))) p.objs p.rows r) (k (zge avs) { s with rows := (q, .live rw') :: s.rows })
   | _, _, _, _ => none
  | none => none
def zrP (P : Program) (t : TypeId) (v : SV) (s : St) (sc : List Ev) (k : List Ev → SV → Ans R) : Ans R :=
 match v, sc with
 | .av (.one (.iadr (.recs _ l _) i fo)), .el (q :: ps) :: sc => obl (l.getD i [] = q :: ps) (zav (zeZ P t) fun ti => zsm (q :: ps) fo ti.size fun cs => toAv ti.agg cs fun a => k sc (.av a))
 | .av (.one (.radr r i fo)), .el (q :: ps) :: sc => zav (lkup r s.rows) fun rb => match rb with
  | .live (.recs _ l) => obl (l.getD i [] = q :: ps) (zav (zeZ P t) fun ti => zsm (q :: ps) fo ti.size fun cs => toAv ti.agg cs fun a => k sc (.av a))
  | .froz (.recs _ l) => obl (l.getD i [] = q :: ps) (zav (zeZ P t) fun ti => zsm (q :: ps) fo ti.size fun cs => toAv ti.agg cs fun a => k sc (.av a))
  | _ => none
 | v, sc => zmx P t v s (k sc)
def zvf (V : Env) (o : Op) (nm : Nat → Nat) (s : St) (sc : List Ev) (k : List Ev → SV → St → Ans R) : Ans R :=
 match o with
 | .call { callee := .value (.func f), args, argTypes } => zav (opdA s args.toList) fun xs => match sc with
  | .el [] :: .res r :: sc => zrL V f xs argTypes.toList r s (k sc)
  | sc => zsA V f xs argTypes.toList nm s sc k
 | .call { callee := .builtin b, args, argTypes } => zav (opdA s args.toList) fun xs => zlj V.P b argTypes.toList xs (nm 0) (nm 1) s sc k
 | .call { callee := .value (.tmp t), args, argTypes } => zav (lkup t s.slots) fun v => wCv v fun c => match c with
  | .fn f caps => zav (opdA s args.toList) fun xs => zav (capS caps) fun ys => zsA V f (xs ++ ys) argTypes.toList nm s sc k
  | _ => none
 | .lookup t x i ok => zav (opd s x) fun x => zav (opd s i) fun i => zsF V.P t x i ok s sc fun sc v => k sc v s
 | .mapUpdate t m i x => zav (opd s m) fun m => zav (opd s i) fun i => zav (opd s x) fun v => zkS V.P t m i v s fun s => k sc (.tup []) s
 | .insert t m i x => zav (opd s m) fun m => zav (opd s i) fun i => zav (opd s x) fun v => zkS V.P t m i v s fun s => k sc (.tup []) s
 | .mapEntry t m i => zav (opd s m) fun m => zav (opd s i) fun i => zpi V.P t m i (nm 0) s sc k
 | .entryStore _ m i x => zav (opd s m) fun m => zav (opd s i) fun i => zav (opd s x) fun v => zmw m i v s fun s => k sc (.tup []) s
 | .next it true => zav (opd s it) fun v => ztV v s sc k
 | .store t a x => zav (opd s a) fun a => zav (opd s x) fun v => ztX V.P t a v s fun s => k sc (.tup []) s
 | .load t a => zav (opd s a) fun v => zrP V.P t v s sc fun sc v => k sc v s
 | o => evOp V.P V.C o (nm 0) s (k sc)
def zvj (nt : Nat) (d : Option Tmp) (v : SV) (s : St) (k : St → Ans R) : Ans R :=
 match d with
 | some t => chk (Nat.blt t nt) fun _ => k { s with slots := (t, v) :: s.slots }
 | none => k s
def zrN (ops : Array Oper) (g : Option (Nat × Bool)) (s : St) (sc : List Ev) (k : List Ev → Bool → St → Ans R) : Ans R :=
 match g with
 | none => k sc true s
 | some (j, want) =>
  match (ops[j]?).bind (·.dst) with
  | none => none
  | some d => match lkup d s.slots with
   | some (.tup _) => k sc false s
   | some (.av (.one (.pv (.bool true)))) => k sc (want == true) s
   | some (.av (.one (.pv (.bool false)))) => k sc (want == false) s
   | _ => none
def zqI (V : Env) (ops : Array Oper) (o : Oper) (nm : Nat → Nat) (s : St) (sc : List Ev) (k : List Ev → St → Ans R) : Ans R :=
 zrN ops o.guard s sc fun sc b s =>
  match b with
  | true => zvf V o.op nm s sc fun sc v s => zvj V.nt o.dst v s (k sc)
  | false => zvj V.nt o.dst (.tup []) s (k sc)
def zt6 (ops : Array Oper) (t : Option Tmp) : Bool :=
 match t with
 | none => false
 | some t => ops.toList.any fun o => match o.guard with
  | some (j, _) => match (ops[j]?).bind (·.dst) with
   | some d => Nat.beq d t
   | none => false
  | none => false
def zlk (ops : Array Oper) (o : Oper) (s : St) (sc : List Ev) (k : List Ev → St → Ans R) : Ans R :=
 bif zt6 ops o.dst then
  match o.dst with
  | some d => match lkup d s.slots, sc with
   | some (.av (.one (.pv (.bool b)))), .br x :: sc => obl (b = x) (k sc { s with slots := (d, zo9 x) :: s.slots })
   | some (.tup []), sc => k sc s
   | _, _ => none
  | none => none
 else k sc s
def zvh (V : Env) (ops : Array Oper) (base n : Nat) : Nat → List Oper → St → List Ev → (List Ev → St → Ans R) → Ans R
 | _, [], s, sc, k => k sc s
 | i, o :: l, s, sc, k => zqI V ops o (fun j => base + i + n * j) s sc fun sc s => zlk ops o s sc fun sc s => zvh V ops base n (i + 1) l s sc k
def delK {α : Type} (x : Nat) : List (Nat × α) → List (Nat × α)
 | [] => []
 | (y, v) :: l => bif Nat.beq x y then delK x l else (y, v) :: delK x l
def frz1 (m t : Nat) (s : St) : St :=
 match lkup t s.slots with
 | some (.av (.one (.ref o 0))) => bif Nat.ble (pinO m) o then (match lkup o s.objs with
  | some (c :: cs) => match zoj (c :: cs) with
   | some ps => { s with slots := (t, pone (.imm ps 0)) :: s.slots, objs := delK o s.objs }
   | none => s
  | _ => s) else s
 | _ => s
def frzS (m : Nat) : List Nat → St → St
 | [], s => s
 | t :: l, s => bif Nat.ble 3000000 t then frzS m l (frz1 m (t - 3000000) s) else frzS m l s
def zqJ (V : Env) (keep : List Nat) (s : St) (k : St → Ans R) : Ans R :=
 match tidy keep V.m (frzS V.m keep s) with
 | some s => k s
 | none => none
def zwy (t : Nat) (r : Row) (nm : Nat) (s : St) : St :=
 bif Nat.beq r.len 0 && Nat.blt 0 r.esz then
  bif Nat.blt t 1000000 then
   match lkup t s.slots with
   | some (.av (.one (.pv .nils))) => { s with slots := (t, cone (.own nm 0 0 false)) :: s.slots, rows := (nm, .live r) :: s.rows }
   | _ => s
  else bif Nat.blt t 1000000000 then
   match lkup ((t - 1000000) / 1000) s.objs with
   | some l => match l[(t - 1000000) % 1000]? with
    | some (.pv .nils) => { s with objs := ((t - 1000000) / 1000, l.set ((t - 1000000) % 1000) (.own nm 0 0 false)) :: s.objs, rows := (nm, .live r) :: s.rows }
    | _ => s
   | _ => s
  else
   match lkup ((t - 1000000000) / 1000) s.objs with
   | some l => match l[(t - 1000000000) % 1000]? with
    | some (.pv .nils) => { s with objs := ((t - 1000000000) / 1000, l.set ((t - 1000000000) % 1000) (.pv (r.pv false))) :: s.objs }
    | some (.own q _ _ _) => match lkup q s.rows with
     | some (.live rw) => { s with rows := (q, .froz rw) :: s.rows }
     | _ => s
    | _ => s
   | _ => s
 else s
def zwz : List (Nat × Row) → Nat → St → St
 | [], _, s => s
 | (t, r) :: l, nm, s => zwz l (nm + 1) (zwy t r nm s)
def zl1 (V : Env) (h : List Nat × List (Nat × Row)) (s : St) (k : St → Ans R) : Ans R :=
 zqJ V h.1 (zwz h.2 (s.objs.length + s.rows.length) s) k
def told (o : Operand) (b : Bool) (s : St) : St :=
 match o with
 | .tmp t => { s with slots := (t, zo9 b) :: s.slots }
 | _ => s
def zp1 (V : Env) (id : Nat) (ops : Array Oper) (s : St) (sc : List Ev) (k : List Ev → St → Ans R) : Ans R :=
 zvh V ops (s.objs.length + s.rows.length) ops.size 0 ops.toList s sc fun sc s => zqJ V ((lkup id V.keep).getD []) s fun s => k sc s
def mask : List Nat → Nat
 | [] => 0
 | i :: l => Nat.lor (Nat.shiftLeft 1 i) (mask l)
def memM (m i : Nat) : Bool := Nat.beq (Nat.land (Nat.shiftRight m i) 1) 1
def deps : List Edge → List Nat
 | [] => []
 | e :: l => bif Region.binds .any e then e.on :: deps l else deps l
def zlZ (o : Oper) : Nat := mask (deps o.after.toList)
def zvQ (ol : List Oper) (j i : Nat) : Bool :=
 match ol[j]? with
 | some o => memM (zlZ o) i
 | none => false
def rdy (ol : List Oper) (done : List Nat) : Nat → List Oper → List Nat
 | _, [] => []
 | i, o :: l => bif !(memM (mask done) i) && Nat.beq (Nat.land (zlZ o) (mask done)) (zlZ o) then i :: rdy ol done (i + 1) l else rdy ol done (i + 1) l
def zm8 (ops : Array Oper) (ol : List Oper) : Bool :=
 (upTo 0 ol.length).all fun i => (upTo 0 ol.length).all fun j => Nat.beq i j || zvQ ol j i || zvQ ol i j ||
  match ol[i]?, ol[j]? with
  | some a, some b => a.apart ops b
  | _, _ => true
def zwG (ol : List Oper) : Bool := ol.all fun o => match o.op with
 | .select _ _ => false
 | _ => true
def zet (P : Program) (o : Op) (s : St) : Bool :=
 match o with
 | .move _ => true
 | .assign _ => true
 | .pick _ _ _ => true
 | .nilCheck _ => true
 | .binOp _ _ _ _ _ => true
 | .unOp _ _ _ => true
 | .slice _ _ _ _ _ => true
 | .fieldAddr _ _ _ => true
 | .field _ _ _ => true
 | .indexAddr _ _ _ => true
 | .index _ _ _ => true
 | .extract _ _ => true
 | .build _ _ => true
 | .convert _ t _ => match P.underlying t with
  | some (.int _) => true
  | _ => false
 | .load _ a => match opd s a with
  | some (.av (.one (.pv (.imm _ _)))) => true
  | some (.av (.one (.iadr _ _ _))) => true
  | _ => false
 | .call { callee := .builtin b, argTypes, .. } => match b with
  | .len => match argTypes.toList with
   | [t] => match P.underlying t with
    | some (.map _ _) => false
    | _ => true
   | _ => true
  | .min => true
  | .max => true
  | _ => false
 | _ => false
def zfW (P : Program) (ol : List Oper) (s : St) : List Nat → Option Nat
 | [] => none
 | i :: l => match ol[i]? with
  | some o => bif zet P o.op s then some i else zfW P ol s l
  | none => none
def zrF {A : Type} (x : Ans A) (k : A → Ans R) : Ans R :=
 match x with
 | some (a, ps) => match k a with
  | some (r, qs) => some (r, ps ++ qs)
  | none => none
 | none => none
def ins (i : Nat) : List Nat → List Nat
 | [] => [i]
 | j :: l => bif Nat.ble i j then i :: j :: l else j :: ins i l
def insK {α : Type} (k : Nat) (v : α) : List (Nat × α) → List (Nat × α)
 | [] => [(k, v)]
 | (y, u) :: l => bif Nat.beq k y then (k, v) :: l else bif Nat.ble k y then (k, v) :: (y, u) :: l else (y, u) :: insK k v l
def ztF {α : Type} : List (Nat × α) → List (Nat × α)
 | [] => []
 | (k, v) :: l => insK k v (ztF l)
def St.canon (s : St) : St := ⟨ztF s.slots, ztF s.objs, ztF s.rows⟩
def eqL : List Nat → List Nat → Bool
 | [], [] => true
 | i :: l, j :: m => bif Nat.beq i j then eqL l m else false
 | _, _ => false
abbrev Tab := List (List Nat × St)
def lkT (d : List Nat) : Tab → Option St
 | [] => none
 | (e, s) :: t => bif Nat.beq (mask d) (mask e) then (bif eqL d e then some s else lkT d t) else lkT d t
def addT (d : List Nat) (s : St) (t : Tab) : Ans Tab :=
 match lkT d t with
 | some s' => same s.canon s' (some (t, []))
 | none => some ((d, s.canon) :: t, [])
def ztW (V : Env) (ops : Array Oper) (ol : List Oper) (base n : Nat) (s : St) (i : Nat) (sc : List Ev) : Ans (List Ev × St) :=
 zav (ol[i]?) fun o => zqI V ops o (fun j => base + i + n * j) s sc fun sc s => zlk ops o s sc fun sc s => some ((sc, s), [])
def zsE (V : Env) (ops : Array Oper) (ol : List Oper) (base n : Nat) (d : List Nat) (s : St) : List Nat → List Ev → Tab → Ans (List Ev × Tab)
 | [], sc, t => some ((sc, t), [])
 | i :: l, sc, t => zrF (ztW V ops ol base n s i sc) fun z => zrF (addT (ins i d) z.2 t) fun t => zsE V ops ol base n d s l z.1 t
def zpZ (V : Env) (ops : Array Oper) (ol : List Oper) (base n : Nat) : Tab → List Ev → Tab → Ans (List Ev × Tab)
 | [], sc, t => some ((sc, t), [])
 | (d, s) :: l, sc, t => match rdy ol d 0 ol with
  | [] => none
  | i :: r => zrF (zsE V ops ol base n d s (match zfW V.P ol s (i :: r) with | some i => [i] | none => i :: r) sc t) fun z => zpZ V ops ol base n l z.1 z.2
def zqG (V : Env) (ops : Array Oper) (ol : List Oper) (base n : Nat) (keep : List Nat) : Nat → Tab → List Ev → Ans (List Ev × St)
 | 0, [(d, s)], sc => match rdy ol d 0 ol with
  | [] => zqJ V keep s fun s => some ((sc, s), [])
  | _ :: _ => none
 | 0, _, _ => none
 | f + 1, t, sc => zrF (zpZ V ops ol base n t sc []) fun z => zqG V ops ol base n keep f z.2 z.1
def zrM (V : Env) (id : Nat) (ops : Array Oper) (s : St) (sc : List Ev) (k : List Ev → St → Ans R) : Ans R :=
 chk (V.P.follows .mixedOrders && zwG ops.toList && zm8 ops ops.toList) fun _ =>
  zrF (zqG V ops ops.toList (s.objs.length + s.rows.length) ops.size ((lkup id V.keep).getD []) ops.size [([], s)] sc) fun z => k z.1 z.2
def znJ : Code → Nat
 | .region id _ _ => id
 | .seq a _ => znJ a
 | .block _ c => znJ c
 | .loop c => znJ c
 | .scope c => znJ c
 | _ => 0
def labs : Code → List Nat
 | .label l => [l]
 | .seq a b => labs a ++ labs b
 | _ => []
def zgy (V : Env) : Code → Bool → St → List Ev → (List Ev → Ex → St → Ans R) → Ans R
 | .skip, _, s, sc, k => k sc .normal s
 | .label l, j, s, sc, k => bif j then k sc (.goto l) s else k sc .normal s
 | .region id ops draw, _, s, sc, k => bif draw then zrM V id ops s sc fun sc s => k sc .normal s else zp1 V id ops s sc fun sc s => k sc .normal s
 | .seq a b, j, s, sc, k => zgy V a j s sc fun sc e s => match e with
  | .normal => zgy V b j s sc k
  | e => k sc e s
 | .cond c x y, _, s, sc, k => zav (opd s c) fun v => zuX v fun b => match sc with
  | .br true :: sc => obl (b = true) (zgy V x false (told c true s) sc k)
  | .br false :: sc => obl (b = false) (zgy V y false (told c false s) sc k)
  | .lp e s' :: sc => match c with
   | .tmp t => zl1 V ((lkup (2000000 + t) V.head).getD ([], [])) s fun s => obl (V.L (.cond (.tmp t) x y) s e s') (k sc e s')
   | _ => none
  | _ => none
 | .block id c, _, s, sc, k => zgy V c false s sc fun sc e s => match e with
  | .exit i => bif Nat.beq i id then k sc .normal s else k sc e s
  | e => k sc e s
 | .exit id, _, s, sc, k => k sc (.exit id) s
 | .goto l, _, s, sc, k => k sc (.goto l) s
 | .ret, _, s, sc, k => k sc .ret s
 | .loop c, _, s, sc, k => zl1 V ((lkup (znJ c) V.head).getD ([], [])) s fun s => match sc with
  | .lp e s' :: sc => obl (V.L (.loop c) s e s') (k sc e s')
  | _ => none
 | .scope c, _, s, sc, k => match labs c with
  | [l] => zgy V c true s sc fun sc e s => match e with
   | .goto l' => chk (Nat.beq l' l) fun _ => zl1 V ((lkup (1000000 + l) V.head).getD ([], [])) s fun s => match sc with
    | .lp e s' :: sc => obl (V.L (.scope c) s e s') (k sc e s')
    | _ => none
   | e => k sc e s
  | _ => none
 | _, _, _, _, _ => none
def zvi (P : Program) (s : St) (x : ResultVar) (k : AV → Ans R) : Ans R :=
 match x with
 | .tmp t => zav (lkup t s.slots) fun v => wAv v k
 | .cell a t => zav (lkup a s.slots) fun v => zmx P t v s fun v => wAv v k
def znH (P : Program) (s : St) : List ResultVar → (List AV → Ans R) → Ans R
 | [], k => k []
 | x :: l, k => zvi P s x fun a => znH P s l fun as_ => k (a :: as_)
def zm4 : CV → Bool
 | .bor _ => false
 | .iadr _ _ _ => false
 | .radr _ _ _ => false
 | .stamp _ => false
 | _ => true
def zhy (r : Res) : Bool := (r.1.flatMap AV.cells).all zm4 && r.2.1.all fun l => l.all zm4
def zvg (P : Program) (m : Nat) (rs : List ResultVar) (s : St) : Ans Res :=
 znH P s rs fun as_ =>
  match part (upTo 0 (pinO m)) (upTo 0 (pinR m)) (as_.flatMap AV.cells) s with
  | some p => some ((as_.map (AV.map (p.f s.rows)), p.objs, p.rows), [])
  | none => none
def sift (b : R → Bool) (x : Ans R) : Ans R :=
 match x with
 | some (r, ps) => bif b r then some (r, ps) else none
 | none => none
def zwD (P : Program) (C : Cfg) (call : zu2) (L : Code → St → Ex → St → Prop) (f : FuncId) (m : Nat) : Env := ⟨P, C, call, L, C.keep f, C.head f, m, match P.funcs[f]? with | some fn => fn.ntmps | none => 0⟩
def evFn (P : Program) (C : Cfg) (call : zu2) (L : Code → St → Ex → St → Prop) (f : FuncId) (as_ : List AV) (objs : List Obj) (rows : List Row) (sc : List Ev) : Ans Res :=
 match P.funcs[f]? with
 | none => none
 | some fn => match fn.body with
  | none => none
  | some c => chk (!(fn.name == "runtime.NumGoroutine") && Nat.blt objs.length 1000) fun _ => sift (fun r => zhy r && Nat.ble objs.length r.2.1.length) <|
   zgy (zwD P C call L f objs.length) c false ⟨zaC 0 (as_.map .av), zaC 0 objs, zaC 0 (rows.map .live)⟩ sc fun _ e s => match e with
    | .normal => zvg P objs.length fn.results.toList s
    | .ret => zvg P objs.length fn.results.toList s
    | _ => none
def zl0 (V : Env) (c : Code) (s : St) (sc : List Ev) : Ans (Ex × St) :=
 zgy V c false s sc fun _ e s => match e with
  | .normal => zl1 V ((lkup (znJ c) V.head).getD ([], [])) s fun s => some ((.normal, s), [])
  | e => some ((e, s), [])
end
def zp0 (V : Env) (t : Nat) (x y : Code) (s : St) (sc : List Ev) : Ans (Ex × St) :=
 zgy V (.cond (.tmp t) x y) false s sc fun _ e s => match e with
  | .normal => zl1 V ((lkup (3000000 + t) V.head).getD ([], [])) s fun s => some ((.normal, s), [])
  | e => some ((e, s), [])
def zo8 : Code → List (Nat × Code)
 | .seq a b => zo8 a ++ zo8 b
 | .cond _ a b => zo8 a ++ zo8 b
 | .block _ c => zo8 c
 | .loop c => (znJ c, c) :: zo8 c
 | .scope c => zo8 c
 | _ => []
def zax (P : Program) (f : FuncId) (i : Nat) : Code :=
 match P.funcs[f]? with
 | none => .skip
 | some fn => match fn.body with
  | none => .skip
  | some c => match (zo8 c)[i]? with
   | some x => x.2
   | none => .skip
def zoV : Code → List (Nat × Code × Code)
 | .seq a b => zoV a ++ zoV b
 | .cond o a b => match o with
  | .tmp t => (t, a, b) :: (zoV a ++ zoV b)
  | _ => zoV a ++ zoV b
 | .block _ c => zoV c
 | .loop c => zoV c
 | .scope c => zoV c
 | _ => []
def zgM (P : Program) (f : FuncId) (t : Nat) : Code × Code :=
 match P.funcs[f]? with
 | none => (.skip, .skip)
 | some fn => match fn.body with
  | none => (.skip, .skip)
  | some c => (lkup t (zoV c)).getD (.skip, .skip)
end Go.Ev
set_option linter.unusedVariables false
set_option linter.unusedSimpArgs false
set_option linter.unusedSectionVars false
namespace Go.Ev
open Go.RowKit (Below)
def SlAt (w : World) (ok : Nat → Prop) (n : Nat) (t : Bool) (v : Value) (F : (Nat → Option Value) → Prop) : Prop :=
 (v = .slice none 0 0 ∧ n = 0) ∨
 ∃ b o cap, ∃ sp, v = .slice (some ⟨b, o, sp⟩) n cap ∧ n ≤ cap ∧ (t = true → cap = n) ∧ (0 < n → sp = none ∧ ok b ∧ F fun i => w.cell? ⟨b, o + i, none⟩)
mutual
def RepP (w : World) (ok : Nat → Prop) : (Nat → Prop) → PV → Value → Prop
 | _, .bool b, v => v = .bool b
 | _, .int k n, v => v = .int k n
 | _, .str s, v => v = .string s
 | _, .nilp, v => v = .pointer none
 | _, .imm cells off, v => ∃ b o, v = .pointer (some ⟨b, o + off, none⟩) ∧ ok b ∧ zbx w ok cells fun i => w.cell? ⟨b, o + i, none⟩
 | _, .nils, v => v = .slice none 0 0
 | _, .nilI, v => v = .nilIface
 | _, .nilm, v => v = .map none
 | _, .errI, v => ∃ t u, v = .iface t u
 | _, .emp, v => ∃ b o cap, ∃ sp, v = .slice (some ⟨b, o, sp⟩) 0 cap
 | okr, .ints k l t, v => SlAt w okr l.length t v fun f => ∀ i, i < l.length → f i = some (.int k (l.getD i 0))
 | okr, .bools l t, v => SlAt w okr l.length t v fun f => ∀ i, i < l.length → f i = some (.bool (l.getD i false))
 | okr, .recs sz l t, v => SlAt w okr l.length t v fun f => za4 w ok sz l f
def zbx (w : World) (ok : Nat → Prop) : List PV → (Nat → Option Value) → Prop
 | [], _ => True
 | p :: ps, f => (∃ v, f 0 = some v ∧ RepP w ok ok p v) ∧ zbx w ok ps fun i => f (i + 1)
def za4 (w : World) (ok : Nat → Prop) (sz : Nat) : List (List PV) → (Nat → Option Value) → Prop
 | [], _ => True
 | e :: l, f => e.length = sz ∧ zbx w ok e f ∧ za4 w ok sz l fun i => f (i + sz)
end
theorem SlAt.mono {w w' : World} {ok ok' : Nat → Prop} {n : Nat} {t : Bool} {v : Value} {F F' : (Nat → Option Value) → Prop}
  (h : SlAt w ok n t v F) (hk : ∀ b, ok b → ok' b) (hF : ∀ b o, ok b → F (fun i => w.cell? ⟨b, o + i, none⟩) → F' fun i => w'.cell? ⟨b, o + i, none⟩) : SlAt w' ok' n t v F' := by
 rcases h with h | ⟨b, o, cap, sp, hv, hn, ht, hc⟩
 ·exact .inl h
 ·exact .inr ⟨b, o, cap, sp, hv, hn, ht, fun h0 => ⟨(hc h0).1, hk b (hc h0).2.1, hF b o (hc h0).2.1 (hc h0).2.2⟩⟩
mutual
theorem RepP.mono {w w' : World} {ok ok' : Nat → Prop} (hk : ∀ b, ok b → ok' b) (hb : ∀ b, ok b → w'.heap[b]? = w.heap[b]?) :
  ∀ {okr okr' : Nat → Prop}, (∀ b, okr b → okr' b) → (∀ b, okr b → w'.heap[b]? = w.heap[b]?) → ∀ (p : PV) {v : Value}, RepP w ok okr p v → RepP w' ok' okr' p v
 | _, _, _, _, .bool _, _, h => by simpa only [RepP] using h
 | _, _, _, _, .int _ _, _, h => by simpa only [RepP] using h
 | _, _, _, _, .str _, _, h => by simpa only [RepP] using h
 | _, _, _, _, .nilp, _, h => by simpa only [RepP] using h
 | _, _, _, _, .nils, _, h => by simpa only [RepP] using h
 | _, _, _, _, .nilI, _, h => by simpa only [RepP] using h
 | _, _, _, _, .nilm, _, h => by simpa only [RepP] using h
 | _, _, _, _, .errI, _, h => by simpa only [RepP] using h
 | _, _, _, _, .emp, _, h => by simpa only [RepP] using h
 | _, _, _, _, .imm cells off, v, h => by
  simp only [RepP] at h ⊢
  obtain ⟨b, o, hv, hb', hc⟩ := h
  refine ⟨b, o, hv, hk b hb', ?_⟩
  have : (fun i => w'.cell? ⟨b, o + i, none⟩) = fun i => w.cell? ⟨b, o + i, none⟩ := funext fun i => World.cell?_of_block (a := ⟨b, o + i, none⟩) (hb b hb')
  rw [this]
  exact zbx.mono hk hb cells hc
 | _, _, hr, hrb, .ints k l t, v, h => by
  simp only [RepP] at h ⊢
  refine h.mono hr fun b o hb' hf i hi => ?_
  have := hf i hi
  dsimp only at this ⊢
  rw [World.cell?_of_block (a := ⟨b, o + i, none⟩) (hrb b hb')]
  exact this
 | _, _, hr, hrb, .bools l t, v, h => by
  simp only [RepP] at h ⊢
  refine h.mono hr fun b o hb' hf i hi => ?_
  have := hf i hi
  dsimp only at this ⊢
  rw [World.cell?_of_block (a := ⟨b, o + i, none⟩) (hrb b hb')]
  exact this
 | _, _, hr, hrb, .recs sz l t, v, h => by
  simp only [RepP] at h ⊢
  refine h.mono hr fun b o hb' hf => ?_
  have : (fun i => w'.cell? ⟨b, o + i, none⟩) = fun i => w.cell? ⟨b, o + i, none⟩ := funext fun i => World.cell?_of_block (a := ⟨b, o + i, none⟩) (hrb b hb')
  rw [this]
  exact za4.mono hk hb sz l hf
theorem zbx.mono {w w' : World} {ok ok' : Nat → Prop} (hk : ∀ b, ok b → ok' b) (hb : ∀ b, ok b → w'.heap[b]? = w.heap[b]?) :
  ∀ (ps : List PV) {f : Nat → Option Value}, zbx w ok ps f → zbx w' ok' ps f
 | [], _, _ => by simp only [zbx]
 | p :: ps, f, h => by
  simp only [zbx] at h ⊢
  obtain ⟨⟨v, hv, hp⟩, hs⟩ := h
  exact ⟨⟨v, hv, RepP.mono hk hb hk hb p hp⟩, zbx.mono hk hb ps hs⟩
theorem za4.mono {w w' : World} {ok ok' : Nat → Prop} (hk : ∀ b, ok b → ok' b) (hb : ∀ b, ok b → w'.heap[b]? = w.heap[b]?) (sz : Nat) :
  ∀ (l : List (List PV)) {f : Nat → Option Value}, za4 w ok sz l f → za4 w' ok' sz l f
 | [], _, _ => by simp only [za4]
 | e :: l, f, h => by
  simp only [za4] at h ⊢
  exact ⟨h.1, zbx.mono hk hb e h.2.1, za4.mono hk hb sz l h.2.2⟩
end
def RepV (w : World) (ok : Nat → Prop) (a : Bool) (ps : List PV) (v : Value) : Prop :=
 ∃ cs, (if a = true then v = .agg cs else cs = #[v]) ∧ cs.size = ps.length ∧ zbx w ok ps fun i => cs[i]?
theorem RepV.mono {w w' : World} {ok ok' : Nat → Prop} (hk : ∀ b, ok b → ok' b) (hb : ∀ b, ok b → w'.heap[b]? = w.heap[b]?) {a : Bool} {ps : List PV} {v : Value} (h : RepV w ok a ps v) : RepV w' ok' a ps v := by
 obtain ⟨cs, h1, h2, h3⟩ := h
 exact ⟨cs, h1, h2, zbx.mono hk hb ps h3⟩
def zdI (w : World) (ok : Nat → Prop) (kk : KK) (va : Bool) : List (List PV × List PV) → List MapEntry → Prop
 | [], [] => True
 | e :: l, m :: ms => (zhq kk e.1 = true ∧ RepV w ok kk.ag e.1 m.key ∧ RepV w ok va e.2 m.val) ∧ zdI w ok kk va l ms
 | _, _ => False
theorem zdI.mono {w w' : World} {ok ok' : Nat → Prop} {kk : KK} {va : Bool} (hk : ∀ b, ok b → ok' b) (hb : ∀ b, ok b → w'.heap[b]? = w.heap[b]?) :
  ∀ {l : List (List PV × List PV)} {ms : List MapEntry}, zdI w ok kk va l ms → zdI w' ok' kk va l ms
 | [], [], _ => trivial
 | _ :: _, _ :: _, h => ⟨⟨h.1.1, h.1.2.1.mono hk hb, h.1.2.2.mono hk hb⟩, zdI.mono hk hb h.2⟩
theorem RepP.weak {w : World} {ok okr okr' : Nat → Prop} (h : ∀ b, okr b → okr' b) {p : PV} {v : Value} (hp : RepP w ok okr p v) : RepP w ok okr' p v :=
 RepP.mono (fun _ h => h) (fun _ _ => rfl) h (fun _ _ => rfl) p hp
structure G where
 ob : Nat → Nat
 rb : Nat → Nat
 rs : Nat → Nat
 rc : Nat → Nat
 rl : Nat → Nat
 U : Nat → Prop
structure Cx where
 w : World
 g : G
 S : Nat → Prop
 B : Nat → Prop
def Cx.okP (x : Cx) (b : Nat) : Prop := b < x.w.heap.size ∧ ¬ x.S b ∧ ¬ x.B b
def Cx.okB (x : Cx) (b : Nat) : Prop := b < x.w.heap.size ∧ ¬ x.S b
theorem Cx.okB_of_okP {x : Cx} {b : Nat} (h : x.okP b) : x.okB b := ⟨h.1, h.2.1⟩
structure G.Le (g g' : G) : Prop where
 U : ∀ n, g.U n → g'.U n
 ob : ∀ n, g.U n → g'.ob n = g.ob n
 rb : ∀ n, g.U n → g'.rb n = g.rb n
 rs : ∀ n, g.U n → g'.rs n = g.rs n
 rc : ∀ n, g.U n → g'.rc n = g.rc n
 rl : ∀ n, g.U n → g'.rl n = g.rl n
theorem G.Le.refl (g : G) : g.Le g := ⟨fun _ h => h, fun _ _ => rfl, fun _ _ => rfl, fun _ _ => rfl, fun _ _ => rfl, fun _ _ => rfl⟩
theorem G.Le.trans {a b c : G} (h : a.Le b) (k : b.Le c) : a.Le c :=
  ⟨fun n u => k.U n (h.U n u), fun n u => (k.ob n (h.U n u)).trans (h.ob n u), fun n u => (k.rb n (h.U n u)).trans (h.rb n u), fun n u => (k.rs n (h.U n u)).trans (h.rs n u),
   fun n u => (k.rc n (h.U n u)).trans (h.rc n u), fun n u => (k.rl n (h.U n u)).trans (h.rl n u)⟩
class DLaw where
 d : Bool
@[reducible] def dl0 : DLaw := ⟨false⟩
@[reducible] def dl1 : DLaw := ⟨true⟩
section
variable [DLaw]
structure Ext (x y : Cx) : Prop where
 os : y.w.os = x.w.os
 tape : y.w.tape = x.w.tape
 output : y.w.output = x.w.output
 size : x.w.heap.size ≤ y.w.heap.size
 blk : ∀ b, b < x.w.heap.size → ¬ x.S b → y.w.heap[b]? = x.w.heap[b]?
 S : ∀ b, y.S b → x.S b ∨ x.w.heap.size ≤ b
 B : y.B = x.B
 drawn : DLaw.d = true → x.w.drawn ≤ y.w.drawn
theorem Ext.refl (x : Cx) : Ext x x := ⟨rfl, rfl, rfl, Nat.le_refl _, fun _ _ _ => rfl, fun _ h => .inl h, rfl, fun _ => Nat.le_refl _⟩
theorem Ext.trans {x y z : Cx} (h : Ext x y) (k : Ext y z) : Ext x z where
 os := k.os.trans h.os
 tape := k.tape.trans h.tape
 output := k.output.trans h.output
 size := Nat.le_trans h.size k.size
 blk b hb hs := (k.blk b (Nat.lt_of_lt_of_le hb h.size) (fun hy => (h.S b hy).elim hs (fun h => by omega))).trans (h.blk b hb hs)
 S b hz := (k.S b hz).elim (fun hy => h.S b hy) (fun h' => .inr (Nat.le_trans h.size h'))
 B := k.B.trans h.B
 drawn h0 := Nat.le_trans (h.drawn h0) (k.drawn h0)
theorem Ext.okP {x y : Cx} (h : Ext x y) {b : Nat} (hb : x.okP b) : y.okP b :=
 ⟨Nat.lt_of_lt_of_le hb.1 h.size, fun hs => (h.S b hs).elim hb.2.1 (fun h' => by have := hb.1; omega), by rw [h.B]; exact hb.2.2⟩
theorem Ext.okB {x y : Cx} (h : Ext x y) {b : Nat} (hb : x.okB b) : y.okB b :=
 ⟨Nat.lt_of_lt_of_le hb.1 h.size, fun hs => (h.S b hs).elim hb.2 (fun h' => by have := hb.1; omega)⟩
theorem Ext.repP {x y : Cx} (h : Ext x y) {p : PV} {v : Value} (hp : RepP x.w x.okP x.okP p v) : RepP y.w y.okP y.okP p v :=
 RepP.mono (fun _ hb => h.okP hb) (fun b hb => h.blk b hb.1 hb.2.1) (fun _ hb => h.okP hb) (fun b hb => h.blk b hb.1 hb.2.1) p hp
theorem Ext.repB {x y : Cx} (h : Ext x y) {p : PV} {v : Value} (hp : RepP x.w x.okP x.okB p v) : RepP y.w y.okP y.okB p v :=
 RepP.mono (fun _ hb => h.okP hb) (fun b hb => h.blk b hb.1 hb.2.1) (fun _ hb => h.okB hb) (fun b hb => h.blk b hb.1 hb.2) p hp
end
def tabs : List (String × IntKind × List Int) := [("internal/strconv.uint64pow10", .u64, Lib.pow10Tab)]
def errs : List String := ["strconv.ErrSyntax"]
def zvS : List (String × (Nat → Option Value)) := []
def Gd (P : Program) (x : Cx) : Prop :=
 (∀ e ∈ tabs, ∀ g, P.globalNamed e.1 = some g → x.okP g ∧ Lib.TabIs P x.w e.1 e.2.1 e.2.2) ∧
 (∀ e ∈ errs, ∀ g, P.globalNamed e = some g → x.okP g ∧ ∃ ev, x.w.cell? ⟨g, 0, none⟩ = some ev ∧ (ev = .nilIface ∨ ∃ te pe, ev = .iface te pe)) ∧
 (∀ e ∈ zvS, ∀ g, P.globalNamed e.1 = some g → x.okP g ∧ ∀ i v, e.2 i = some v → x.w.cell? ⟨g, i, none⟩ = some v)
theorem Gd.of {P : Program} {x y : Cx} (h : Gd P x) (hk : ∀ b, x.okP b → y.okP b) (hb : ∀ b, x.okP b → y.w.heap[b]? = x.w.heap[b]?) : Gd P y := by
 refine ⟨fun e he g hg => ?_, fun e he g hg => ?_, fun e he g hg => ?_⟩
 ·obtain ⟨h1, h2⟩ := h.1 e he g hg
  refine ⟨hk g h1, ?_⟩
  unfold Lib.TabIs World.var? at h2 ⊢
  rw [hg] at h2 ⊢
  simp only [Option.bind_some] at h2 ⊢
  rw [hb g h1]
  exact h2
 ·obtain ⟨h1, ev, h2, h3⟩ := h.2.1 e he g hg
  exact ⟨hk g h1, ev, by rw [World.cell?_of_block (a := ⟨g, 0, none⟩) (hb g h1)]; exact h2, h3⟩
 ·obtain ⟨h1, h2⟩ := h.2.2 e he g hg
  exact ⟨hk g h1, fun i v hv => by rw [World.cell?_of_block (a := ⟨g, i, none⟩) (hb g h1)]; exact h2 i v hv⟩
theorem Ext.gd [DLaw] {P : Program} {x y : Cx} (hx : Ext x y) (h : Gd P x) : Gd P y := h.of (fun _ hb => hx.okP hb) (fun b hb => hx.blk b hb.1 hb.2.1)
def zbb (w : World) (ok : Nat → Prop) (rw : Row) (f : Nat → Option Value) : Prop :=
 match rw with
 | .ints k l => ∀ i, i < l.length → f i = some (.int k (l.getD i 0))
 | .bools l => ∀ i, i < l.length → f i = some (.bool (l.getD i false))
 | .recs sz l => za4 w ok sz l f
theorem zfb {w : World} {ok okr : Nat → Prop} {rw : Row} {t : Bool} {v : Value} : RepP w ok okr (rw.pv t) v ↔ SlAt w okr rw.len t v (zbb w ok rw) := by
 cases rw <;> simp only [Row.pv, RepP, Row.len] <;> exact Iff.rfl
def ztd (g : G) (r off n : Nat) (t : Bool) (v : Value) : Prop :=
 (v = .slice none 0 0 ∧ n = 0) ∨
 ∃ b o cap, v = .slice (some ⟨b, o, none⟩) n cap ∧ n ≤ cap ∧ (t = true → cap = n) ∧ (0 < cap → b = g.rb r ∧ o = off * g.rs r ∧ (off + cap) * g.rs r ≤ g.rc r)
def RepH (x : Cx) (h : HV) (v : Value) : Prop :=
 match h with
 | .pv a ps => RepV x.w x.okP a ps v
 | .ref o off => x.g.U o ∧ v = .pointer (some ⟨x.g.ob o, off, none⟩)
 | .mp o => x.g.U o ∧ v = .map (some (x.g.ob o))
 | .dead => True
def zni (x : Cx) : List HV → List Value → Prop
 | [], [] => True
 | h :: hs, v :: vs => RepH x h v ∧ zni x hs vs
 | _, _ => False
def RepC (x : Cx) (c : CV) (v : Value) : Prop :=
 match c with
 | .mp o => x.g.U o ∧ v = .map (some (x.g.ob o))
 | .fn f caps => ∃ vs, v = .func (.func f) #[] vs ∧ zni x caps vs.toList
 | .stamp n => x.g.U n ∧ v = .int .i64 (x.g.ob n : Int)
 | .maph _ _ _ _ => False
 | .sit _ _ => False
 | .pv p => RepP x.w x.okP x.okP p v
 | .bor p => RepP x.w x.okP x.okB p v
 | .ref o off => x.g.U o ∧ v = .pointer (some ⟨x.g.ob o, off, none⟩)
 | .own r off n t => x.g.U r ∧ off + n ≤ x.g.rl r ∧ ztd x.g r off n t v
 | .iadr p i fo => ∃ b o n cap, RepP x.w x.okP x.okB p (.slice (some ⟨b, o, none⟩) n cap) ∧ i < n ∧ v = .pointer (some ⟨b, o + i * p.esz + fo, none⟩)
 | .radr r i fo => x.g.U r ∧ i < x.g.rl r ∧ v = .pointer (some ⟨x.g.rb r, i * x.g.rs r + fo, none⟩)
 | .dead => True
def RepL (x : Cx) : List CV → List Value → Prop
 | [], [] => True
 | c :: cs, v :: vs => (v.oneCell' = true ∧ RepC x c v) ∧ RepL x cs vs
 | _, _ => False
def RepA (x : Cx) (a : AV) (v : Value) : Prop :=
 match a with
 | .one c => v.oneCell' = true ∧ RepC x c v
 | .agg l => ∃ cs, v = .agg cs ∧ RepL x l cs.toList
def ze0 (x : Cx) : List AV → List Value → Prop
 | [], [] => True
 | a :: as_, v :: vs => RepA x a v ∧ ze0 x as_ vs
 | _, _ => False
def RepS (x : Cx) (s : SV) (v : Value) : Prop :=
 match s with
 | .av a => RepA x a v
 | .tup l => ∃ vs, v = .tuple vs ∧ ze0 x l vs.toList
def zfN (x : Cx) : List SV → List Value → Prop
 | [], [] => True
 | a :: as_, v :: vs => RepS x a v ∧ zfN x as_ vs
 | _, _ => False
theorem ztd.mono {g g' : G} (h : g.Le g') {r off n : Nat} {t : Bool} {v : Value} (hu : g.U r) (ho : ztd g r off n t v) : ztd g' r off n t v := by
 rcases ho with ho | ⟨b, o, cap, hv, hn, ht, hc⟩
 ·exact .inl ho
 ·refine .inr ⟨b, o, cap, hv, hn, ht, fun h0 => ?_⟩
  rw [h.rb r hu, h.rs r hu, h.rc r hu]
  exact hc h0
theorem RepH.mono [DLaw] {x y : Cx} (h : Ext x y) (hg : x.g.Le y.g) {c : HV} {v : Value} (hc : RepH x c v) : RepH y c v := by
 cases c with
 | pv a ps => exact RepV.mono (fun _ hb => h.okP hb) (fun b hb => h.blk b hb.1 hb.2.1) hc
 | ref o off => exact ⟨hg.U o hc.1, by rw [hg.ob o hc.1]; exact hc.2⟩
 | mp o => exact ⟨hg.U o hc.1, by rw [hg.ob o hc.1]; exact hc.2⟩
 | dead => trivial
theorem zni.mono [DLaw] {x y : Cx} (h : Ext x y) (hg : x.g.Le y.g) : ∀ {l : List HV} {vs : List Value}, zni x l vs → zni y l vs
 | [], [], _ => trivial
 | _ :: _, _ :: _, hl => ⟨hl.1.mono h hg, zni.mono h hg hl.2⟩
theorem RepC.mono [DLaw] {x y : Cx} (h : Ext x y) (hg : x.g.Le y.g) {c : CV} {v : Value} (hc : RepC x c v) : RepC y c v := by
 cases c with
 | pv p => exact h.repP hc
 | bor p => exact h.repB hc
 | ref o off => exact ⟨hg.U o hc.1, by rw [hg.ob o hc.1]; exact hc.2⟩
 | own r off n t => exact ⟨hg.U r hc.1, by rw [hg.rl r hc.1]; exact hc.2.1, hc.2.2.mono hg hc.1⟩
 | iadr p i fo =>
  obtain ⟨b, o, n, cap, hp, hi, hv⟩ := hc
  exact ⟨b, o, n, cap, h.repB hp, hi, hv⟩
 | radr r i fo => exact ⟨hg.U r hc.1, by rw [hg.rl r hc.1]; exact hc.2.1, by rw [hg.rb r hc.1, hg.rs r hc.1]; exact hc.2.2⟩
 | dead => trivial
 | mp o => exact ⟨hg.U o hc.1, by rw [hg.ob o hc.1]; exact hc.2⟩
 | fn f caps => obtain ⟨vs, hv, hl⟩ := hc; exact ⟨vs, hv, hl.mono h hg⟩
 | stamp n => exact ⟨hg.U n hc.1, by rw [hg.ob n hc.1]; exact hc.2⟩
 | maph => exact hc.elim
 | sit => exact hc.elim
theorem RepL.mono [DLaw] {x y : Cx} (h : Ext x y) (hg : x.g.Le y.g) : ∀ {l : List CV} {vs : List Value}, RepL x l vs → RepL y l vs
 | [], [], _ => trivial
 | _ :: _, _ :: _, hl => ⟨⟨hl.1.1, hl.1.2.mono h hg⟩, RepL.mono h hg hl.2⟩
theorem RepA.mono [DLaw] {x y : Cx} (h : Ext x y) (hg : x.g.Le y.g) {a : AV} {v : Value} (ha : RepA x a v) : RepA y a v := by
 cases a with
 | one c => exact ⟨ha.1, ha.2.mono h hg⟩
 | agg l => obtain ⟨cs, hv, hl⟩ := ha; exact ⟨cs, hv, hl.mono h hg⟩
theorem ze0.mono [DLaw] {x y : Cx} (h : Ext x y) (hg : x.g.Le y.g) : ∀ {l : List AV} {vs : List Value}, ze0 x l vs → ze0 y l vs
 | [], [], _ => trivial
 | _ :: _, _ :: _, hl => ⟨hl.1.mono h hg, ze0.mono h hg hl.2⟩
theorem RepS.mono [DLaw] {x y : Cx} (h : Ext x y) (hg : x.g.Le y.g) {s : SV} {v : Value} (hs : RepS x s v) : RepS y s v := by
 cases s with
 | av a => exact RepA.mono h hg hs
 | tup l => obtain ⟨vs, hv, hl⟩ := hs; exact ⟨vs, hv, hl.mono h hg⟩
def NoFr (c : Array Value) (fr : Nat × Nat) : Prop := fr.1 = fr.2 ∨ c.size ≤ fr.1
theorem NoFr.at {c : Array Value} {fr : Nat × Nat} (h : NoFr c fr) : ∀ i, i < c.size → ¬ (fr.1 ≤ i ∧ i < fr.2) := by
 intro i hi h2
 rcases h with h | h <;> omega
def zrE (x : Cx) (b : Nat) (l : List CV) : Prop :=
 ∃ c e fr, x.w.heap[b]? = some (.cells c e fr) ∧ NoFr c fr ∧ RepL x l c.toList
def zrD (x : Cx) (b : Nat) (kk : KK) (va : Bool) (ents : List (List PV × List PV)) (mk : List (List PV × Nat)) : Prop :=
 ∃ es clock, x.w.heap[b]? = some (.map es clock) ∧ zdI x.w x.okP kk va ents es.toList ∧ (∀ e ∈ es.toList, e.born < clock) ∧ es.toList.Pairwise (fun a b => a.born ≠ b.born) ∧
  ∀ z ∈ mk, x.g.U z.2 ∧ ∃ j m, es.toList[j]? = some m ∧ m.born = x.g.ob z.2 ∧ zhq kk z.1 = true ∧ RepV x.w x.okP kk.ag z.1 m.key ∧ ∀ q, kset z.1 q ents = ents.set j (z.1, q)
def zhO (x : Cx) (b : Nat) (l : List CV) : Prop :=
 match l with
 | [.maph kk va ents mk] => zrD x b kk va ents mk
 | [.sit s pos] => x.w.heap[b]? = some (.stringIter s pos)
 | _ => False
def zhN (x : Cx) (b : Nat) (l : List CV) : Prop := zrE x b l ∨ zhO x b l
theorem zhN.plain {x : Cx} {b : Nat} {l : List CV} (h : zhN x b l) (hp : zq9 l = true) : zrE x b l := by
 rcases h with h | h
 ·exact h
 ·unfold zhO at h
  split at h
  ·cases hp
  ·cases hp
  ·exact h.elim
theorem zhN.map {x : Cx} {b : Nat} {kk : KK} {va : Bool} {ents : List (List PV × List PV)} {mk : List (List PV × Nat)} (h : zhN x b [.maph kk va ents mk]) : zrD x b kk va ents mk := by
 rcases h with ⟨c, e, fr, _, _, h⟩ | h
 ·cases hc : c.toList with
  | nil => rw [hc] at h; exact h.elim
  | cons v vs => rw [hc] at h; exact h.1.2.elim
 ·exact h
theorem zhN.iter {x : Cx} {b : Nat} {s : ByteArray} {pos : Nat} (h : zhN x b [.sit s pos]) : x.w.heap[b]? = some (.stringIter s pos) := by
 rcases h with ⟨c, e, fr, _, _, h⟩ | h
 ·cases hc : c.toList with
  | nil => rw [hc] at h; exact h.elim
  | cons v vs => rw [hc] at h; exact h.1.2.elim
 ·exact h
theorem zrD.of {x y : Cx} {b b' : Nat} {kk : KK} {va : Bool} {ents : List (List PV × List PV)} {mk : List (List PV × Nat)} (hk : ∀ b, x.okP b → y.okP b) (hb : ∀ b, x.okP b → y.w.heap[b]? = x.w.heap[b]?) (he : y.w.heap[b']? = x.w.heap[b]?)
  (h : zrD x b kk va ents mk) : zrD y b' kk va ents [] := by
 obtain ⟨es, clock, h1, h2, h3, h4, _⟩ := h
 exact ⟨es, clock, by rw [he]; exact h1, h2.mono hk hb, h3, h4, by simp⟩
theorem zhO.of {x y : Cx} {b b' : Nat} {l : List CV} {f : CV → CV} (hk : ∀ b, x.okP b → y.okP b) (hb : ∀ b, x.okP b → y.w.heap[b]? = x.w.heap[b]?) (he : y.w.heap[b']? = x.w.heap[b]?)
  (hm : ∀ kk va ents mk, f (.maph kk va ents mk) = .maph kk va ents []) (hi : ∀ s pos, f (.sit s pos) = .sit s pos) (h : zhO x b l) : zhO y b' (l.map f) := by
 unfold zhO at h
 split at h
 ·simp only [List.map_cons, List.map_nil, hm]
  exact h.of hk hb he
 ·simp only [List.map_cons, List.map_nil, hi]
  exact he.trans h
 ·exact h.elim
def zg0 (x : Cx) (r : Nat) (rw : Row) : Prop :=
 ∃ c e fr, x.w.heap[x.g.rb r]? = some (.cells c e fr) ∧ NoFr c fr ∧ c.size = x.g.rc r ∧ rw.esz = x.g.rs r ∧ rw.len = x.g.rl r ∧ rw.len * rw.esz ≤ c.size ∧
  zbb x.w x.okP rw fun i => c[i]?
def Vir (x : Cx) (r : Nat) (rw : Row) : Prop := x.g.rc r = 0 ∧ rw.esz = x.g.rs r ∧ rw.len = x.g.rl r ∧ rw.len = 0 ∧ 0 < rw.esz
structure Sto (x : Cx) (objs : List (Nat × Obj)) (rows : List (Nat × RowB)) : Prop where
 obj : ∀ o l, lkup o objs = some l → x.g.U o ∧ x.S (x.g.ob o) ∧ zhN x (x.g.ob o) l
 live : ∀ r rw, lkup r rows = some (.live rw) → x.g.U r ∧ (x.S (x.g.rb r) ∧ zg0 x r rw ∨ Vir x r rw)
 froz : ∀ r rw, lkup r rows = some (.froz rw) → x.g.U r ∧ (x.okP (x.g.rb r) ∧ zg0 x r rw ∨ Vir x r rw)
 injO : ∀ o o' l l', lkup o objs = some l → lkup o' objs = some l' → x.g.ob o = x.g.ob o' → o = o'
 injR : ∀ r r' rw rw', lkup r rows = some (.live rw) → lkup r' rows = some (.live rw') → ¬ Vir x r rw → ¬ Vir x r' rw' → x.g.rb r = x.g.rb r' → r = r'
 injX : ∀ o r l rw, lkup o objs = some l → lkup r rows = some (.live rw) → ¬ Vir x r rw → x.g.ob o ≠ x.g.rb r
 Slt : ∀ b, x.S b → b < x.w.heap.size
 Blt : ∀ b, x.B b → b < x.w.heap.size
 SB : ∀ b, x.S b → ¬ x.B b
theorem Sto.liveC {x : Cx} {objs : List (Nat × Obj)} {rows : List (Nat × RowB)} (hs : Sto x objs rows) {r : Nat} {rw : Row} (h : lkup r rows = some (.live rw)) : x.g.U r ∧ (Vir x r rw ∨ (¬ Vir x r rw ∧ x.S (x.g.rb r) ∧ zg0 x r rw)) := by
 obtain ⟨hu, h1⟩ := hs.live r rw h
 by_cases hv : Vir x r rw
 ·exact ⟨hu, .inl hv⟩
 ·exact ⟨hu, .inr ⟨hv, h1.resolve_right hv⟩⟩
theorem Sto.liveE {x : Cx} {objs : List (Nat × Obj)} {rows : List (Nat × RowB)} (hs : Sto x objs rows) {r : Nat} {rw : Row} (h : lkup r rows = some (.live rw)) : rw.esz = x.g.rs r ∧ rw.len = x.g.rl r := by
 obtain ⟨hu, ⟨_, h1⟩ | h1⟩ := hs.live r rw h
 ·obtain ⟨c, e, fr, hh, hn, h1, h2, h3, h4, h6⟩ := h1; exact ⟨h2, h3⟩
 ·exact ⟨h1.2.1, h1.2.2.1⟩
theorem Sto.frozE {x : Cx} {objs : List (Nat × Obj)} {rows : List (Nat × RowB)} (hs : Sto x objs rows) {r : Nat} {rw : Row} (h : lkup r rows = some (.froz rw)) : rw.esz = x.g.rs r ∧ rw.len = x.g.rl r := by
 obtain ⟨hu, ⟨_, h1⟩ | h1⟩ := hs.froz r rw h
 ·obtain ⟨c, e, fr, hh, hn, h1, h2, h3, h4, h6⟩ := h1; exact ⟨h2, h3⟩
 ·exact ⟨h1.2.1, h1.2.2.1⟩
theorem Vir.own {x : Cx} {r off n : Nat} {t : Bool} {v : Value} {rw : Row} (hv : Vir x r rw) (h : RepC x (.own r off n t) v) : n = 0 ∧ off = 0 ∧ (v = .slice none 0 0 ∨ ∃ b o, v = .slice (some ⟨b, o, none⟩) 0 0) := by
 obtain ⟨h1, h2, h3, h4, h5⟩ := hv
 obtain ⟨_, hl, ho⟩ := h
 have hn : n = 0 := by omega
 have hoff : off = 0 := by omega
 refine ⟨hn, hoff, ?_⟩
 rcases ho with ⟨ho, _⟩ | ⟨b, o, cap, hv, hc, ht, hp⟩
 ·exact .inl ho
 ·refine .inr ⟨b, o, ?_⟩
  have : cap = 0 := by
   rcases Nat.eq_zero_or_pos cap with h0 | h0
   ·exact h0
   ·obtain ⟨_, _, hh⟩ := hp h0
    rw [h1, ← h2] at hh
    have : 0 < (off + cap) * rw.esz := Nat.mul_pos (by omega) h5
    omega
  rw [hv, this, hn]
def zi4 (x : Cx) (slots : List (Nat × SV)) (a : Act) : Prop := ∀ t v, lkup t slots = some v → t < a.tmps.size ∧ RepS x v (a.tmps.getD t undef)
def Says {R : Type} (a : Ans R) (r : R) : Prop := ∃ ps : List Ob, a = some (r, ps) ∧ ∀ p ∈ ps, p.holds
theorem zce {R : Type} {b : Bool} {k : Unit → Ans R} {r : R} (h : Says (need b k) r) : b = true ∧ Says (k ()) r := by
 obtain ⟨ps, he, hp⟩ := h
 unfold need at he
 split at he
 ·rename_i r' ps' hk
  cases he
  exact ⟨hp (.p _) (by simp), ps', hk, fun p h => hp p (by simp [h])⟩
 ·cases he
theorem zdy {R : Type} {q : Prop} {a : Ans R} {r : R} (h : Says (obl q a) r) : q ∧ Says a r := by
 obtain ⟨ps, he, hp⟩ := h
 unfold obl at he
 split at he
 ·rename_i r' ps'
  cases he
  exact ⟨hp (.p _) (by simp), ps', rfl, fun p h => hp p (by simp [h])⟩
 ·cases he
theorem zuL {R : Type} {s s' : St} {a : Ans R} {r : R} (h : Says (same s s' a) r) : s = s' ∧ Says a r := by
 obtain ⟨ps, he, hp⟩ := h
 unfold same at he
 split at he
 ·rename_i r' ps'
  cases he
  exact ⟨hp (.e _ _) (by simp), ps', rfl, fun p h => hp p (by simp [h])⟩
 ·cases he
theorem zar {R : Type} {b : Bool} {k : Unit → Ans R} {r : R} (h : Says (chk b k) r) : b = true ∧ Says (k ()) r := by
 cases b
 ·obtain ⟨ps, he, _⟩ := h; simp [chk] at he
 ·exact ⟨rfl, h⟩
theorem zam {R α : Type} {o : Option α} {k : α → Ans R} {r : R} (h : Says (zav o k) r) : ∃ x, o = some x ∧ Says (k x) r := by
 cases o
 ·obtain ⟨ps, he, _⟩ := h; simp [zav] at he
 ·exact ⟨_, rfl, h⟩
theorem zal {R : Type} {r : R} (h : Says (none : Ans R) r) : False := by
 obtain ⟨ps, he, _⟩ := h; cases he
theorem zdz {R : Type} {v : SV} {k : IntKind → Int → Ans R} {r : R} (h : Says (wInt v k) r) : ∃ kd n, v = pint kd n ∧ Says (k kd n) r := by
 unfold wInt at h
 split at h
 ·exact ⟨_, _, rfl, h⟩
 ·exact (zal h).elim
theorem zj6 {R : Type} {v : SV} {k : Bool → Ans R} {r : R} (h : Says (zuX v k) r) : ∃ b, v = zo9 b ∧ Says (k b) r := by
 unfold zuX at h
 split at h
 ·exact ⟨_, rfl, h⟩
 ·exact (zal h).elim
theorem ziU {R : Type} {v : SV} {k : AV → Ans R} {r : R} (h : Says (wAv v k) r) : ∃ a, v = .av a ∧ Says (k a) r := by
 unfold wAv at h
 split at h
 ·exact ⟨_, rfl, h⟩
 ·exact (zal h).elim
theorem zdf {R : Type} {v : SV} {k : CV → Ans R} {r : R} (h : Says (wCv v k) r) : ∃ c, v = cone c ∧ Says (k c) r := by
 unfold wCv at h
 split at h
 ·exact ⟨_, rfl, h⟩
 ·exact (zal h).elim
theorem zuN {R : Type} {r r' : R} {ps : List Ob} (h : Says (some (r, ps)) r') : r = r' ∧ ∀ p ∈ ps, p.holds := by
 obtain ⟨qs, he, hp⟩ := h
 cases he
 exact ⟨rfl, hp⟩
theorem Says.intro {R : Type} {a : Ans R} {r : R} {ps : List Ob} (h : a = some (r, ps)) (hp : ∀ p ∈ ps, p.holds) : Says a r := ⟨ps, h, hp⟩
theorem zao {α : Type} (x y : Nat) (v : α) (l : List (Nat × α)) : lkup x ((y, v) :: l) = if x = y then some v else lkup x l := by
 by_cases h : x = y
 ·subst h; simp [lkup]
 ·have : Nat.beq x y = false := by cases hb : Nat.beq x y with
   | false => rfl
   | true => exact absurd (Nat.eq_of_beq_eq_true hb) h
  simp [lkup, this, h]
end Go.Ev
namespace Go.Ev
open Go.RowKit (Below)
set_option linter.unusedVariables false
set_option linter.unusedSimpArgs false
theorem zb1 {w : World} {ok okr : Nat → Prop} {p : PV} {v : Value} (h : RepP w ok okr p v) : v.oneCell' = true := by
 cases p <;> simp only [RepP] at h
 case bool => subst h; rfl
 case int => subst h; rfl
 case str => subst h; rfl
 case nilp => subst h; rfl
 case imm => obtain ⟨b, o, rfl, _⟩ := h; rfl
 case nils => subst h; rfl
 case emp => obtain ⟨b, o, c, sp, rfl⟩ := h; rfl
 case ints => rcases h with ⟨rfl, _⟩ | ⟨b, o, c, sp, rfl, _⟩ <;> rfl
 case bools => rcases h with ⟨rfl, _⟩ | ⟨b, o, c, sp, rfl, _⟩ <;> rfl
 case recs => rcases h with ⟨rfl, _⟩ | ⟨b, o, c, sp, rfl, _⟩ <;> rfl
 case nilI => subst h; rfl
 case errI => obtain ⟨t, u, rfl⟩ := h; rfl
 case nilm => subst h; rfl
theorem ziQ {w : World} {ok okr : Nat → Prop} {v : Value} {p : PV} (h : pvOf v = some p) : RepP w ok okr p v := by
 unfold pvOf at h
 split at h <;> cases h <;> simp [RepP]
theorem zlC {x : Cx} : ∀ {vs : List Value} {l : List CV}, zjs vs = some l → RepL x l vs
 | [], l, h => by simp [zjs] at h; subst h; trivial
 | v :: vs, l, h => by
  unfold zjs at h
  split at h
  ·rename_i p r hp hr
   cases h
   exact ⟨⟨zb1 (w := x.w) (ok := x.okP) (okr := x.okP) (ziQ hp), ziQ hp⟩, zlC hr⟩
  ·cases h
theorem zvH {x : Cx} {v : Value} {s : SV} (h : svOf v = some s) : RepS x s v := by
 unfold svOf at h
 split at h
 ·rename_i cs
  cases hc : zjs cs.toList with
  | none => simp [hc] at h
  | some l => simp [hc] at h; subst h; exact ⟨cs, rfl, zlC hc⟩
 ·simp only [Option.some.injEq] at h; subst h; exact ⟨rfl, trivial⟩
 ·cases hp : pvOf v with
  | none => simp [hp] at h
  | some p =>
   simp [hp] at h; subst h
   exact ⟨zb1 (w := x.w) (ok := x.okP) (okr := x.okP) (ziQ hp), ziQ hp⟩
theorem zaz {x : Cx} {s : St} {a : Act} {o : Operand} {v : SV} (hs : zi4 x s.slots a) (h : opd s o = some v) : RepS x v (a.eval o) := by
 unfold opd at h
 split at h
 ·exact (hs _ _ h).2
 ·exact zvH h
 ·cases h; exact ⟨rfl, #[], rfl, trivial⟩
 ·cases h
theorem zrj {P : Program} {t : TypeId} {ti : TI} (h : zeZ P t = some ti) (w : World) : (isAgg t).run P w = .ok ti.agg w := by
 unfold zeZ at h
 split at h
 ·rename_i i d hi hd
  have hu := run_underlying hd w
  unfold isAgg
  rw [Sem.run_bind, hu, Result.andThen_ok]
  split at h
  ·rename_i cs hz
   split at h
   ·cases hc : zjs cs.toList <;> simp [hc] at h; subst h; rfl
   ·cases hc : zjs cs.toList <;> simp [hc] at h; subst h; rfl
   ·cases h
  ·rename_i v hv hz
   split at h
   ·cases h
   ·cases h
   ·rename_i h1 h2
    cases hc : pvOf v <;> simp [hc] at h; subst h
    cases d <;> first | rfl | exact (h1 _ rfl).elim | exact (h2 _ _ rfl).elim
  ·cases h
 ·cases h
theorem zgR {P : Program} {t : TypeId} {ti : TI} (h : zeZ P t = some ti) : ∃ i, P.info? t = some i ∧ i.size = ti.size := by
 unfold zeZ at h
 split at h
 ·rename_i i d hi hd
  refine ⟨i, hi, ?_⟩
  split at h
  ·rename_i cs hz
   split at h
   ·cases hc : zjs cs.toList <;> simp [hc] at h; subst h; rfl
   ·cases hc : zjs cs.toList <;> simp [hc] at h; subst h; rfl
   ·cases h
  ·rename_i v hv hz
   split at h
   ·cases h
   ·cases h
   ·cases hc : pvOf v <;> simp [hc] at h; subst h; rfl
  ·cases h
 ·cases h
theorem ziR {P : Program} {t : TypeId} {ti : TI} (h : zeZ P t = some ti) (w : World) : (sizeOf t).run P w = .ok ti.size w := by
 obtain ⟨i, hi, hs⟩ := zgR h
 simp [sizeOf, typeInfo, program, Sem.run, hi, hs, Result.andThen, Sem.bind]
theorem zb5 {P : Program} {t : TypeId} {ti : TI} (x : Cx) (h : zeZ P t = some ti) : ∃ v, (∀ w, (zeroValue t).run P w = .ok v w) ∧ RepL x ti.zero v.cells.toList := by
 unfold zeZ at h
 split at h
 ·rename_i i d hi hd
  split at h
  ·rename_i cs hz
   refine ⟨.agg cs, fun w => by simp [zeroValue, typeInfo, program, Sem.run, hi, hz, Result.andThen, Sem.bind], ?_⟩
   split at h
   ·cases hc : zjs cs.toList <;> simp [hc] at h; subst h; exact zlC hc
   ·cases hc : zjs cs.toList <;> simp [hc] at h; subst h; exact zlC hc
   ·cases h
  ·rename_i v hv hz
   refine ⟨v, fun w => by simp [zeroValue, typeInfo, program, Sem.run, hi, hz, Result.andThen, Sem.bind], ?_⟩
   split at h
   ·cases h
   ·cases h
   ·cases hc : pvOf v <;> simp [hc] at h; subst h
    have hr : RepP x.w x.okP x.okP _ v := ziQ hc
    have h1 := zb1 hr
    have : v.cells = #[v] := by cases v <;> first | rfl | simp [Value.oneCell'] at h1
    rw [this]
    exact ⟨⟨h1, hr⟩, trivial⟩
  ·cases h
 ·cases h
theorem zlH {P : Program} {t f : Nat} {z : Nat × TypeId} (h : zg6 P t f = some z) : ∃ fs fd, P.underlying t = some (.struct fs) ∧ fs[f]? = some fd ∧ fd.offset = z.1 ∧ fd.type = z.2 := by
 unfold zg6 at h
 split at h
 ·rename_i fs hu
  cases hf : fs[f]? with
  | none => simp [hf] at h
  | some fd => simp [hf] at h; subst h; exact ⟨fs, fd, hu, hf, rfl, rfl⟩
 ·cases h
theorem zfL {P : Program} {t e : Nat} (h : zoY P t = some e) : P.underlying t = some (.slice e) := by
 unfold zoY at h
 split at h
 ·cases h; assumption
 ·cases h
theorem zsY {w : World} {ok : Nat → Prop} : ∀ {ps : List PV} {f : Nat → Option Value} {i : Nat} {p : PV}, zbx w ok ps f → ps[i]? = some p → ∃ v, f i = some v ∧ RepP w ok ok p v
 | [], _, _, _, _, h => by simp at h
 | q :: ps, f, 0, p, hr, h => by
  simp only [zbx] at hr
  simp at h; subst h
  exact hr.1
 | q :: ps, f, i + 1, p, hr, h => by
  simp only [zbx] at hr
  simp at h
  exact zsY (f := fun i => f (i + 1)) hr.2 h
theorem zon {w : World} {ok : Nat → Prop} {sz : Nat} : ∀ {l : List (List PV)} {f : Nat → Option Value} {i : Nat} {e : List PV}, za4 w ok sz l f → l[i]? = some e →
  e.length = sz ∧ zbx w ok e fun j => f (i * sz + j)
 | [], _, _, _, _, h => by simp at h
 | q :: l, f, 0, e, hr, h => by
  simp only [za4] at hr
  simp at h; subst h
  simpa using ⟨hr.1, hr.2.1⟩
 | q :: l, f, i + 1, e, hr, h => by
  simp only [za4] at hr
  simp at h
  have := zon hr.2.2 h
  refine ⟨this.1, ?_⟩
  have e1 : (fun j => f (i * sz + j + sz)) = fun j => f ((i + 1) * sz + j) := funext fun j => by congr 1; rw [Nat.add_mul]; omega
  rw [← e1]; exact this.2
theorem zb0 {x : Cx} : ∀ {l : List CV} {vs : List Value}, RepL x l vs → l.length = vs.length
 | [], [], _ => rfl
 | _ :: _, _ :: _, h => by simp [zb0 h.2]
theorem zsa {x : Cx} : ∀ {l : List CV} {vs : List Value} {i : Nat} {c : CV}, RepL x l vs → l[i]? = some c → ∃ v, vs[i]? = some v ∧ v.oneCell' = true ∧ RepC x c v
 | [], [], _, _, _, h => by simp at h
 | d :: l, v :: vs, 0, c, hr, h => by simp at h; subst h; exact ⟨v, by simp, hr.1⟩
 | d :: l, v :: vs, i + 1, c, hr, h => by
  simp at h
  obtain ⟨u, hu, h1⟩ := zsa hr.2 h
  exact ⟨u, by simpa using hu, h1⟩
def zjl (x : Cx) (b o : Nat) (cs : List CV) : Prop := ∃ vs, RepL x cs vs ∧ ∀ j v, vs[j]? = some v → x.w.cell? ⟨b, o + j, none⟩ = some v
theorem ziy (x : Cx) (b o : Nat) : zjl x b o [] := ⟨[], trivial, by simp⟩
theorem zhu {x : Cx} {b o : Nat} {c : CV} {cs : List CV} {v : Value} (hv : x.w.cell? ⟨b, o, none⟩ = some v) (h1 : v.oneCell' = true) (hc : RepC x c v) (h : zjl x b (o + 1) cs) : zjl x b o (c :: cs) := by
 obtain ⟨vs, hr, hcell⟩ := h
 refine ⟨v :: vs, ⟨⟨h1, hc⟩, hr⟩, fun j u hj => ?_⟩
 cases j with
 | zero => simp at hj; subst hj; simpa using hv
 | succ j => simp at hj; have := hcell j u hj; rwa [show o + 1 + j = o + (j + 1) by omega] at this
theorem zj5 {R : Type} {x : Cx} {b o0 : Nat} {l : List PV} (hl : zbx x.w x.okP l fun i => x.w.cell? ⟨b, o0 + i, none⟩) : ∀ {n off : Nat} {k : List CV → Ans R} {r : R}, Says (zsm l off n k) r →
  ∃ cs, cs.length = n ∧ zjl x b (o0 + off) cs ∧ Says (k cs) r
 | 0, off, k, r, h => ⟨[], rfl, ziy _ _ _, h⟩
 | n + 1, off, k, r, h => by
  obtain ⟨p, hp, h⟩ := zam h
  obtain ⟨cs, hn, hc, h⟩ := zj5 hl h
  obtain ⟨v, hv, hr⟩ := zsY hl hp
  exact ⟨.pv p :: cs, by simp [hn], zhu hv (zb1 hr) hr (by rwa [show o0 + off + 1 = o0 + (off + 1) by omega]), h⟩
theorem zpI {R : Type} {x : Cx} {b : Nat} {l : List CV} (hl : zrE x b l) : ∀ {n off : Nat} {k : List CV → Ans R} {r : R}, Says (zuV l off n k) r →
  ∃ cs, cs.length = n ∧ zjl x b off cs ∧ Says (k cs) r
 | 0, off, k, r, h => ⟨[], rfl, ziy _ _ _, h⟩
 | n + 1, off, k, r, h => by
  obtain ⟨p, hp, h⟩ := zam h
  obtain ⟨cs, hn, hc, h⟩ := zpI hl h
  obtain ⟨c, e, fr, hh, _, hL⟩ := hl
  obtain ⟨v, hv, h1, hr⟩ := zsa hL hp
  refine ⟨p :: cs, by simp [hn], zhu (v := v) ?_ h1 hr hc, h⟩
  simpa [World.cell?, hh] using hv
theorem zlM {R : Type} {x : Cx} {agg : Bool} {cs : List CV} {vs : List Value} {k : AV → Ans R} {r : R} (hr : RepL x cs vs) (h : Says (toAv agg cs k) r) :
  ∃ a, Says (k a) r ∧ RepA x a (if agg = true then .agg vs.toArray else vs.headD undef) ∧ (agg = false → vs.length = 1) := by
 unfold toAv at h
 split at h
 ·exact ⟨_, h, ⟨vs.toArray, by simp, hr⟩, by simp⟩
 ·rename_i c
  cases vs with
  | nil => exact hr.elim
  | cons v vs =>
   cases vs with
   | nil => exact ⟨_, h, hr.1, by simp⟩
   | cons => exact hr.2.elim
 ·exact (zal h).elim
theorem zos {P : Program} {t : TypeId} {ti : TI} (ht : zeZ P t = some ti) {w : World} {b o : Nat} {vs : List Value} (hn : vs.length = ti.size) (h1 : ti.agg = false → vs.length = 1)
  (hc : ∀ j v, vs[j]? = some v → w.cell? ⟨b, o + j, none⟩ = some v) :
  (loadVar t ⟨b, o, none⟩).run P w = .ok (if ti.agg = true then .agg vs.toArray else vs.headD undef) w := by
 unfold loadVar
 rw [Sem.run_bind, zrj ht, Result.andThen_ok]
 cases hb : ti.agg with
 | true =>
  simp only [if_true]
  rw [Sem.run_bind, ziR ht, Result.andThen_ok, Sem.run_bind, ← hn, run_loadCells_list w ⟨b, o, none⟩ vs (fun j v hj => by rw [Addr.add_lit]; exact hc j v hj)]
  rfl
 | false =>
  simp only [Bool.false_eq_true, if_false]
  have hl := h1 hb
  match vs, hl with
  | [v], _ =>
   have := hc 0 v (by simp)
   rw [run_load]
   simp only [Nat.add_zero] at this
   simp [this]
theorem zox {R : Type} {x : Cx} {b o : Nat} {rw : Row} {i fo n : Nat} {k : List CV → Ans R} {r : R} (hrow : zbb x.w x.okP rw fun j => x.w.cell? ⟨b, o + j, none⟩) (hi : i < rw.len)
  (h : Says (rw.elem i fo n k) r) : ∃ cs, cs.length = n ∧ zjl x b (o + i * rw.esz + fo) cs ∧ Says (k cs) r := by
 cases rw with
 | ints kd l =>
  simp only [Row.elem] at h
  obtain ⟨hb, h⟩ := zar h
  simp only [Bool.and_eq_true] at hb
  obtain rfl : fo = 0 := Nat.eq_of_beq_eq_true hb.1
  obtain rfl : n = 1 := Nat.eq_of_beq_eq_true hb.2
  have hv := hrow i hi
  refine ⟨_, rfl, zhu (v := .int kd (l.getD i 0)) ?_ rfl (by simp [RepC, RepP]) (ziy _ _ _), h⟩
  simpa [Row.esz] using hv
 | bools l =>
  simp only [Row.elem] at h
  obtain ⟨hb, h⟩ := zar h
  simp only [Bool.and_eq_true] at hb
  obtain rfl : fo = 0 := Nat.eq_of_beq_eq_true hb.1
  obtain rfl : n = 1 := Nat.eq_of_beq_eq_true hb.2
  have hv := hrow i hi
  refine ⟨_, rfl, zhu (v := .bool (l.getD i false)) ?_ rfl (by simp [RepC, RepP]) (ziy _ _ _), h⟩
  simpa [Row.esz] using hv
 | recs sz l =>
  have hi' : i < l.length := hi
  have := zon (i := i) (e := l.getD i []) hrow (by simp [List.getD, hi'])
  have h2 : zbx x.w x.okP (l.getD i []) fun j => x.w.cell? ⟨b, (o + i * sz) + j, none⟩ := by
   have := this.2
   simpa [Nat.add_assoc] using this
  exact zj5 h2 h
theorem zor {x : Cx} {b : Nat} {rw : Row} {c : Array Value} {e : TypeId} {fr : Nat × Nat} (hh : x.w.heap[b]? = some (.cells c e fr)) (h : zbb x.w x.okP rw fun i => c[i]?) :
  zbb x.w x.okP rw fun j => x.w.cell? ⟨b, 0 + j, none⟩ := by
 have : (fun j => x.w.cell? ⟨b, 0 + j, none⟩) = fun i => c[i]? := funext fun j => by simp [World.cell?, hh]
 rw [this]; exact h
theorem zgV {R : Type} {w : World} {ok okr : Nat → Prop} {r0 : Row} {p : PV} {v : Value} {k : Row → Bool → Ans R} {r : R} (h0 : r0.len = 0) (hw : ∀ f, zbb w ok r0 f) (hr : RepP w ok okr p v) (h : Says (p.row r0 k) r) :
  ∃ rw t, Says (k rw t) r ∧ SlAt w okr rw.len t v (zbb w ok rw) ∧ (p = rw.pv t ∨ (rw = r0 ∧ (p = .nils ∨ p = .emp))) := by
 unfold PV.row at h
 split at h
 ·exact ⟨_, _, h, (zfb (rw := .ints _ _)).mp hr, .inl rfl⟩
 ·exact ⟨_, _, h, (zfb (rw := .bools _)).mp hr, .inl rfl⟩
 ·exact ⟨_, _, h, (zfb (rw := .recs _ _)).mp hr, .inl rfl⟩
 ·simp only [RepP] at hr
  exact ⟨_, _, h, .inl ⟨hr, h0⟩, .inr ⟨rfl, .inl rfl⟩⟩
 ·simp only [RepP] at hr
  obtain ⟨b, o, cap, sp, rfl⟩ := hr
  exact ⟨_, _, h, .inr ⟨b, o, cap, sp, by rw [h0], by omega, by simp, by omega⟩, .inr ⟨rfl, .inr rfl⟩⟩
 ·exact (zal h).elim
theorem zoz {R : Type} {P : Program} {x : Cx} {t : TypeId} {av : SV} {s : St} {v : Value} {k : SV → Ans R} {r : R} (hs : Sto x s.objs s.rows) (hv : RepS x av v) (h : Says (zmx P t av s k) r) :
  ∃ u a, (Instr.loadAt t v).run P x.w = .ok u x.w ∧ RepA x a u ∧ Says (k (.av a)) r := by
 obtain ⟨ti, ht, h0⟩ := zam h
 clear h
 obtain ⟨c, hcc, h⟩ := zdf h0
 clear h0
 rw [hcc] at hv
 clear hcc
 have fin : ∀ {b o : Nat} {cs : List CV} {kk : AV → Ans R}, cs.length = ti.size → zjl x b o cs → Says (toAv ti.agg cs kk) r → v = .pointer (some ⟨b, o, none⟩) →
   ∃ u a, (Instr.loadAt t v).run P x.w = .ok u x.w ∧ RepA x a u ∧ Says (kk a) r := by
  intro b o cs kk hn hc h hv
  obtain ⟨vs, hr, hcell⟩ := hc
  obtain ⟨a, hk, ha, h1⟩ := zlM hr h
  refine ⟨_, a, ?_, ha, hk⟩
  rw [hv]
  simp only [Instr.loadAt, Instr.sureAddr, pure_bind]
  exact zos ht (by rw [← hn, zb0 hr]) h1 hcell
 obtain ⟨h1, hc⟩ := hv
 split at h
 ·rename_i cells off
  simp only [RepC, RepP] at hc
  obtain ⟨b, o, hv, _, hcells⟩ := hc
  obtain ⟨cs, hn, hca, h⟩ := zj5 hcells h
  exact fin hn hca h hv
 ·rename_i o off
  obtain ⟨ob, ho, h⟩ := zam h
  obtain ⟨hpl, h⟩ := zar h
  obtain ⟨_, _, hob⟩ := hs.obj _ _ ho
  obtain ⟨cs, hn, hca, h⟩ := zpI (hob.plain hpl) h
  exact fin hn hca h hc.2
 ·rename_i p i fo
  obtain ⟨b, o, n, cap, hp, hi, hv⟩ := hc
  obtain ⟨rw, tt, h, hsl, hcase⟩ := zgV (r0 := .recs ti.size []) rfl (fun f => by simp [zbb, za4]) hp h
  rcases hsl with ⟨hx, _⟩ | ⟨b', o', cap', sp', hv', hle, _, hcell⟩
  ·cases hx
  ·obtain ⟨rfl, rfl, rfl, rfl⟩ : b' = b ∧ o' = o ∧ rw.len = n ∧ cap' = cap := by cases hv'; exact ⟨rfl, rfl, rfl, rfl⟩
   obtain ⟨cs, hn, hca, h⟩ := zox (hcell (by omega)).2.2 hi h
   have he : p.esz = rw.esz := by
    rcases hcase with rfl | ⟨rfl, _⟩
    ·cases rw <;> rfl
    ·simp [Row.len] at hi
   exact fin hn hca h (by rw [hv, he])
 ·rename_i rr i fo
  obtain ⟨rb, hrb, h⟩ := zam h
  obtain ⟨hU, hlt, hv⟩ := hc
  have go : ∀ {rw : Row}, zg0 x rr rw → Says (rw.elem i fo ti.size fun cs => toAv ti.agg cs fun a => k (.av a)) r → ∃ u a, (Instr.loadAt t v).run P x.w = .ok u x.w ∧ RepA x a u ∧ Says (k (.av a)) r := by
   intro rw hrow h
   obtain ⟨c, e, fr, hh, _, hsz, hes, hlen, _, hrow⟩ := hrow
   obtain ⟨cs, hn, hca, h⟩ := zox (zor hh hrow) (by omega) h
   refine fin hn hca h ?_
   rw [hv, ← hes]; simp
  split at h
  ·rcases (hs.live _ _ hrb).2 with ⟨_, h1⟩ | ⟨_, _, h1, h2, _⟩
   ·exact go h1 h
   ·omega
  ·rcases (hs.froz _ _ hrb).2 with ⟨_, h1⟩ | ⟨_, _, h1, h2, _⟩
   ·exact go h1 h
   ·omega
  ·exact (zal h).elim
 ·exact (zal h).elim
end Go.Ev
namespace Go.Ev
set_option linter.unusedVariables false
set_option linter.unusedSimpArgs false
def zcx {R : Type} (P : Program) (x : Cx) (e : Sem Value) (k : SV → Ans R) (r : R) : Prop := ∃ u sv, (∀ w, e.run P w = .ok u w) ∧ RepS x sv u ∧ Says (k sv) r
theorem zcx.one {R : Type} {P : Program} {x : Cx} {e : Sem Value} {k : SV → Ans R} {r : R} {c : CV} {u : Value} (h : Says (k (cone c)) r) (hr : ∀ w, e.run P w = .ok u w) (h1 : u.oneCell' = true) (hc : RepC x c u) :
 zcx P x e k r := ⟨u, cone c, hr, ⟨h1, hc⟩, h⟩
theorem zcx.av {R : Type} {P : Program} {x : Cx} {e : Sem Value} {k : SV → Ans R} {r : R} {a : AV} {u : Value} (h : Says (k (.av a)) r) (hr : ∀ w, e.run P w = .ok u w) (ha : RepA x a u) :
 zcx P x e k r := ⟨u, .av a, hr, ha, h⟩
theorem zmv {P : Program} {t : TypeId} (h : (!(Nat.beq (P.cellsOf t) 0)) = true) (w : World) : (sizeOf t).run P w = .ok (P.cellsOf t) w := by
 unfold Program.cellsOf at h ⊢
 cases hi : P.info? t with
 | none => simp [hi] at h
 | some i => simp [sizeOf, typeInfo, program, Sem.run, hi, Result.andThen, Sem.bind]
theorem zfV {P : Program} {e : TypeId} {n : Nat} (h : znC P e n = true) : (∀ w, (sizeOf e).run P w = .ok n w) ∧ 0 < n ∧ P.cellsOf e = n := by
 unfold znC at h
 simp only [Bool.and_eq_true] at h
 have h1 := Nat.eq_of_beq_eq_true h.1
 have h2 : n ≠ 0 := by intro h0; subst h0; simp at h
 refine ⟨fun w => ?_, by omega, h1⟩
 rw [← h1]
 exact zmv (by rw [h1]; simp; cases hb : n.beq 0 with | false => rfl | true => exact absurd (Nat.eq_of_beq_eq_true hb) h2) w
theorem zjL {P : Program} {e : TypeId} {r0 : Row} (h : row0 P e = some r0) : znC P e r0.esz = true ∧ r0.len = 0 ∧ ∀ w ok f, zbb w ok r0 f := by
 unfold row0 at h
 split at h
 ·rename_i r hr
  cases hb : znC P e r.esz with
  | false => simp [hb] at h
  | true =>
   simp [hb] at h; subst h
   refine ⟨hb, ?_⟩
   unfold zxw at hr
   split at hr <;> cases hr <;> simp [Row.len, zbb, za4]
 ·cases h
theorem zkv {R : Type} {P : Program} {x : Cx} {t f : Nat} {av : SV} {v : Value} {k : SV → Ans R} {r : R} (hv : RepS x av v) (h : Says (znE P t av f k) r) :
  zcx P x (Instr.fieldAt t v f) k r := by
 obtain ⟨z, hz, h0⟩ := zam h
 clear h
 obtain ⟨hb, h1⟩ := zar h0
 clear h0
 obtain ⟨c, hcc, h⟩ := zdf h1
 clear h1
 rw [hcc] at hv
 clear hcc
 obtain ⟨fs, fd, hu, hf, ho, ht⟩ := zlH hz
 have hne : P.cellsOf z.2 ≠ 0 := by intro h0; rw [h0] at hb; simp at hb
 have run : ∀ b o, v = .pointer (some ⟨b, o, none⟩) → ∀ w, (Instr.fieldAt t v f).run P w = .ok (.pointer (some ⟨b, o + z.1, none⟩)) w := by
  intro b o hv w
  subst hv
  simp only [Instr.fieldAt, Sem.run_bind, run_underlying hu, Result.andThen_ok, hf, Instr.sureAddr, Sem.run_pure, fieldPlace, ht, zmv hb, if_neg hne, ho, Addr.add_lit]
 obtain ⟨h1, hc⟩ := hv
 split at h
 ·rename_i cells off
  simp only [RepC, RepP] at hc
  obtain ⟨b, o, hv, hok, hcells⟩ := hc
  refine .one h (run _ _ hv) rfl ?_
  simp only [RepC, RepP]
  exact ⟨b, o, by rw [Nat.add_assoc], hok, hcells⟩
 ·rename_i o off
  exact .one h (run _ _ hc.2) rfl ⟨hc.1, rfl⟩
 ·rename_i p i fo
  obtain ⟨b, o, n, cap, hp, hi, hv⟩ := hc
  exact .one h (run _ _ hv) rfl ⟨b, o, n, cap, hp, hi, by rw [Nat.add_assoc]⟩
 ·rename_i rr i fo
  exact .one h (run _ _ hc.2.2) rfl ⟨hc.1, hc.2.1, by rw [Nat.add_assoc]⟩
 ·exact (zal h).elim
theorem zpJ {R : Type} {x : Cx} {l : List CV} {vs : List Value} (hl : RepL x l vs) : ∀ {n off : Nat} {k : List CV → Ans R} {r : R}, Says (zuV l off n k) r →
  ∃ cs us, us.length = n ∧ RepL x cs us ∧ us = (vs.drop off).take n ∧ Says (k cs) r
 | 0, off, k, r, h => ⟨[], [], rfl, trivial, by simp, h⟩
 | n + 1, off, k, r, h => by
  obtain ⟨p, hp, h⟩ := zam h
  obtain ⟨cs, us, hn, hr, hu, h⟩ := zpJ hl h
  obtain ⟨v, hv, h1, hc⟩ := zsa hl hp
  refine ⟨p :: cs, v :: us, by simp [hn], ⟨⟨h1, hc⟩, hr⟩, ?_, h⟩
  have hlt : off < vs.length := by
   rcases Nat.lt_or_ge off vs.length with h' | h'
   ·exact h'
   ·simp [List.getElem?_eq_none h'] at hv
  rw [List.drop_eq_getElem_cons hlt, List.take_succ_cons, hu]
  rw [List.getElem?_eq_getElem hlt] at hv
  cases hv; rfl
theorem zpB {R : Type} {P : Program} {x : Cx} {t f : Nat} {av : SV} {v : Value} {k : SV → Ans R} {r : R} (hv : RepS x av v) (h : Says (ztU P t av f k) r) :
  zcx P x (Instr.field t v f) k r := by
 obtain ⟨z, hz, h0⟩ := zam h
 clear h
 obtain ⟨ti, ht, h⟩ := zam h0
 clear h0
 obtain ⟨fs, fd, hu, hf, ho, hty⟩ := zlH hz
 split at h
 ·rename_i l
  obtain ⟨cs, rfl, hl⟩ := hv
  obtain ⟨ds, us, hn, hr, hus, h⟩ := zpJ hl h
  obtain ⟨a, hk, ha, h1⟩ := zlM hr h
  refine .av hk (fun w => ?_) ha
  simp only [Instr.field, Sem.run_bind, run_underlying hu, Result.andThen_ok, hf, asAgg, Sem.run_pure, Go.part, hty, zrj ht, ho]
  cases hb : ti.agg with
  | true =>
   simp only [if_true, Sem.run_bind, ziR ht, Result.andThen_ok, Sem.run_pure]
   congr 2
   apply Array.ext'
   simp [hus, List.drop_take]
  | false =>
   have hl1 := h1 hb
   simp only [Bool.false_eq_true, if_false]
   match us, hl1, hus with
   | [u], _, hus =>
    have : cs[z.1]? = some u := by
     have := congrArg (·[0]?) hus
     rw [← hn] at this
     simpa [List.getElem?_take, List.getElem?_drop] using this.symm
    simp [this]
 ·exact (zal h).elim
theorem zoG {R : Type} {w : World} {ok okr : Nat → Prop} {p : PV} {v : Value} {k : Nat → Ans R} {r : R} (hr : RepP w ok okr p v) (h : Says (p.slen k) r) :
  ∃ n, Says (k n) r ∧ ((v = .slice none 0 0 ∧ n = 0) ∨ ∃ b o cap, ∃ sp, v = .slice (some ⟨b, o, sp⟩) n cap ∧ n ≤ cap ∧ (0 < n → sp = none)) := by
 unfold PV.slen at h
 split at h
 ·rcases (zfb (rw := .ints _ _)).mp hr with ⟨h1, h2⟩ | ⟨b, o, cap, sp, hv, hn, _, hp⟩
  ·exact ⟨_, h, .inl ⟨h1, h2⟩⟩
  ·exact ⟨_, h, .inr ⟨b, o, cap, sp, hv, hn, fun h => (hp h).1⟩⟩
 ·rcases (zfb (rw := .bools _)).mp hr with ⟨h1, h2⟩ | ⟨b, o, cap, sp, hv, hn, _, hp⟩
  ·exact ⟨_, h, .inl ⟨h1, h2⟩⟩
  ·exact ⟨_, h, .inr ⟨b, o, cap, sp, hv, hn, fun h => (hp h).1⟩⟩
 ·rcases (zfb (rw := .recs _ _)).mp hr with ⟨h1, h2⟩ | ⟨b, o, cap, sp, hv, hn, _, hp⟩
  ·exact ⟨_, h, .inl ⟨h1, h2⟩⟩
  ·exact ⟨_, h, .inr ⟨b, o, cap, sp, hv, hn, fun h => (hp h).1⟩⟩
 ·simp only [RepP] at hr; exact ⟨_, h, .inl ⟨hr, rfl⟩⟩
 ·simp only [RepP] at hr; obtain ⟨b, o, cap, sp, hv⟩ := hr; exact ⟨_, h, .inr ⟨b, o, cap, sp, hv, Nat.zero_le _, fun h => absurd h (Nat.lt_irrefl _)⟩⟩
 ·exact (zal h).elim
theorem zj3 {R : Type} {x : Cx} {c : CV} {v : Value} {k : Nat → Ans R} {r : R} (hc : RepC x c v) (h : Says (ztg c k) r) :
  ∃ n, Says (k n) r ∧ ((v = .slice none 0 0 ∧ n = 0) ∨ ∃ b o cap, ∃ sp, v = .slice (some ⟨b, o, sp⟩) n cap ∧ n ≤ cap ∧ (0 < n → sp = none)) := by
 unfold ztg at h
 split at h
 ·exact zoG hc h
 ·exact zoG hc h
 ·rcases hc.2.2 with ⟨h1, h2⟩ | ⟨b, o, cap, hv, hn, _⟩
  ·exact ⟨_, h, .inl ⟨h1, h2⟩⟩
  ·exact ⟨_, h, .inr ⟨b, o, cap, none, hv, hn, fun _ => rfl⟩⟩
 ·exact (zal h).elim
theorem zkw {R : Type} {P : Program} {x : Cx} {t : TypeId} {xv iv : SV} {v u : Value} {s : St} {k : SV → Ans R} {r : R} (hs : Sto x s.objs s.rows) (hv : RepS x xv v) (hu : RepS x iv u)
  (h : Says (znF P t xv iv s k) r) : zcx P x (Instr.indexAt t v u) k r := by
 obtain ⟨e, he, h0⟩ := zam h
 clear h
 obtain ⟨kd, n, hi, h1⟩ := zdz h0
 clear h0
 obtain ⟨c, hc, h2⟩ := zdf h1
 clear h1
 rw [hc] at hv; clear hc
 rw [hi] at hu; clear hi
 obtain ⟨_, hu⟩ := hu
 simp only [RepC, RepP] at hu
 subst hu
 obtain ⟨hone, hv⟩ := hv
 obtain ⟨len, h3, hlen⟩ := zj3 hv h2
 clear h2
 obtain ⟨hb, h⟩ := zce h3
 clear h3
 simp only [Bool.and_eq_true, decide_eq_true_eq] at hb
 rcases hlen with ⟨rfl, rfl⟩ | ⟨b, o, cap, sp, rfl, hcap, hsp⟩
 ·omega
 obtain rfl := hsp (by omega)
 have run : ∀ z, znC P e z = true → ∀ w, (Instr.indexAt t (.slice (some ⟨b, o, none⟩) len cap) (.int kd n)).run P w = .ok (.pointer (some ⟨b, o + n.toNat * z, none⟩)) w := by
  intro z hz w
  simp [Instr.indexAt, run_underlying (zfL he), asIntOf, hb.1, hb.2, (zfV hz).1, Addr.add_lit]
 have hnt : n.toNat < len := by omega
 split at h
 ·rename_i p
  obtain ⟨hz, h⟩ := zar h
  exact .one h (run _ hz) rfl ⟨b, o, len, cap, RepP.weak (fun _ h => Cx.okB_of_okP h) hv, hnt, by simp⟩
 ·rename_i p
  obtain ⟨hz, h⟩ := zar h
  exact .one h (run _ hz) rfl ⟨b, o, len, cap, hv, hnt, by simp⟩
 ·rename_i rr off m tt
  obtain ⟨rb, hrb, h⟩ := zam h
  obtain ⟨hU, hrl, hown⟩ := hv
  rcases hown with ⟨hx, _⟩ | ⟨b', o', cap', hx, hle, _, hpos⟩
  ·cases hx
  cases hx
  obtain ⟨rfl, rfl, hfit⟩ := hpos (by omega)
  split at h
  ·rename_i rw
   obtain ⟨hz, h⟩ := zar h
   obtain ⟨hes, _⟩ := hs.liveE hrb
   refine .one h (run _ hz) rfl ⟨hU, by omega, ?_⟩
   rw [hes, Nat.add_mul]; rfl
  ·rename_i rw
   obtain ⟨hz, h⟩ := zar h
   obtain ⟨hes, _⟩ := hs.frozE hrb
   refine .one h (run _ hz) rfl ⟨hU, by omega, ?_⟩
   rw [hes, Nat.add_mul]; rfl
  ·exact (zal h).elim
 ·exact (zal h).elim
end Go.Ev
namespace Go.Ev
set_option linter.unusedVariables false
set_option linter.unusedSimpArgs false
def RepO (x : Cx) (o : Option SV) (v : Option Value) : Prop :=
 match o, v with
 | none, none => True
 | some s, some u => RepS x s u
 | _, _ => False
theorem zfg {x : Cx} {k : IntKind} {n : Int} {v : Value} (h : RepS x (pint k n) v) : v = .int k n := by
 obtain ⟨_, h⟩ := h
 simpa only [RepC, RepP] using h
theorem zhz {x : Cx} {b : Bool} {v : Value} (h : RepS x (zo9 b) v) : v = .bool b := by
 obtain ⟨_, h⟩ := h
 simpa only [RepC, RepP] using h
theorem zjK {x : Cx} {b : ByteArray} {v : Value} (h : RepS x (pone (.str b)) v) : v = .string b := by
 obtain ⟨_, h⟩ := h
 simpa only [RepC, RepP] using h
theorem zcx.pv {R : Type} {P : Program} {x : Cx} {e : Sem Value} {k : SV → Ans R} {r : R} {p : PV} {u : Value} (h : Says (k (pone p)) r) (hr : ∀ w, e.run P w = .ok u w) (hp : RepP x.w x.okP x.okP p u) : zcx P x e k r :=
 .one (c := .pv p) h hr (zb1 hp) hp
theorem zcx.int {R : Type} {P : Program} {x : Cx} {e : Sem Value} {k : SV → Ans R} {r : R} {kd : IntKind} {n : Int} (h : Says (k (pint kd n)) r) (hr : ∀ w, e.run P w = .ok (.int kd n) w) : zcx P x e k r :=
 .pv h hr (by simp [RepP])
theorem zcx.bool {R : Type} {P : Program} {x : Cx} {e : Sem Value} {k : SV → Ans R} {r : R} {b : Bool} (h : Says (k (zo9 b)) r) (hr : ∀ w, e.run P w = .ok (.bool b) w) : zcx P x e k r :=
 .pv h hr (by simp [RepP])
theorem zlK {R : Type} {x : Cx} {o : Option SV} {v : Option Value} {d : Int} {k : Int → Ans R} {r : R} (hv : RepO x o v) (h : Says (bnd o d k) r) :
  ∃ n, Says (k n) r ∧ ((o = none ∧ v = none ∧ n = d) ∨ ∃ s kd, o = some s ∧ v = some (.int kd n)) := by
 unfold bnd at h
 split at h
 ·rename_i s
  obtain ⟨kd, n, hs, h⟩ := zdz h
  cases v with
  | none => exact hv.elim
  | some u =>
   subst hs
   exact ⟨n, h, .inr ⟨_, kd, rfl, by rw [zfg hv]⟩⟩
 ·cases v with
  | none => exact ⟨d, h, .inl ⟨rfl, rfl, rfl⟩⟩
  | some u => exact hv.elim
theorem zio {P : Program} {w : World} {kd : IntKind} {n : Int} {y : Nat} {c : BoundsCode} (h0 : 0 ≤ n) (h1 : n ≤ y) : (Instr.sliceBound (.int kd n) y c).run P w = .ok n.toNat w := by
 simp [Instr.sliceBound, asIntOf, h0, h1]
theorem zpz {P : Program} {w : World} {isS : Bool} {len cap : Nat} {lo hi mx : Option Value} {l h m : Int}
  (hl : (lo = none ∧ l = 0) ∨ ∃ kd, lo = some (.int kd l)) (hh : (hi = none ∧ h = (len : Int)) ∨ ∃ kd, hi = some (.int kd h)) (hm : mx = none ∨ (∃ kd, mx = some (.int kd m)) ∧ hi ≠ none)
  (h0 : 0 ≤ l) (h1 : l ≤ h) (h2 : h ≤ (len : Int)) (h3 : len ≤ cap) (h4 : m = h) :
  (Instr.sliceBounds isS len cap lo hi mx).run P w = .ok (l.toNat, h.toNat, if mx = none then cap else h.toNat) w := by
 subst h4
 unfold Instr.sliceBounds
 rcases hm with rfl | ⟨⟨kd, rfl⟩, hne⟩
 ·simp only [pure_bind]
  rcases hh with ⟨rfl, rfl⟩ | ⟨kh, rfl⟩
  ·simp only [pure_bind]
   rcases hl with ⟨rfl, rfl⟩ | ⟨kl, rfl⟩
   ·simp
   ·simp only [Sem.run_bind, zio (P := P) (w := w) h0 h1, Result.andThen_ok]; simp
  ·have e1 : (Instr.sliceBound (.int kh m) cap (if isS = true then .sliceAcap else .sliceAlen)).run P w = .ok m.toNat w := zio (by omega) (by omega)
   simp only [Sem.run_bind, e1, Result.andThen_ok]
   rcases hl with ⟨rfl, rfl⟩ | ⟨kl, rfl⟩
   ·simp
   ·have e2 := zio (P := P) (w := w) (kd := kl) (y := m.toNat) (c := .sliceB) h0 (by omega : l ≤ (m.toNat : Int))
    simp [e2]
 ·rcases hh with ⟨rfl, rfl⟩ | ⟨kh, rfl⟩
  ·exact (hne rfl).elim
  ·have e0 : (Instr.sliceBound (.int kd m) cap (if isS = true then .slice3Acap else .slice3Alen)).run P w = .ok m.toNat w := zio (by omega) (by omega)
   have e1 : (Instr.sliceBound (.int kh m) m.toNat .slice3B).run P w = .ok m.toNat w := zio (by omega) (by omega)
   simp only [Sem.run_bind, e0, e1, Result.andThen_ok]
   rcases hl with ⟨rfl, rfl⟩ | ⟨kl, rfl⟩
   ·simp
   ·have e2 := zio (P := P) (w := w) (kd := kl) (y := m.toNat) (c := .slice3C) h0 (by omega : l ≤ (m.toNat : Int))
    simp [e2]
theorem ziJ {r : Row} {off n : Nat} (h : off + n ≤ r.len) : (r.cut off n).len = n := by
 cases r <;> simp only [Row.cut, Row.len] at h ⊢ <;> simp only [List.length_take, List.length_drop] <;> omega
theorem zoo {w : World} {ok : Nat → Prop} {sz : Nat} : ∀ {l : List (List PV)} {f : Nat → Option Value} (off : Nat), za4 w ok sz l f → za4 w ok sz (l.drop off) fun i => f (off * sz + i)
 | l, f, 0, h => by simpa using h
 | [], f, off + 1, h => by simp [za4]
 | e :: l, f, off + 1, h => by
  simp only [za4] at h
  have := zoo off h.2.2
  simp only [List.drop_succ_cons]
  have e1 : (fun i => f (off * sz + i + sz)) = fun i => f ((off + 1) * sz + i) := funext fun i => by congr 1; rw [Nat.add_mul]; omega
  rw [← e1]; exact this
theorem zop {w : World} {ok : Nat → Prop} {sz : Nat} : ∀ {l : List (List PV)} {f : Nat → Option Value} (n : Nat), za4 w ok sz l f → za4 w ok sz (l.take n) f
 | l, f, 0, h => by simp [za4]
 | [], f, n + 1, h => by simp [za4]
 | e :: l, f, n + 1, h => by
  simp only [za4, List.take_succ_cons] at h ⊢
  exact ⟨h.1, h.2.1, zop n h.2.2⟩
theorem zfK {w : World} {ok : Nat → Prop} {r : Row} {off n : Nat} {f : Nat → Option Value} (hf : off + n ≤ r.len) (h : zbb w ok r f) : zbb w ok (r.cut off n) fun i => f (off * r.esz + i) := by
 cases r with
 | ints k l =>
  intro i hi
  simp only [Row.len] at hf
  simp only [List.length_take, List.length_drop] at hi
  have := h (off + i) (by omega)
  simp only [Row.esz, Nat.mul_one]
  rw [this]
  simp [List.getD, List.getElem?_take, List.getElem?_drop, show i < n by omega]
 | bools l =>
  intro i hi
  simp only [Row.len] at hf
  simp only [List.length_take, List.length_drop] at hi
  have := h (off + i) (by omega)
  simp only [Row.esz, Nat.mul_one]
  rw [this]
  simp [List.getD, List.getElem?_take, List.getElem?_drop, show i < n by omega]
 | recs sz l => exact zop n (zoo off h)
theorem zot {P : Program} {w : World} {t : TypeId} (hn : ∀ n e, P.underlying t ≠ some (.array n e)) (d : TypeDesc) (hu : P.underlying t = some d) (v : Value) (lo hi mx : Option Value) :
  (Instr.sliceAt t v lo hi mx).run P w = (Instr.slice t v lo hi mx).run P w := by
 unfold Instr.sliceAt
 rw [Sem.run_bind, run_underlying hu, Result.andThen_ok]
 cases d <;> first | rfl | exact (hn _ _ hu).elim
theorem zpH {R : Type} {P : Program} {x : Cx} {t : TypeId} {xv : SV} {v : Value} {lo hi mx : Option SV} {vl vh vm : Option Value} {s : St} {k : SV → Ans R} {r : R} (hs : Sto x s.objs s.rows) (hv : RepS x xv v)
  (hlo : RepO x lo vl) (hhi : RepO x hi vh) (hmx : RepO x mx vm) (h : Says (zrQ P t xv lo hi mx s k) r) : zcx P x (Instr.sliceAt t v vl vh vm) k r := by
 unfold zrQ at h
 split at h
 ·rename_i b
  obtain ⟨hb, h⟩ := zar h
  simp only [Bool.and_eq_true] at hb
  obtain ⟨l, h, hl⟩ := zlK hlo h
  obtain ⟨hh, h, hh'⟩ := zlK hhi h
  obtain ⟨hc, hK⟩ := zce h
  clear h
  simp only [Bool.and_eq_true, decide_eq_true_eq] at hc
  obtain rfl : v = .string b := zjK hv
  obtain rfl : mx = none := by simpa using hb.1
  obtain rfl : vm = none := by cases vm with | none => rfl | some _ => exact hmx.elim
  have hu : P.underlying t = some .string := by
   have := hb.2
   unfold zqS at this
   split at this
   ·assumption
   ·cases this
  refine .pv (u := .string (b.extract l.toNat hh.toNat)) hK (fun w => ?_) (by simp only [RepP])
  rw [zot (by rw [hu]; intro n e h; cases h) _ hu]
  have e := zpz (P := P) (w := w) (isS := false) (len := b.size) (cap := b.size) (lo := vl) (hi := vh) (mx := none) (l := l) (h := hh) (m := hh)
   (hl.elim (fun ⟨_, a, b⟩ => .inl ⟨a, b⟩) (fun ⟨_, kd, _, a⟩ => .inr ⟨kd, a⟩)) (hh'.elim (fun ⟨_, a, b⟩ => .inl ⟨a, b⟩) (fun ⟨_, kd, _, a⟩ => .inr ⟨kd, a⟩)) (.inl rfl) hc.1.1 hc.1.2 hc.2 (Nat.le_refl _) rfl
  simp [Instr.slice, run_underlying hu, e]
 ·rename_i c hnot
  obtain ⟨hmh, h⟩ := zar h
  obtain ⟨e, he, h⟩ := zam h
  obtain ⟨r0, hr0, h⟩ := zam h
  obtain ⟨hone, hv⟩ := hv
  obtain ⟨len, h, hlen⟩ := zj3 hv h
  obtain ⟨l, h, hl⟩ := zlK hlo h
  obtain ⟨hh, h, hh'⟩ := zlK hhi h
  obtain ⟨m, h, hm'⟩ := zlK hmx h
  obtain ⟨hc, hM⟩ := zce h
  clear h
  simp only [Bool.and_eq_true, decide_eq_true_eq] at hc
  obtain ⟨⟨⟨h0l, hlh⟩, hhlen⟩, rfl⟩ := hc
  obtain ⟨hesz, hr0len, hr0is⟩ := zjL hr0
  have hu := zfL he
  have mach : ∀ a cap, v = .slice a len cap → len ≤ cap → ∀ w, (Instr.sliceAt t v vl vh vm).run P w =
    .ok (.slice (if (if vm = none then cap else m.toNat) = l.toNat then a else a.map (·.add (l.toNat * r0.esz))) (m - l).toNat ((if vm = none then cap else m.toNat) - l.toNat)) w := by
   intro a cap hv hle w
   subst hv
   rw [zot (by rw [hu]; intro n e h; cases h) _ hu]
   have e := zpz (P := P) (w := w) (isS := true) (len := len) (cap := cap) (lo := vl) (hi := vh) (mx := vm) (l := l) (h := m) (m := m)
    (hl.elim (fun ⟨_, a, b⟩ => .inl ⟨a, b⟩) (fun ⟨_, kd, _, a⟩ => .inr ⟨kd, a⟩)) (hh'.elim (fun ⟨_, a, b⟩ => .inl ⟨a, b⟩) (fun ⟨_, kd, _, a⟩ => .inr ⟨kd, a⟩))
    (hm'.elim (fun ⟨_, a, _⟩ => .inl a) (fun ⟨sm, kd, a1, a2⟩ => .inr ⟨⟨kd, a2⟩, by
     intro hn
     subst hn; subst a1
     cases hi with
     | none => simp at hmh
     | some _ => exact hhi.elim⟩)) h0l hlh hhlen hle rfl
   simp only [Instr.slice, Sem.run_bind, run_underlying hu, Result.andThen_ok, e, (zfV hesz).1, Sem.run_pure]
   congr 2
   omega
  have hvm : vm = none ↔ mx = none := by
   cases mx <;> cases vm <;> simp [RepO] at hmx ⊢
  have hvh : vh = none ↔ hi = none := by
   cases hi <;> cases vh <;> simp [RepO] at hhi ⊢
  have htight : ∀ {tt : Bool} {cap : Nat}, (tt = true → cap = len) → ziX mx hi tt = true → ((if vm = none then cap else m.toNat) - l.toNat) = (m - l).toNat := by
   intro tt cap htt htg
   unfold ziX at htg
   split at htg
   ·rename_i s1 _
    rw [if_neg (by rw [hvm]; simp)]; omega
   ·rw [if_pos (hvm.2 rfl)]
    rcases hh' with ⟨_, _, rfl⟩ | ⟨s1, kd, hx, _⟩
    ·rw [htt htg]; omega
    ·cases hx
   ·cases htg
  have hcaple : ∀ {cap : Nat}, len ≤ cap → (m - l).toNat ≤ (if vm = none then cap else m.toNat) - l.toNat := by
   intro cap hle
   split <;> omega
  have sl : ∀ {okr : Nat → Prop} {p : PV} {kk : Row → Bool → Ans R}, RepP x.w x.okP okr p v → Says (p.row r0 kk) r → (∀ {n' : Nat}, p.slen (R := Nat) (fun n => some (n, [])) = some (n', []) → n' = len) →
    ∃ rw tt, Says (kk rw tt) r ∧ (rw.esz = r0.esz → ∃ u, (∀ w, (Instr.sliceAt t v vl vh vm).run P w = .ok u w) ∧ RepP x.w x.okP okr ((rw.cut l.toNat (m - l).toNat).pv (ziX mx hi tt)) u) := by
   intro okr p kk hp h hpl
   obtain ⟨rw, tt, h, hsl, hcase⟩ := zgV hr0len (fun f => hr0is _ _ _) hp h
   refine ⟨rw, tt, h, fun hes => ?_⟩
   have hrl : rw.len = len := by
    rcases hcase with rfl | ⟨rfl, rfl | rfl⟩
    ·exact hpl (by cases rw <;> rfl)
    ·rw [hr0len]; exact hpl rfl
    ·rw [hr0len]; exact hpl rfl
   have hcut : l.toNat + (m - l).toNat ≤ rw.len := by omega
   rcases hsl with ⟨hx, hx0⟩ | ⟨b, o, cap, sp, hvv, hle, htt, hcell⟩
   ·refine ⟨_, mach none 0 (by rw [hx]; congr 1; omega) (by omega), zfb.2 (.inl ⟨?_, ?_⟩)⟩
    ·have : (m - l).toNat = 0 := by omega
     rw [this]
     congr 1
     ·simp
     ·split <;> omega
    ·rw [ziJ hcut]; omega
   ·rw [hrl] at hvv hle
    refine ⟨_, mach _ cap hvv hle, zfb.2 (.inr ?_)⟩
    rw [ziJ hcut]
    by_cases hz : (if vm = none then cap else m.toNat) = l.toNat
    ·rw [if_pos hz]
     refine ⟨b, o, _, sp, rfl, hcaple hle, fun htg => htight (fun h => by rw [htt h, hrl]) htg, fun hpos => ?_⟩
     exfalso
     have := hcaple hle
     omega
    ·rw [if_neg hz]
     refine ⟨b, o + l.toNat * r0.esz, _, if l.toNat * r0.esz = 0 then sp else none, by unfold Addr.add; split <;> simp_all, hcaple hle, fun htg => htight (fun h => by rw [htt h, hrl]) htg, fun hpos => ?_⟩
     obtain ⟨hspn, hok, hrow⟩ := hcell (by omega)
     refine ⟨by simp [hspn], hok, ?_⟩
     have := zfK hcut hrow
     rw [hes] at this
     simpa [Nat.add_assoc] using this
  have hcvlen : ∀ p : PV, (c = .pv p ∨ c = .bor p) → ∀ {n' : Nat}, p.slen (R := Nat) (fun n => some (n, [])) = some (n', []) → n' = len := by
   intro p hc n' hn'
   have : ∃ b o cap, ∃ sp, (v = .slice none 0 0 ∧ len = 0) ∨ v = .slice (some ⟨b, o, sp⟩) len cap := by
    rcases hlen with h | ⟨b, o, cap, sp, h, _⟩
    ·exact ⟨0, 0, 0, none, .inl h⟩
    ·exact ⟨b, o, cap, sp, .inr h⟩
   have hs2 : Says (p.slen (R := Nat) (fun n => some (n, []))) n' := ⟨[], hn', by simp⟩
   have hrp : ∃ okr, RepP x.w x.okP okr p v := by
    rcases hc with rfl | rfl
    ·exact ⟨_, hv⟩
    ·exact ⟨_, hv⟩
   obtain ⟨okr, hrp⟩ := hrp
   obtain ⟨n2, h2, h3⟩ := zoG hrp hs2
   obtain ⟨rfl, _⟩ := zuN h2
   obtain ⟨b, o, cap, sp, h4⟩ := this
   rcases h3 with ⟨h3, rfl⟩ | ⟨b', o', cap', sp', h3, _⟩ <;> rcases h4 with ⟨h4, rfl⟩ | h4
   ·rfl
   ·rw [h3] at h4; cases h4
   ·rw [h3] at h4; cases h4
   ·rw [h3] at h4; cases h4; rfl
  cases c with
  | pv p =>
   have hM' : (p = .nils ∧ Says (k (pone .nils)) r) ∨ Says (p.row r0 fun r t => chk (Nat.beq r.esz r0.esz) fun _ => k (pone ((r.cut l.toNat (m - l).toNat).pv (ziX mx hi t)))) r := by
    cases p <;> first | exact .inl ⟨rfl, hM⟩ | exact .inr hM
   clear hM
   rcases hM' with ⟨rfl, hM⟩ | hM
   ·have hv0 : v = .slice none 0 0 := by simpa only [RepC, RepP] using hv
    have hlen0 : len = 0 := by
     rcases hlen with ⟨_, h⟩ | ⟨b, o, cap, sp, h, _⟩
     ·exact h
     ·rw [hv0] at h; cases h
    have hl0 : l.toNat = 0 := by omega
    have hm0 : m.toNat = 0 := by omega
    have hml : (m - l).toNat = 0 := by omega
    refine .pv (u := .slice none 0 0) hM (fun w => ?_) (by simp only [RepP])
    rw [mach none 0 (by rw [hv0, hlen0]) (by omega)]
    simp [hl0, hm0, hml]
   obtain ⟨rw, tt, h, hf⟩ := sl hv hM (hcvlen p (.inl rfl))
   obtain ⟨hes, h⟩ := zar h
   obtain ⟨u, hrun, hp⟩ := hf (Nat.eq_of_beq_eq_true hes)
   exact .pv h hrun hp
  | bor p =>
   obtain ⟨rw, tt, h, hf⟩ := sl hv hM (hcvlen p (.inr rfl))
   obtain ⟨hes, h⟩ := zar h
   obtain ⟨u, hrun, hp⟩ := hf (Nat.eq_of_beq_eq_true hes)
   exact .one (c := .bor _) h hrun (zb1 hp) hp
  | own rr off n tt =>
   obtain ⟨rb, hrb, hM2⟩ := zam hM
   obtain ⟨hU, hrl, hown⟩ := hv
   have hn : n = len := by
    rcases hown with ⟨h1, h2⟩ | ⟨b, o, cap, h1, _⟩ <;> rcases hlen with ⟨h3, h4⟩ | ⟨b', o', cap', sp', h3, _⟩
    ·omega
    ·rw [h1] at h3; cases h3
    ·rw [h1] at h3; cases h3
    ·rw [h1] at h3; cases h3; rfl
   have go : ∀ z, x.g.rs rr = z → z = r0.esz → ∃ u, (∀ w, (Instr.sliceAt t v vl vh vm).run P w = .ok u w) ∧ u.oneCell' = true ∧ RepC x (.own rr (off + l.toNat) (m - l).toNat (ziX mx hi tt)) u := by
    intro z hz1 hz
    subst hz1
    rcases hown with ⟨hx, hx0⟩ | ⟨b, o, cap, hvv, hle, htt, hpos⟩
    ·refine ⟨_, mach none 0 (by rw [hx]; congr 1; omega) (by omega), rfl, hU, by omega, .inl ⟨?_, by omega⟩⟩
     have : (m - l).toNat = 0 := by omega
     rw [this]
     congr 1
     ·simp
     ·split <;> omega
    ·rw [hn] at hvv hle
     refine ⟨_, mach _ cap hvv hle, rfl, hU, by omega, .inr ?_⟩
     by_cases hz : (if vm = none then cap else m.toNat) = l.toNat
     ·rw [if_pos hz]
      refine ⟨b, o, _, rfl, hcaple hle, fun htg => htight (fun h => by rw [htt h, hn]) htg, fun hp => ?_⟩
      exfalso; omega
     ·rw [if_neg hz]
      refine ⟨b, o + l.toNat * r0.esz, _, by simp [Addr.add_lit], hcaple hle, fun htg => htight (fun h => by rw [htt h, hn]) htg, fun hp => ?_⟩
      obtain ⟨hb, ho, hfit⟩ := hpos (by have := hcaple hle; split at hp <;> omega)
      refine ⟨hb, by rw [ho, ‹x.g.rs rr = r0.esz›, Nat.add_mul], Nat.le_trans (Nat.mul_le_mul_right _ ?_) hfit⟩
      split <;> omega
   cases rb with
   | live rw =>
    obtain ⟨hes, h⟩ := zar hM2
    obtain ⟨hes', _⟩ := hs.liveE hrb
    obtain ⟨u, hrun, h1, hp⟩ := go _ hes'.symm (Nat.eq_of_beq_eq_true hes)
    exact .one h hrun h1 hp
   | froz rw =>
    obtain ⟨hes, h⟩ := zar hM2
    obtain ⟨hes', _⟩ := hs.frozE hrb
    obtain ⟨u, hrun, h1, hp⟩ := go _ hes'.symm (Nat.eq_of_beq_eq_true hes)
    exact .one h hrun h1 hp
   | gone => exact (zal hM2).elim
  | ref => exact (zal hM).elim
  | iadr => exact (zal hM).elim
  | radr => exact (zal hM).elim
  | dead => exact (zal hM).elim
  | mp => exact (zal hM).elim
  | fn => exact (zal hM).elim
  | stamp => exact (zal hM).elim
  | maph => exact (zal hM).elim
  | sit => exact (zal hM).elim
 ·exact (zal h).elim
theorem zpD {R : Type} {P : Program} {x : Cx} {t : TypeId} {xv iv : SV} {v u : Value} {k : SV → Ans R} {r : R} (hv : RepS x xv v) (hu : RepS x iv u) (ht : zqS P t = true) (h : Says (zrO xv iv k) r) :
  zcx P x (Instr.index t v u) k r := by
 have hty : P.underlying t = some .string := by
  unfold zqS at ht
  split at ht
  ·assumption
  ·cases ht
 unfold zrO at h
 split at h
 ·rename_i s
  obtain ⟨kd, n, hi, h1⟩ := zdz h
  clear h
  obtain ⟨hb, h2⟩ := zce h1
  clear h1
  rw [hi] at hu
  obtain rfl := zfg hu
  obtain rfl := zjK hv
  simp only [Bool.and_eq_true, decide_eq_true_eq] at hb
  refine .int h2 (fun w => ?_)
  have hlt : n.toNat < s.size := by omega
  have hget : s[n.toNat]? = some (s.data.getD n.toNat 0) := by
   rw [getElem?_pos s n.toNat hlt]
   congr 1
   have h3 : n.toNat < s.data.size := hlt
   simp only [Array.getD, h3, dif_pos]
   rfl
  simp [Instr.index, asIntOf, run_underlying hty, hb.1, hget]
 ·exact (zal h).elim
theorem zuK {op : BinOp} {b : Bool} {p : PV} (h : neg? op b = some p) : (op = .eql ∧ p = .bool b) ∨ (op = .neq ∧ p = .bool (!b)) := by
 unfold neg? at h
 split at h <;> cases h <;> simp
end Go.Ev
namespace Go.Ev
set_option linter.unusedVariables false
set_option linter.unusedSimpArgs false
theorem zg5 {P : Program} {w : World} {t : TypeId} (x y : Value) (b : Bool) (h : ∀ d, (Op.equalIn (d + 1) t x y).run P w = .ok b w) : (Op.equal t x y).run P w = .ok b w := h 9999
theorem zku {P : Program} {w : World} {t : TypeId} (ht : P.underlying t = some .bool) (a b : Bool) : (Op.equal t (.bool a) (.bool b)).run P w = .ok (a == b) w :=
 zg5 _ _ _ fun d => by simp [Op.equalIn, run_underlying ht]
theorem zlG {P : Program} {w : World} {t e : TypeId} (ht : P.underlying t = some (.pointer e)) (a : Option Addr) : (Op.equal t (.pointer a) (.pointer none)).run P w = .ok a.isNone w := by
 cases a with
 | none => exact zg5 _ _ _ fun d => by simp [Op.equalIn, run_underlying ht]
 | some a => exact zg5 _ _ _ fun d => by simp [Op.equalIn, run_underlying ht]
theorem zmE {P : Program} {w : World} {t e : TypeId} (ht : P.underlying t = some (.slice e)) (a : Option Addr) (n c : Nat) : (Op.equal t (.slice a n c) (.slice none 0 0)).run P w = .ok a.isNone w := by
 cases a with
 | none => exact zg5 _ _ _ fun d => by simp [Op.equalIn, run_underlying ht]
 | some a => exact zg5 _ _ _ fun d => by simp [Op.equalIn, run_underlying ht]
theorem zj4 {R : Type} {op : BinOp} {b : Bool} {k : SV → Ans R} {r : R} (h : Says (zav (neg? op b) fun p => k (pone p)) r) : (op = .eql ∧ Says (k (zo9 b)) r) ∨ (op = .neq ∧ Says (k (zo9 (!b))) r) := by
 obtain ⟨p, hp, h⟩ := zam h
 rcases zuK hp with ⟨rfl, rfl⟩ | ⟨rfl, rfl⟩
 ·exact .inl ⟨rfl, h⟩
 ·exact .inr ⟨rfl, h⟩
theorem zqz (a b : ByteArray) : (a.toList == b.toList) = decide (a = b) := by
 by_cases e : a = b
 ·subst e; simp
 ·have : a.toList ≠ b.toList := fun h => e (by
   rw [ByteArray.toList_eq, ByteArray.toList_eq] at h
   cases a; cases b
   congr 1
   exact Array.ext' h)
  simp [e, this]
theorem zrm {R : Type} {P : Program} {x : Cx} {t : TypeId} {op : BinOp} {kx ky : IntKind} {a b : Int} {k : SV → Ans R} {r : R} (h : Says (zwp op kx a ky b k) r) :
  zcx P x (binOp op t (.int kx a) (.int ky b)) k r := by
 unfold zwp at h
 cases op
 case shl =>
  obtain ⟨hb, h1⟩ := zce h
  simp only [decide_eq_true_eq] at hb
  refine .int h1 (fun _ => ?_)
  simp [binOp, Op.shift, show ¬ b < 0 by omega]
 case shr =>
  obtain ⟨hb, h1⟩ := zce h
  simp only [decide_eq_true_eq] at hb
  refine .int h1 (fun _ => ?_)
  simp [binOp, Op.shift, show ¬ b < 0 by omega]
 case quo =>
  obtain ⟨hk, h1⟩ := zar h
  obtain ⟨hb, h2⟩ := zce h1
  simp only [decide_eq_true_eq] at hk
  simp at hb
  subst hk
  refine .int h2 (fun _ => ?_)
  simp [binOp, Op.intDiv, hb]
 case rem =>
  obtain ⟨hk, h1⟩ := zar h
  obtain ⟨hb, h2⟩ := zce h1
  simp only [decide_eq_true_eq] at hk
  simp at hb
  subst hk
  refine .int h2 (fun _ => ?_)
  simp [binOp, Op.intDiv, hb]
 all_goals
  obtain ⟨hk, h1⟩ := zar h
  obtain ⟨p, hp, h2⟩ := zam h1
  simp only [decide_eq_true_eq] at hk
  clear h h1
  subst hk
  simp only [ibin, Option.some.injEq] at hp
  subst hp
  first
  | (refine .int h2 (fun _ => ?_); simp [binOp, Op.intArith, Op.intBits]; done)
  | (refine .bool h2 (fun _ => ?_); simp [binOp, Op.intCmp]; done)
  | (refine .bool h2 (fun _ => ?_); simp [binOp, Op.intCmp]; rfl)
  | (refine .bool h2 (fun _ => ?_); simp only [binOp, Op.intCmp]; simp [bne, BEq.beq]; done)
  | (refine .bool h2 (fun _ => ?_); simp only [binOp, Op.intCmp]; by_cases e : a = b <;> simp [e]; done)
theorem zrn {R : Type} {P : Program} {x : Cx} {t : TypeId} {op : BinOp} {a b : ByteArray} {k : SV → Ans R} {r : R} (h0 : Says (sbin op a b fun p => k (pone p)) r) :
  zcx P x (binOp op t (.string a) (.string b)) k r := by
 have hl := zqz a b
 unfold sbin at h0
 cases op
 case add =>
  obtain ⟨hb, h1⟩ := zce h0
  simp only [decide_eq_true_eq] at hb
  refine .pv (u := .string (a ++ b)) h1 (fun _ => ?_) (by simp [RepP])
  have : ¬ ((a.size + b.size : Nat) : Int) > IntKind.i64.max := by rw [IntKind.max_i64]; omega
  simp only [binOp, Op.stringOp, this, if_false, Sem.run_pure]
 case eql => exact .bool h0 (fun _ => by simp [binOp, Op.stringOp, hl])
 case neq => exact .bool h0 (fun _ => by simp [binOp, Op.stringOp, hl])
 case lss => exact .bool h0 (fun _ => by simp [binOp, Op.stringOp])
 case leq => exact .bool h0 (fun _ => by simp only [binOp, Op.stringOp, hl, Sem.run_pure])
 case gtr => exact .bool h0 (fun _ => by simp only [binOp, Op.stringOp, hl, Sem.run_pure])
 case geq => exact .bool h0 (fun _ => by simp [binOp, Op.stringOp])
 all_goals exact (zal h0).elim
theorem zwP {P : Program} {x : Cx} {t : TypeId} {c d : CV} {u v : Value} {b : Bool} (h : scEq P t c d = some b) (hu : RepC x c u) (hv : RepC x d v) (n : Nat) (w : World) :
  (isAgg t).run P w = .ok false w ∧ (Op.equalIn (n + 1) t u v).run P w = .ok b w := by
 unfold scEq at h
 split at h
 ·rename_i kk k a k' b' ht
  simp only [RepC, RepP] at hu hv
  subst hu hv
  by_cases hk : k = k'
  ·subst hk
   simp only [decide_true, cond_true, Option.some.injEq] at h
   refine ⟨by simp [isAgg, run_underlying ht], ?_⟩
   rw [run_equalIn_int w n t k kk a b' ht, ← h]
   congr 1
  ·simp [hk] at h
 ·rename_i a b' ht
  simp only [RepC, RepP] at hu hv
  subst hu hv
  simp only [Option.some.injEq] at h
  refine ⟨by simp [isAgg, run_underlying ht], ?_⟩
  rw [run_equalIn_string w n t a b' ht, zqz, h]
 ·rename_i a b' ht
  simp only [RepC, RepP] at hu hv
  subst hu hv
  simp only [Option.some.injEq] at h
  refine ⟨by simp [isAgg, run_underlying ht], ?_⟩
  rw [run_equalIn_bool' w n t a b' ht, h]
 ·cases h
theorem znb {x : Cx} : ∀ {l : List CV} {vs : List Value} {i : Nat} {c : CV}, RepL x l vs → l[i]? = some c → ∃ v, vs[i]? = some v ∧ RepC x c v
 | [], [], i, c, _, h => by simp at h
 | d :: l, v :: vs, 0, c, hl, h => by simp at h; subst h; exact ⟨v, rfl, hl.1.2⟩
 | d :: l, v :: vs, i + 1, c, hl, h => by
  obtain ⟨u, h1, h2⟩ := znb hl.2 (by simpa using h : l[i]? = some c)
  exact ⟨u, by simpa using h1, h2⟩
theorem ztR {P : Program} {x : Cx} {l m : List CV} {xs ys : Array Value} (hl : RepL x l xs.toList) (hm : RepL x m ys.toList) (n : Nat) (w : World) : ∀ {fs : List Field} {b : Bool}, eqF P l m fs = some b →
  (Op.eqFields (n + 1) xs ys fs).run P w = .ok b w
 | [], b, h => by simp [eqF] at h; subst h; simp [Op.eqFields]
 | f :: fs, b, h => by
  unfold eqF at h
  cases hf : (f.name == "_") with
  | true => rw [hf] at h; cases h
  | false =>
   rw [hf] at h
   simp only [cond_false] at h
   split at h
   ·rename_i c d hc hd
    split at h
    ·rename_i b1 r h1 h2
     cases h
     obtain ⟨u, hu, hru⟩ := znb hl hc
     obtain ⟨v, hv, hrv⟩ := znb hm hd
     obtain ⟨ha, he⟩ := zwP (P := P) h1 hru hrv n w
     have ih := ztR hl hm n w h2
     have hu' : xs[f.offset]? = some u := by simpa using hu
     have hv' : ys[f.offset]? = some v := by simpa using hv
     have hne : f.name ≠ "_" := by simpa using hf
     have hp1 : (Go.part f.type xs f.offset).run P w = .ok u w := by simp [Go.part, ha, hu']
     have hp2 : (Go.part f.type ys f.offset).run P w = .ok v w := by simp [Go.part, ha, hv']
     unfold Op.eqFields
     rw [if_pos hne]
     cases b1 <;> simp [hp1, hp2, he, ih]
    ·cases h
   ·cases h
theorem zs8 {R : Type} {P : Program} {x : Cx} {t : TypeId} {op : BinOp} {a b : SV} {v u : Value} {k : SV → Ans R} {r : R} (ox oy : Operand) (hv : RepS x a v) (hu : RepS x b u) (h : Says (zwm P t op a b k) r) :
  zcx P x (do eqGuard op t ox oy v u; binOp op t v u) k r := by
 unfold zwm at h
 split at h
 ·rename_i kx a ky b
  rw [zfg hv, zfg hu, eqGuard_at_int]
  exact zrm h
 ·rename_i a b
  rw [zjK hv, zjK hu, eqGuard_at_string]
  exact zrn h
 ·rename_i a b
  obtain ⟨ht, h1⟩ := zar h
  rw [zhz hv, zhz hu, eqGuard_at_bool]
  have hty : P.underlying t = some .bool := by
   unfold zt5 at ht
   split at ht
   ·assumption
   ·cases ht
  rcases zj4 h1 with ⟨ho, h2⟩ | ⟨ho, h2⟩
  ·rw [ho]; exact .bool h2 (fun _ => by simp [binOp, zku hty])
  ·rw [ho]; exact .bool h2 (fun _ => by simp [binOp, zku hty])
 ·rename_i c
  obtain ⟨ht, h1⟩ := zar h
  obtain ⟨e, hty⟩ : ∃ e, P.underlying t = some (.pointer e) := by
   unfold zv3 at ht
   split at ht
   ·exact ⟨_, by assumption⟩
   ·cases ht
  have hu2 : u = .pointer none := by obtain ⟨_, hu⟩ := hu; simpa only [RepC, RepP] using hu
  have hv2 : RepC x c v := hv.2
  have : ∃ pa : Option Addr, v = .pointer pa ∧ Says (zav (neg? op pa.isNone) fun p => k (pone p)) r := by
   unfold zxk at h1
   split at h1
   ·simp only [RepC, RepP] at hv2; exact ⟨none, hv2, h1⟩
   ·simp only [RepC, RepP] at hv2; obtain ⟨b, o, hv2, _⟩ := hv2; exact ⟨_, hv2, h1⟩
   ·exact ⟨_, hv2.2, h1⟩
   ·exact (zal h1).elim
  obtain ⟨pa, hpa, h2⟩ := this
  rw [hpa, hu2, eqGuard_at_pointer]
  rcases zj4 h2 with ⟨ho, h3⟩ | ⟨ho, h3⟩
  ·rw [ho]; exact .bool h3 (fun _ => by simp [binOp, zlG hty])
  ·rw [ho]; exact .bool h3 (fun _ => by simp [binOp, zlG hty])
 ·rename_i c
  obtain ⟨ht, h1⟩ := zar h
  obtain ⟨e, hty⟩ : ∃ e, P.underlying t = some (.slice e) := by
   unfold zxe at ht
   split at ht
   ·exact ⟨_, by assumption⟩
   ·cases ht
  have hu2 : u = .slice none 0 0 := by obtain ⟨_, hu⟩ := hu; simpa only [RepC, RepP] using hu
  have hv2 : RepC x c v := hv.2
  have : ∃ (pa : Option Addr) (n m : Nat), v = .slice pa n m ∧ Says (zav (neg? op pa.isNone) fun p => k (pone p)) r := by
   unfold zxl at h1
   split at h1
   ·simp only [RepC, RepP] at hv2; exact ⟨none, 0, 0, hv2, h1⟩
   ·simp only [RepC, RepP] at hv2; obtain ⟨b, o, cap, sp, hv2⟩ := hv2; exact ⟨_, _, _, hv2, h1⟩
   ·simp only [RepC, RepP] at hv2; exact ⟨none, 0, 0, hv2, h1⟩
   ·simp only [RepC, RepP] at hv2; obtain ⟨b, o, cap, sp, hv2⟩ := hv2; exact ⟨_, _, _, hv2, h1⟩
   ·obtain ⟨n, h2, hn⟩ := zj3 hv2 h1
    obtain ⟨hb, h3⟩ := zce h2
    rcases hn with ⟨_, hn0⟩ | ⟨b, o, cap, sp, hv3, _⟩
    ·rw [hn0] at hb; simp at hb
    ·exact ⟨_, _, _, hv3, h3⟩
  obtain ⟨pa, n, m, hpa, h2⟩ := this
  rw [hpa, hu2, eqGuard_at_slice]
  rcases zj4 h2 with ⟨ho, h3⟩ | ⟨ho, h3⟩
  ·rw [ho]; exact .bool h3 (fun _ => by simp [binOp, zmE hty])
  ·rw [ho]; exact .bool h3 (fun _ => by simp [binOp, zmE hty])
 ·rename_i l m
  obtain ⟨hck, h1⟩ := zar h
  simp only [Bool.and_eq_true, Bool.not_eq_true'] at hck
  split at h1
  ·rename_i fs ht
   obtain ⟨b, hb, h2⟩ := zam h1
   obtain ⟨xs, hxs, hL⟩ := hv
   obtain ⟨ys, hys, hM⟩ := hu
   have hfs : P.fieldsOf t = fs := by simp [Program.fieldsOf, ht]
   have heq : ∀ w, (Op.equalIn 10000 t (.agg xs) (.agg ys)).run P w = .ok b w := fun w => by
    rw [run_equalIn_struct w 9999 t xs ys (by rw [hfs]; exact ht) hck.1, hfs]
    exact ztR hL hM 9998 w hb
   rw [hxs, hys]
   rcases zj4 h2 with ⟨ho, h3⟩ | ⟨ho, h3⟩
   ·rw [ho]
    refine .bool h3 (fun w => ?_)
    rw [Sem.run_bind, run_eqGuard_agg w _ t ox oy xs ys hck.2, Result.andThen_ok, run_eql_struct, heq]
    rfl
   ·rw [ho]
    refine .bool h3 (fun w => ?_)
    rw [Sem.run_bind, run_eqGuard_agg w _ t ox oy xs ys hck.2, Result.andThen_ok, run_neq_struct, heq]
    rfl
  ·exact (zal h1).elim
 ·exact (zal h).elim
theorem zmD {P : Program} {w : World} {t : TypeId} {ms : Array (String × TypeId)} (ht : P.underlying t = some (.interface ms)) : (Op.equal t .nilIface .nilIface).run P w = .ok true w :=
 zg5 _ _ _ fun d => by simp [Op.equalIn, run_underlying ht]
theorem zlF {P : Program} {w : World} {t u : TypeId} {v : Value} {ms : Array (String × TypeId)} (ht : P.underlying t = some (.interface ms)) : (Op.equal t (.iface u v) .nilIface).run P w = .ok false w :=
 zg5 _ _ _ fun d => by simp [Op.equalIn, run_underlying ht]
theorem zrw {R : Type} {P : Program} {x : Cx} {t : TypeId} {op : BinOp} {a : SV} {v : Value} {k : SV → Ans R} {r : R} (ox : Operand) (hv : RepS x a v) (h : Says (zvY P t op a k) r) :
  zcx P x (do eqGuard op t ox (.const .nilIface) v .nilIface; binOp op t v .nilIface) k r := by
 obtain ⟨ht, h1⟩ := zar h
 obtain ⟨ms, hty⟩ : ∃ ms, P.underlying t = some (.interface ms) := by
  unfold zxd at ht
  split at ht
  ·exact ⟨_, by assumption⟩
  ·cases ht
 obtain ⟨c, rfl, h2⟩ := zdf h1
 have hv2 : RepC x c v := hv.2
 unfold zxj at h2
 split at h2
 ·simp only [RepC, RepP] at hv2
  rw [hv2]
  have hg : eqGuard op t ox (.const .nilIface) .nilIface .nilIface = pure () := by cases op <;> cases ox <;> rfl
  rw [hg]
  rcases zj4 h2 with ⟨ho, h3⟩ | ⟨ho, h3⟩
  ·rw [ho]; exact .bool h3 (fun _ => by simp [binOp, zmD hty])
  ·rw [ho]; exact .bool h3 (fun _ => by simp [binOp, zmD hty])
 ·simp only [RepC, RepP] at hv2
  obtain ⟨tt, u, hv2⟩ := hv2
  rw [hv2]
  have hg : eqGuard op t ox (.const .nilIface) (.iface tt u) .nilIface = pure () := by cases op <;> rfl
  rw [hg]
  rcases zj4 h2 with ⟨ho, h3⟩ | ⟨ho, h3⟩
  ·rw [ho]; exact .bool h3 (fun _ => by simp [binOp, zlF hty])
  ·rw [ho]; exact .bool h3 (fun _ => by simp [binOp, zlF hty])
 ·exact (zal h2).elim
theorem zuO {R : Type} {P : Program} {x : Cx} {op : UnOp} {a : SV} {v : Value} {k : SV → Ans R} {r : R} (hv : RepS x a v) (h : Says (evUn op a k) r) : zcx P x (Op.unary op v) k r := by
 cases op
 case not =>
  obtain ⟨b, hb, h1⟩ := zj6 h
  rw [hb] at hv
  rw [zhz hv]
  exact .bool h1 (fun _ => by simp [Op.unary])
 case neg =>
  obtain ⟨kd, n, hn, h1⟩ := zdz h
  rw [hn] at hv
  rw [zfg hv]
  exact .int h1 (fun _ => by simp [Op.unary, Op.intArith])
 case xor =>
  obtain ⟨kd, n, hn, h1⟩ := zdz h
  obtain ⟨p, hp, h2⟩ := zam h1
  rw [hn] at hv
  rw [zfg hv]
  simp only [ibin, Option.some.injEq] at hp
  rw [← hp] at h2
  exact .int h2 (fun _ => by simp [Op.unary, Op.intBits])
 case plus => exact (zal h).elim
theorem zs9 {R : Type} {P : Program} {x : Cx} {t ty : TypeId} {a : SV} {v : Value} {k : SV → Ans R} {r : R} (hv : RepS x a v) (h : Says (zwq P t a k) r) : zcx P x (Builtin.len_ #[t] ty #[v]) k r := by
 unfold zwq at h
 split at h
 ·rename_i s hu
  rw [zjK hv]
  exact .int h (fun _ => by simp [Builtin.len_, run_underlying hu, goInt])
 ·rename_i e c hu
  obtain ⟨n, h1, hn⟩ := zj3 hv.2 h
  rcases hn with ⟨hv1, hn0⟩ | ⟨b, o, cap, sp, hv1, _⟩
  ·rw [hv1]
   refine .int h1 (fun _ => ?_)
   simp [Builtin.len_, run_underlying hu, goInt, hn0]
  ·rw [hv1]
   refine .int h1 (fun _ => ?_)
   simp [Builtin.len_, run_underlying hu, goInt]
 ·exact (zal h).elim
theorem zvM {R : Type} {P : Program} {x : Cx} {t ty : TypeId} {a : SV} {v : Value} {k : SV → Ans R} {r : R} (hv : RepS x a v) (h : Says (zwn P t a k) r) : zcx P x (Builtin.cap_ #[t] ty #[v]) k r := by
 unfold zwn at h
 have tight : ∀ {w : World} {ok : Nat → Prop} {n : Nat} {F : (Nat → Option Value) → Prop}, SlAt w ok n true v F → ∃ a, v = .slice a n n := by
  intro w ok n F hs
  rcases hs with ⟨h1, h2⟩ | ⟨b, o, cap, sp, h1, _, ht, _⟩
  ·exact ⟨none, by rw [h1, h2]⟩
  ·exact ⟨_, by rw [h1, ht rfl]⟩
 split at h
 ·rename_i e hu
  have := hv.2
  simp only [RepC, RepP] at this
  rw [this]
  exact .int h (fun _ => by simp [Builtin.cap_, run_underlying hu, goInt])
 ·rename_i e kd l hu
  have := hv.2
  simp only [RepC, RepP] at this
  obtain ⟨a, ha⟩ := tight this
  rw [ha]
  exact .int h (fun _ => by simp [Builtin.cap_, run_underlying hu, goInt])
 ·rename_i e sz l hu
  have := hv.2
  simp only [RepC, RepP] at this
  obtain ⟨a, ha⟩ := tight this
  rw [ha]
  exact .int h (fun _ => by simp [Builtin.cap_, run_underlying hu, goInt])
 ·rename_i e rr off n hu
  obtain ⟨_, _, hown⟩ := hv.2
  have ha : ∃ a, v = .slice a n n := by
   rcases hown with ⟨h1, h2⟩ | ⟨b, o, cap, h1, _, ht, _⟩
   ·exact ⟨none, by rw [h1, h2]⟩
   ·exact ⟨_, by rw [h1, ht rfl]⟩
  obtain ⟨a, ha⟩ := ha
  rw [ha]
  exact .int h (fun _ => by simp [Builtin.cap_, run_underlying hu, goInt])
 ·exact (zal h).elim
theorem zjN {R : Type} {P : Program} {x : Cx} {f : SV → SV → (SV → Ans R) → Ans R} {g : Value → Value → Sem Value}
  (hf : ∀ {a b : SV} {v u : Value} {k : SV → Ans R} {r : R}, RepS x a v → RepS x b u → Says (f a b k) r → zcx P x (g v u) k r) :
  ∀ {l : List SV} {vs : List Value} {a : SV} {v : Value} {k : SV → Ans R} {r : R}, RepS x a v → zfN x l vs → Says (zvm f a l k) r → zcx P x (vs.foldlM g v) k r
 | [], [], a, v, k, r, hv, _, h => ⟨v, a, fun _ => rfl, hv, h⟩
 | b :: l, u :: vs, a, v, k, r, hv, hl, h => by
  obtain ⟨hu, hl⟩ := hl
  obtain ⟨z, sv, hrun, hz, h1⟩ := hf hv hu h
  obtain ⟨z2, sv2, hrun2, hz2, h2⟩ := zjN hf hz hl h1
  exact ⟨z2, sv2, fun w => by simp [hrun, hrun2], hz2, h2⟩
theorem zrv {R : Type} {P : Program} {x : Cx} {a b : SV} {v u : Value} {k : SV → Ans R} {r : R} (hv : RepS x a v) (hu : RepS x b u) (h : Says (zvX a b k) r) : zcx P x (Builtin.min2 v u) k r := by
 obtain ⟨kx, n, hn, h1⟩ := zdz h
 obtain ⟨ky, m, hm, h2⟩ := zdz h1
 rw [hn] at hv; rw [hm] at hu
 rw [zfg hv, zfg hu]
 exact .int h2 (fun _ => by simp [Builtin.min2])
theorem zru {R : Type} {P : Program} {x : Cx} {a b : SV} {v u : Value} {k : SV → Ans R} {r : R} (hv : RepS x a v) (hu : RepS x b u) (h : Says (zvW a b k) r) : zcx P x (Builtin.max2 v u) k r := by
 obtain ⟨kx, n, hn, h1⟩ := zdz h
 obtain ⟨ky, m, hm, h2⟩ := zdz h1
 rw [hn] at hv; rw [hm] at hu
 rw [zfg hv, zfg hu]
 exact .int h2 (fun _ => by simp [Builtin.max2])
end Go.Ev
set_option linter.unusedSectionVars false
namespace Go.Ev
variable [DLaw]
set_option linter.unusedVariables false
set_option linter.unusedSimpArgs false
theorem zbb.mono {w w' : World} {ok ok' : Nat → Prop} (hk : ∀ b, ok b → ok' b) (hb : ∀ b, ok b → w'.heap[b]? = w.heap[b]?) {rw : Row} {f : Nat → Option Value} (h : zbb w ok rw f) : zbb w' ok' rw f := by
 cases rw with
 | ints k l => exact h
 | bools l => exact h
 | recs sz l => exact za4.mono hk hb sz l h
theorem zhN.mono {x y : Cx} (h : Ext x y) (hg : x.g.Le y.g) {b : Nat} {l : List CV} (ho : zhN x b l) (hb : y.w.heap[b]? = x.w.heap[b]?) : zhN y b l := by
 rcases ho with ⟨c, e, fr, hh, hn, hl⟩ | ho
 ·exact .inl ⟨c, e, fr, by rw [hb]; exact hh, hn, hl.mono h hg⟩
 ·refine .inr ?_
  unfold zhO at ho ⊢
  split at ho
  ·obtain ⟨es, clock, h1, h2, h3, h4, h5⟩ := ho
   exact ⟨es, clock, by rw [hb]; exact h1, h2.mono (fun _ hb => h.okP hb) (fun b hb => h.blk b hb.1 hb.2.1), h3, h4, fun z hz => ⟨hg.U _ (h5 z hz).1, by
    obtain ⟨hu, j, m, w1, w2, w3, w4, w5⟩ := h5 z hz
    exact ⟨j, m, w1, by rw [hg.ob _ hu]; exact w2, w3, w4.mono (fun _ hb => h.okP hb) (fun b hb => h.blk b hb.1 hb.2.1), w5⟩⟩⟩
  ·exact hb.trans ho
  ·exact ho.elim
theorem zg0.mono {x y : Cx} (h : Ext x y) (hg : x.g.Le y.g) {r : Nat} {rw : Row} (hu : x.g.U r) (ho : zg0 x r rw) (hb : y.w.heap[x.g.rb r]? = x.w.heap[x.g.rb r]?) : zg0 y r rw := by
 obtain ⟨c, e, fr, hh, hn, h1, h2, h3, h4, h6⟩ := ho
 refine ⟨c, e, fr, by rw [hg.rb r hu, hb]; exact hh, hn, by rw [hg.rc r hu]; exact h1, by rw [hg.rs r hu]; exact h2, by rw [hg.rl r hu]; exact h3, h4, ?_⟩
 exact zbb.mono (fun _ hb => h.okP hb) (fun b hb => h.blk b hb.1 hb.2.1) h6
theorem Vir.mono {x y : Cx} (hg : x.g.Le y.g) {r : Nat} {rw : Row} (hu : x.g.U r) (h : Vir x r rw) : Vir y r rw := by
 obtain ⟨h1, h2, h3, h4, h5⟩ := h
 exact ⟨by rw [hg.rc r hu]; exact h1, by rw [hg.rs r hu]; exact h2, by rw [hg.rl r hu]; exact h3, h4, h5⟩
theorem zmC {rw : Row} {off n : Nat} (h : rw.len = 0) : (rw.cut off n).len = 0 := by
 cases rw <;> simp_all [Row.cut, Row.len]
structure Grow (x y : Cx) : Prop where
 ext : Ext x y
 g : x.g.Le y.g
 same : ∀ b, b < x.w.heap.size → y.w.heap[b]? = x.w.heap[b]?
 S : ∀ b, x.S b → y.S b
 lt : ∀ b, y.S b → b < y.w.heap.size
theorem Sto.grow {x y : Cx} (h : Grow x y) {objs : List (Nat × Obj)} {rows : List (Nat × RowB)} (hs : Sto x objs rows) : Sto y objs rows where
 obj o l hl := by
  obtain ⟨hu, hS, ho⟩ := hs.obj o l hl
  exact ⟨h.g.U o hu, by rw [h.g.ob o hu]; exact h.S _ hS, by rw [h.g.ob o hu]; exact ho.mono h.ext h.g (h.same _ (hs.Slt _ hS))⟩
 live r rw hl := by
  obtain ⟨hu, ho⟩ := hs.live r rw hl
  exact ⟨h.g.U r hu, ho.imp (fun ⟨hS, ho⟩ => ⟨by rw [h.g.rb r hu]; exact h.S _ hS, ho.mono h.ext h.g hu (h.same _ (hs.Slt _ hS))⟩) fun hv => hv.mono h.g hu⟩
 froz r rw hl := by
  obtain ⟨hu, ho⟩ := hs.froz r rw hl
  exact ⟨h.g.U r hu, ho.imp (fun ⟨hS, ho⟩ => ⟨by rw [h.g.rb r hu]; exact h.ext.okP hS, ho.mono h.ext h.g hu (h.same _ hS.1)⟩) fun hv => hv.mono h.g hu⟩
 injO o o' l l' hl hl' he := by
  have hu := (hs.obj o l hl).1
  have hu' := (hs.obj o' l' hl').1
  rw [h.g.ob o hu, h.g.ob o' hu'] at he
  exact hs.injO o o' l l' hl hl' he
 injR r r' rw rw' hl hl' hv hv' he := by
  have hu := (hs.live r rw hl).1
  have hu' := (hs.live r' rw' hl').1
  rw [h.g.rb r hu, h.g.rb r' hu'] at he
  exact hs.injR r r' rw rw' hl hl' (fun h' => hv (h'.mono h.g hu)) (fun h' => hv' (h'.mono h.g hu')) he
 injX o r l rw hl hl' hv := by
  have hu := (hs.obj o l hl).1
  have hu' := (hs.live r rw hl').1
  rw [h.g.ob o hu, h.g.rb r hu']
  exact hs.injX o r l rw hl hl' (fun h' => hv (h'.mono h.g hu'))
 Slt := h.lt
 Blt b hb := Nat.lt_of_lt_of_le (hs.Blt b (by rw [h.ext.B] at hb; exact hb)) h.ext.size
 SB b hb hB := by
  rw [h.ext.B] at hB
  rcases h.ext.S b hb with h1 | h1
  ·exact hs.SB b h1 hB
  ·have := hs.Blt b hB; omega
def zfd {R : Type} (P : Program) (x : Cx) (nw : Nat → Prop) (s : St) (e : Sem Value) (k : SV → St → Ans R) (r : R) : Prop :=
 ∃ u sv s' y, e.run P x.w = .ok u y.w ∧ Ext x y ∧ x.g.Le y.g ∧ (∀ n, y.g.U n → x.g.U n ∨ nw n) ∧ Sto y s'.objs s'.rows ∧ s'.slots = s.slots ∧ RepS y sv u ∧ Says (k sv s') r
theorem zcx.turns {R : Type} {P : Program} {x : Cx} {nw : Nat → Prop} {s : St} {e : Sem Value} {k : SV → St → Ans R} {r : R} (hs : Sto x s.objs s.rows) (h : zcx P x e (fun v => k v s) r) : zfd P x nw s e k r := by
 obtain ⟨u, sv, hr, hv, h⟩ := h
 exact ⟨u, sv, s, x, hr _, Ext.refl x, G.Le.refl _, fun n h => .inl h, hs, rfl, hv, h⟩
theorem zfd.same {R : Type} {P : Program} {x : Cx} {nw : Nat → Prop} {s : St} {e : Sem Value} {k : SV → St → Ans R} {r : R} {a : AV} {u : Value} (hs : Sto x s.objs s.rows) (h : Says (k (.av a) s) r) (hr : e.run P x.w = .ok u x.w) (ha : RepA x a u) : zfd P x nw s e k r :=
 ⟨u, .av a, s, x, hr, Ext.refl x, G.Le.refl _, fun n h => .inl h, hs, rfl, ha, h⟩
def G.newO (g : G) (n b : Nat) : G := { g with ob := fun m => if m = n then b else g.ob m, U := fun m => g.U m ∨ m = n }
def G.newR (g : G) (n b rs rc rl : Nat) : G :=
 { g with rb := fun m => if m = n then b else g.rb m, rs := fun m => if m = n then rs else g.rs m, rc := fun m => if m = n then rc else g.rc m, rl := fun m => if m = n then rl else g.rl m, U := fun m => g.U m ∨ m = n }
theorem G.le_newO {g : G} {n b : Nat} (h : ¬ g.U n) : g.Le (g.newO n b) :=
 ⟨fun _ h => .inl h, fun m hm => by simp only [G.newO]; rw [if_neg (by rintro rfl; exact h hm)], fun _ _ => rfl, fun _ _ => rfl, fun _ _ => rfl, fun _ _ => rfl⟩
theorem G.le_newR {g : G} {n b rs rc rl : Nat} (h : ¬ g.U n) : g.Le (g.newR n b rs rc rl) :=
  ⟨fun _ h => .inl h, fun _ _ => rfl, fun m hm => by simp only [G.newR]; rw [if_neg (by rintro rfl; exact h hm)], fun m hm => by simp only [G.newR]; rw [if_neg (by rintro rfl; exact h hm)],
   fun m hm => by simp only [G.newR]; rw [if_neg (by rintro rfl; exact h hm)], fun m hm => by simp only [G.newR]; rw [if_neg (by rintro rfl; exact h hm)]⟩
theorem zhw {w : World} {o : Go.Obj} {b : Nat} (h : b < w.heap.size) : (w.alloc o).heap[b]? = w.heap[b]? := by
 simp only [World.alloc, Array.getElem?_push]; rw [if_neg (by omega)]
theorem zeM {w : World} {o : Go.Obj} : (w.alloc o).heap[w.heap.size]? = some o := by
 show (w.heap.push o)[w.heap.size]? = some o
 simp
def Cx.more (x : Cx) (o : Go.Obj) (g : G) : Cx := { w := x.w.alloc o, g := g, S := fun b => x.S b ∨ b = x.w.heap.size, B := x.B }
theorem Cx.grow_more {x : Cx} {o : Go.Obj} {g : G} (hg : x.g.Le g) (hlt : ∀ b, x.S b → b < x.w.heap.size) : Grow x (x.more o g) where
 ext := ⟨rfl, rfl, rfl, by simp [Cx.more], fun b hb _ => zhw hb, fun b hb => hb.imp id (fun h => by omega), rfl, fun _ => Nat.le_refl _⟩
 g := hg
 same b hb := zhw hb
 S b hb := .inl hb
 lt b hb := by
  simp only [Cx.more, World.size_alloc]
  rcases hb with hb | hb
  ·have := hlt b hb; omega
  ·omega
def Cx.last (x : Cx) (o : Go.Obj) : Cx := { x with w := x.w.alloc o }
theorem Cx.grow_last {x : Cx} {o : Go.Obj} (hlt : ∀ b, x.S b → b < x.w.heap.size) : Grow x (x.last o) where
 ext := ⟨rfl, rfl, rfl, by simp [Cx.last], fun b hb _ => zhw hb, fun b hb => .inl hb, rfl, fun _ => Nat.le_refl _⟩
 g := G.Le.refl _
 same b hb := zhw hb
 S b hb := hb
 lt b hb := by
  simp only [Cx.last, World.size_alloc]
  have := hlt b hb; omega
theorem zqs {x : Cx} {objs : List (Nat × Obj)} {rows : List (Nat × RowB)} {nm : Nat} {l : List CV} {c : Array Value} {e : TypeId} (hs : Sto x objs rows) (hn : ¬ x.g.U nm) (hl : RepL x l c.toList) :
  Grow x (x.more (.cells c e) (x.g.newO nm x.w.heap.size)) ∧ Sto (x.more (.cells c e) (x.g.newO nm x.w.heap.size)) ((nm, l) :: objs) rows ∧
  RepC (x.more (.cells c e) (x.g.newO nm x.w.heap.size)) (.ref nm 0) (.pointer (some ⟨x.w.heap.size, 0, none⟩)) := by
 have hg := Cx.grow_more (o := .cells c e) (G.le_newO (b := x.w.heap.size) hn) hs.Slt
 have h2 := hs.grow hg
 have hob : (x.g.newO nm x.w.heap.size).ob nm = x.w.heap.size := by simp [G.newO]
 have hold : ∀ o l', lkup o objs = some l' → (x.g.newO nm x.w.heap.size).ob o ≠ x.w.heap.size := by
  intro o l' hl' he
  have := hs.Slt _ (hs.obj o l' hl').2.1
  rw [(G.le_newO (b := x.w.heap.size) hn).ob o (hs.obj o l' hl').1] at he
  omega
 refine ⟨hg, ⟨?_, h2.live, h2.froz, ?_, h2.injR, ?_, h2.Slt, h2.Blt, h2.SB⟩, ⟨.inr rfl, by simp [Cx.more, hob]⟩⟩
 ·intro o l' hl'
  rw [zao] at hl'
  split at hl'
  ·rename_i he
   cases hl'
   rw [he]
   refine ⟨.inr rfl, ?_, ?_⟩
   ·show x.S _ ∨ _ = _
    exact .inr hob
   ·show zhN _ ((x.g.newO nm x.w.heap.size).ob nm) l
    rw [hob]
    exact .inl ⟨c, e, (0, 0), zeM, .inl rfl, hl.mono hg.ext hg.g⟩
  ·exact h2.obj o l' hl'
 ·intro o o' l1 l2 h1 h3 he
  rw [zao] at h1 h3
  split at h1 <;> split at h3
  ·omega
  ·rename_i e1 e2
   rw [e1] at he
   exact absurd (he.symm.trans hob) (hold _ _ h3)
  ·rename_i e1 e2
   rw [e2] at he
   exact absurd (he.trans hob) (hold _ _ h1)
  ·exact h2.injO o o' l1 l2 h1 h3 he
 ·intro o r l1 rw h1 h3 hv
  rw [zao] at h1
  split at h1
  ·rename_i e1
   rw [e1]
   intro he
   have h4 := (hs.live r rw h3)
   have h5 := hs.Slt _ (h4.2.resolve_right fun h' => hv (h'.mono hg.g h4.1)).1
   have h6 : (x.g.newO nm x.w.heap.size).rb r = x.g.rb r := rfl
   have h7 : (x.g.newO nm x.w.heap.size).ob nm = (x.g.newO nm x.w.heap.size).rb r := he
   rw [hob, h6] at h7
   omega
  ·exact h2.injX o r l1 rw h1 h3 hv
theorem ztb {x : Cx} {objs : List (Nat × Obj)} {rows : List (Nat × RowB)} {nm : Nat} {l : List CV} {blk : Go.Obj} (hs : Sto x objs rows) (hn : ¬ x.g.U nm) (hl : zhN (x.more blk (x.g.newO nm x.w.heap.size)) x.w.heap.size l) :
  Grow x (x.more blk (x.g.newO nm x.w.heap.size)) ∧ Sto (x.more blk (x.g.newO nm x.w.heap.size)) ((nm, l) :: objs) rows ∧
  (x.g.newO nm x.w.heap.size).ob nm = x.w.heap.size := by
 have hg := Cx.grow_more (o := blk) (G.le_newO (b := x.w.heap.size) hn) hs.Slt
 have h2 := hs.grow hg
 have hob : (x.g.newO nm x.w.heap.size).ob nm = x.w.heap.size := by simp [G.newO]
 have hold : ∀ o l', lkup o objs = some l' → (x.g.newO nm x.w.heap.size).ob o ≠ x.w.heap.size := by
  intro o l' hl' he
  have := hs.Slt _ (hs.obj o l' hl').2.1
  rw [(G.le_newO (b := x.w.heap.size) hn).ob o (hs.obj o l' hl').1] at he
  omega
 refine ⟨hg, ⟨?_, h2.live, h2.froz, ?_, h2.injR, ?_, h2.Slt, h2.Blt, h2.SB⟩, hob⟩
 ·intro o l' hl'
  rw [zao] at hl'
  split at hl'
  ·rename_i he
   cases hl'
   rw [he]
   refine ⟨.inr rfl, ?_, ?_⟩
   ·show x.S _ ∨ _ = _
    exact .inr hob
   ·show zhN _ ((x.g.newO nm x.w.heap.size).ob nm) l
    rw [hob]
    exact hl
  ·exact h2.obj o l' hl'
 ·intro o o' l1 l2 h1 h3 he
  rw [zao] at h1 h3
  split at h1 <;> split at h3
  ·omega
  ·rename_i e1 e2
   rw [e1] at he
   exact absurd (he.symm.trans hob) (hold _ _ h3)
  ·rename_i e1 e2
   rw [e2] at he
   exact absurd (he.trans hob) (hold _ _ h1)
  ·exact h2.injO o o' l1 l2 h1 h3 he
 ·intro o r l1 rw h1 h3 hv
  rw [zao] at h1
  split at h1
  ·rename_i e1
   rw [e1]
   intro he
   have h4 := (hs.live r rw h3)
   have h5 := hs.Slt _ (h4.2.resolve_right fun h' => hv (h'.mono hg.g h4.1)).1
   have h6 : (x.g.newO nm x.w.heap.size).rb r = x.g.rb r := rfl
   have h7 : (x.g.newO nm x.w.heap.size).ob nm = (x.g.newO nm x.w.heap.size).rb r := he
   rw [hob, h6] at h7
   omega
  ·exact h2.injX o r l1 rw h1 h3 hv
theorem zlP {x : Cx} {objs : List (Nat × Obj)} {rows : List (Nat × RowB)} {nm : Nat} {rw : Row} {c : Array Value} {e : TypeId} {fr : Nat × Nat} (hs : Sto x objs rows) (hn : ¬ x.g.U nm) (hf : NoFr c fr) (hlen : rw.len * rw.esz ≤ c.size)
  (hrow : zbb x.w x.okP rw fun i => c[i]?) :
  Grow x (x.more (.cells c e fr) (x.g.newR nm x.w.heap.size rw.esz c.size rw.len)) ∧ Sto (x.more (.cells c e fr) (x.g.newR nm x.w.heap.size rw.esz c.size rw.len)) objs ((nm, .live rw) :: rows) := by
 have hg := Cx.grow_more (o := .cells c e fr) (G.le_newR (b := x.w.heap.size) (rs := rw.esz) (rc := c.size) (rl := rw.len) hn) hs.Slt
 have h2 := hs.grow hg
 have hob : (x.g.newR nm x.w.heap.size rw.esz c.size rw.len).rb nm = x.w.heap.size := by simp [G.newR]
 have hold : ∀ r rw', lkup r rows = some (.live rw') → ¬ Vir x r rw' → (x.g.newR nm x.w.heap.size rw.esz c.size rw.len).rb r ≠ x.w.heap.size := by
  intro o l' hl' hv he
  have := hs.Slt _ ((hs.live o l' hl').2.resolve_right hv).1
  rw [(G.le_newR (b := x.w.heap.size) (rs := rw.esz) (rc := c.size) (rl := rw.len) hn).rb o (hs.live o l' hl').1] at he
  omega
 refine ⟨hg, ⟨h2.obj, ?_, ?_, h2.injO, ?_, ?_, h2.Slt, h2.Blt, h2.SB⟩⟩
 ·intro r rw' hl'
  rw [zao] at hl'
  split at hl'
  ·rename_i he
   cases hl'
   rw [he]
   refine ⟨.inr rfl, .inl ⟨?_, ?_⟩⟩
   ·show x.S _ ∨ _ = _
    exact .inr hob
   ·refine ⟨c, e, fr, ?_, hf, by simp [Cx.more, G.newR], by simp [Cx.more, G.newR], by simp [Cx.more, G.newR], hlen, zbb.mono (fun _ hb => hg.ext.okP hb) (fun b hb => hg.ext.blk b hb.1 hb.2.1) hrow⟩
    show (x.w.alloc _).heap[(x.g.newR nm x.w.heap.size rw.esz c.size rw.len).rb nm]? = _
    rw [hob]
    exact zeM
  ·exact h2.live r rw' hl'
 ·intro r rw' hl'
  rw [zao] at hl'
  split at hl'
  ·cases hl'
  ·exact h2.froz r rw' hl'
 ·intro o o' l1 l2 h1 h3 hv hv' he
  rw [zao] at h1 h3
  split at h1 <;> split at h3
  ·omega
  ·rename_i e1 e2
   rw [e1] at he
   exact absurd (he.symm.trans hob) (hold _ _ h3 fun h' => hv' (h'.mono hg.g (hs.live _ _ h3).1))
  ·rename_i e1 e2
   rw [e2] at he
   exact absurd (he.trans hob) (hold _ _ h1 fun h' => hv (h'.mono hg.g (hs.live _ _ h1).1))
  ·exact h2.injR o o' l1 l2 h1 h3 hv hv' he
 ·intro o r l1 rw' h1 h3 hv
  rw [zao] at h3
  split at h3
  ·rename_i e1
   rw [e1]
   intro he
   have h4 := (hs.obj o l1 h1)
   have h5 := hs.Slt _ h4.2.1
   have h7 : (x.g.newR nm x.w.heap.size rw.esz c.size rw.len).ob o = (x.g.newR nm x.w.heap.size rw.esz c.size rw.len).rb nm := he
   rw [hob] at h7
   have h8 : (x.g.newR nm x.w.heap.size rw.esz c.size rw.len).ob o = x.g.ob o := rfl
   omega
  ·exact h2.injX o r l1 rw' h1 h3 hv
theorem zsl {x : Cx} {r off n : Nat} {t : Bool} {v : Value} {rw : Row} {okr : Nat → Prop} (hc : RepC x (.own r off n t) v) (hrow : zg0 x r rw) (hok : okr (x.g.rb r)) :
  RepP x.w x.okP okr ((rw.cut off n).pv t) v := by
 obtain ⟨hu, hlen, ho⟩ := hc
 obtain ⟨c, e, fr, hh, hn, hsz, hes, hrl, hle, his⟩ := hrow
 have hcut : off + n ≤ rw.len := by omega
 refine zfb.2 ?_
 rw [ziJ hcut]
 rcases ho with h | ⟨b, o, cap, hv, hncap, ht, hpos⟩
 ·exact .inl h
 ·refine .inr ⟨b, o, cap, none, hv, hncap, ht, fun h0 => ?_⟩
  obtain ⟨rfl, rfl, hfit⟩ := hpos (by omega)
  refine ⟨rfl, hok, ?_⟩
  have := zfK (f := fun i => x.w.cell? ⟨x.g.rb r, i, none⟩) hcut (by simpa using zor hh his)
  rw [hes] at this
  exact this
theorem zqr {x : Cx} {r off n : Nat} {t : Bool} {v : Value} {rw : Row} {ok okr : Nat → Prop} (hc : RepC x (.own r off n t) v) (hv : Vir x r rw) :
  RepP x.w ok okr ((rw.cut off n).pv t) v := by
 refine zfb.2 ?_
 obtain ⟨h1, h2, h3⟩ := hv.own hc
 rw [zmC hv.2.2.2.1]
 rcases h3 with h3 | ⟨b, o, h3⟩
 ·exact .inl ⟨h3, rfl⟩
 ·exact .inr ⟨b, o, 0, none, h3, Nat.le_refl _, fun _ => rfl, fun h => absurd h (Nat.lt_irrefl _)⟩
theorem zhl {x : Cx} {r off n : Nat} {t : Bool} {v : Value} {rw : Row} (hc : RepC x (.own r off n t) v) (h : x.okP (x.g.rb r) ∧ zg0 x r rw ∨ Vir x r rw) :
  RepP x.w x.okP x.okP ((rw.cut off n).pv t) v :=
 h.elim (fun h => zsl hc h.2 h.1) fun h => zqr hc h
def Cx.close (x : Cx) (r : Nat) : Cx := { x with S := fun b => x.S b ∧ b ≠ x.g.rb r }
theorem zlb {x : Cx} {objs : List (Nat × Obj)} {rows : List (Nat × RowB)} {r : Nat} {rw : Row} (hs : Sto x objs rows) (hr : lkup r rows = some (.live rw)) :
  ∃ y : Cx, y.w = x.w ∧ y.g = x.g ∧ Ext x y ∧ Sto y objs ((r, .froz rw) :: rows) ∧ (y.okP (y.g.rb r) ∧ zg0 y r rw ∨ Vir y r rw) := by
 obtain ⟨hu, hv | ⟨hnv, hS, hrow⟩⟩ := hs.liveC hr
 ·refine ⟨x, rfl, rfl, Ext.refl x, ⟨hs.obj, ?_, ?_, hs.injO, ?_, ?_, hs.Slt, hs.Blt, hs.SB⟩, .inr hv⟩
  ·intro r' rw' hl
   rw [zao] at hl
   split at hl
   ·cases hl
   ·exact hs.live r' rw' hl
  ·intro r' rw' hl
   rw [zao] at hl
   split at hl
   ·rename_i he
    cases hl
    rw [he]
    exact ⟨hu, .inr hv⟩
   ·exact hs.froz r' rw' hl
  ·intro r1 r2 rw1 rw2 h1 h2
   rw [zao] at h1 h2
   split at h1
   ·cases h1
   ·split at h2
    ·cases h2
    ·exact hs.injR r1 r2 rw1 rw2 h1 h2
  ·intro o r1 l rw1 h1 h2
   rw [zao] at h2
   split at h2
   ·cases h2
   ·exact hs.injX o r1 l rw1 h1 h2
 have hx : Ext x (x.close r) := ⟨rfl, rfl, rfl, Nat.le_refl _, fun _ _ _ => rfl, fun b hb => .inl hb.1, rfl, fun _ => Nat.le_refl _⟩
 have hok : (x.close r).okP (x.g.rb r) := ⟨hs.Slt _ hS, fun h => h.2 rfl, hs.SB _ hS⟩
 have hrow' : zg0 (x.close r) r rw := hrow.mono hx (G.Le.refl _) hu rfl
 refine ⟨x.close r, rfl, rfl, hx, ⟨?_, ?_, ?_, hs.injO, ?_, ?_, fun b hb => hs.Slt b hb.1, hs.Blt, fun b hb => hs.SB b hb.1⟩, .inl ⟨hok, hrow'⟩⟩
 ·intro o l hl
  obtain ⟨h1, h2, h3⟩ := hs.obj o l hl
  exact ⟨h1, ⟨h2, hs.injX o r l rw hl hr hnv⟩, h3.mono hx (G.Le.refl _) rfl⟩
 ·intro r' rw' hl
  rw [zao] at hl
  split at hl
  ·cases hl
  ·rename_i hne
   obtain ⟨h1, h2 | ⟨hnv', h2, h3⟩⟩ := hs.liveC hl
   ·exact ⟨h1, .inr h2⟩
   ·exact ⟨h1, .inl ⟨⟨h2, fun he => hne (hs.injR r' r rw' rw hl hr hnv' hnv he)⟩, h3.mono hx (G.Le.refl _) h1 rfl⟩⟩
 ·intro r' rw' hl
  rw [zao] at hl
  split at hl
  ·rename_i he
   cases hl
   rw [he]
   exact ⟨hu, .inl ⟨hok, hrow'⟩⟩
  ·obtain ⟨h1, h2⟩ := hs.froz r' rw' hl
   exact ⟨h1, h2.imp (fun ⟨h2, h3⟩ => ⟨hx.okP h2, h3.mono hx (G.Le.refl _) h1 rfl⟩) id⟩
 ·intro r1 r2 rw1 rw2 h1 h2
  rw [zao] at h1 h2
  split at h1
  ·cases h1
  ·split at h2
   ·cases h2
   ·exact hs.injR r1 r2 rw1 rw2 h1 h2
 ·intro o r1 l rw1 h1 h2
  rw [zao] at h2
  split at h2
  ·cases h2
  ·exact hs.injX o r1 l rw1 h1 h2
theorem zmq {R : Type} {x : Cx} {c : CV} {v : Value} {s : St} {k : PV → St → Ans R} {r : R} (hs : Sto x s.objs s.rows) (hc : RepC x c v) (h : Says (ztm c s k) r) :
  ∃ p s' y, Ext x y ∧ y.g = x.g ∧ y.w = x.w ∧ Sto y s'.objs s'.rows ∧ s'.slots = s.slots ∧ s'.objs = s.objs ∧ RepP y.w y.okP y.okP p v ∧ Says (k p s') r := by
 unfold ztm at h
 split at h
 ·exact ⟨_, s, x, Ext.refl x, rfl, rfl, hs, rfl, rfl, hc, h⟩
 ·rename_i rr off n t
  obtain ⟨rb, hrb, h1⟩ := zam h
  clear h
  cases rb with
  | live rw =>
   obtain ⟨y, hw, hg, hx, hs', hrow⟩ := zlb hs hrb
   exact ⟨_, { s with rows := (rr, .froz rw) :: s.rows }, y, hx, hg, hw, hs', rfl, rfl, zhl (hc.mono hx (by rw [hg]; exact G.Le.refl _)) hrow, h1⟩
  | froz rw =>
   exact ⟨_, s, x, Ext.refl x, rfl, rfl, hs, rfl, rfl, zhl hc (hs.froz _ _ hrb).2, h1⟩
  | gone => exact (zal h1).elim
 ·exact (zal h).elim
def zi3 (x : Cx) : List PV → List Value → Prop
 | [], [] => True
 | p :: ps, v :: vs => RepP x.w x.okP x.okP p v ∧ zi3 x ps vs
 | _, _ => False
theorem zi3.mono {x y : Cx} (h : Ext x y) : ∀ {ps : List PV} {vs : List Value}, zi3 x ps vs → zi3 y ps vs
 | [], [], _ => trivial
 | _ :: _, _ :: _, hl => ⟨h.repP hl.1, zi3.mono h hl.2⟩
theorem zi3.length {x : Cx} : ∀ {ps : List PV} {vs : List Value}, zi3 x ps vs → ps.length = vs.length
 | [], [], _ => rfl
 | _ :: _, _ :: _, hl => by simp [zi3.length hl.2]
theorem zi3.one {x : Cx} : ∀ {ps : List PV} {vs : List Value}, zi3 x ps vs → ∀ v ∈ vs, v.oneCell' = true
 | [], [], _ => by simp
 | _ :: _, _ :: _, hl => by
  intro v hv
  rcases List.mem_cons.1 hv with rfl | hv
  ·exact zb1 hl.1
  ·exact zi3.one hl.2 v hv
theorem zi3.ps {x : Cx} : ∀ {ps : List PV} {vs : List Value} {f : Nat → Option Value}, zi3 x ps vs → (∀ i v, vs[i]? = some v → f i = some v) → zbx x.w x.okP ps f
 | [], [], f, _, _ => by simp [zbx]
 | p :: ps, v :: vs, f, h, hf => by
  simp only [zbx]
  exact ⟨⟨v, hf 0 v (by simp), h.1⟩, zi3.ps h.2 (fun i u hu => hf (i + 1) u (by simpa using hu))⟩
theorem zga {R : Type} : ∀ {x : Cx} {cs : List CV} {vs : List Value} {s : St} {k : List PV → St → Ans R} {r : R}, Sto x s.objs s.rows → RepL x cs vs → Says (zqX cs s k) r →
  ∃ ps s' y, Ext x y ∧ y.g = x.g ∧ y.w = x.w ∧ Sto y s'.objs s'.rows ∧ s'.slots = s.slots ∧ s'.objs = s.objs ∧ zi3 y ps vs ∧ Says (k ps s') r
 | x, [], [], s, k, r, hs, _, h => ⟨[], s, x, Ext.refl x, rfl, rfl, hs, rfl, rfl, trivial, h⟩
 | x, c :: cs, v :: vs, s, k, r, hs, hl, h => by
  obtain ⟨p, s1, y, hx, hg, hw, hs1, hsl, hso, hp, h1⟩ := zmq hs hl.1.2 h
  obtain ⟨ps, s2, z, hx2, hg2, hw2, hs2, hsl2, hso2, hps, h2⟩ := zga hs1 (hl.2.mono hx (by rw [hg]; exact G.Le.refl _)) h1
  exact ⟨p :: ps, s2, z, hx.trans hx2, hg2.trans hg, hw2.trans hw, hs2, hsl2.trans hsl, hso2.trans hso, ⟨hx2.repP hp, hps⟩, h2⟩
end Go.Ev
set_option linter.unusedSectionVars false
namespace Go.Ev
variable [DLaw]
set_option linter.unusedVariables false
set_option linter.unusedSimpArgs false
def zdR (w : World) (b : Nat) (o : Go.Obj) : World := { w with heap := w.heap.setIfInBounds b o }
theorem zd7 {w : World} {b : Nat} {o : Go.Obj} (h : b < w.heap.size) : (zdR w b o).heap[b]? = some o := by simp [zdR, h]
theorem zeF {w : World} {b b' : Nat} {o : Go.Obj} (h : b' ≠ b) : (zdR w b o).heap[b']? = w.heap[b']? := by
 simp only [zdR]
 rw [Array.getElem?_setIfInBounds]
 rw [if_neg (fun he => h he.symm)]
theorem zcu {w : World} {b : Nat} {o : Go.Obj} : (zdR w b o).heap.size = w.heap.size := by simp [zdR]
theorem zpd {w : World} {b off : Nat} {v : Value} {c : Array Value} {e : TypeId} {fr : Nat × Nat} (h : w.heap[b]? = some (.cells c e fr)) :
  w.setCell ⟨b, off, none⟩ v = zdR w b (.cells (c.setIfInBounds off v) e fr) := by
 unfold World.setCell zdR
 congr 1
 apply Array.ext_getElem?
 intro i
 rw [Array.getElem?_modify, Array.getElem?_setIfInBounds]
 have hb : b < w.heap.size := by
  rcases Nat.lt_or_ge b w.heap.size with h' | h'
  ·exact h'
  ·simp [Array.getElem?_eq_none h'] at h
 by_cases he : b = i
 ·subst he
  obtain ⟨lo, hi⟩ := fr
  have h2 : w.heap[b] = .cells c e (lo, hi) := by rw [Array.getElem?_eq_getElem hb] at h; exact Option.some.inj h
  simp [hb, h2]
 ·simp [he]
theorem ze3 {P : Program} {b : Nat} {e : TypeId} {fr : Nat × Nat} {off : Nat} : ∀ {vs : List Value} {w : World} {c : Array Value} {i : Nat}, w.heap[b]? = some (.cells c e fr) → NoFr c fr →
  off + i + vs.length ≤ c.size → (∀ v ∈ vs, v.oneCell' = true) →
  (storeCells ⟨b, off, none⟩ vs i).run P w = .ok () (zdR w b (.cells (setL c.toList (off + i) vs).toArray e fr))
 | [], w, c, i, h, hn, hl, h1 => by
  simp only [storeCells, Sem.run_pure, setL, Array.toArray_toList]
  have : zdR w b (.cells c e fr) = w := by
   unfold zdR
   have : w.heap.setIfInBounds b (.cells c e fr) = w.heap := by
    apply Array.ext_getElem?
    intro j
    rw [Array.getElem?_setIfInBounds]
    split
    ·rename_i hj; subst hj
     split
     ·exact h.symm
     ·rename_i hlt; simp [Array.getElem?_eq_none (Nat.le_of_not_lt hlt)] at h
    ·rfl
   rw [this]
  rw [this]
 | v :: vs, w, c, i, h, hn, hl, h1 => by
  simp only [List.length_cons] at hl
  have hb : b < w.heap.size := by
   rcases Nat.lt_or_ge b w.heap.size with h' | h'
   ·exact h'
   ·simp [Array.getElem?_eq_none h'] at h
  have hcell : w.cell? ⟨b, off + i, none⟩ = some c[off + i] := by
   simp [World.cell?, h, show off + i < c.size by omega]
  have hfr : w.frozen? ⟨b, off + i, none⟩ = false := by
   have := hn.at (off + i) (by omega)
   simp only [World.frozen?, h]
   simp only [Bool.and_eq_false_iff, decide_eq_false_iff_not]
   omega
  have hst : (store ⟨b, off + i, none⟩ v).run P w = .ok () (zdR w b (.cells (c.setIfInBounds (off + i) v) e fr)) := by
   rw [run_store P w _ v .plain (h1 v (by simp))]
   simp only [stored, hcell, hfr]
   rw [← zpd h]
   rfl
  have h2 : (zdR w b (.cells (c.setIfInBounds (off + i) v) e fr)).heap[b]? = some (.cells (c.setIfInBounds (off + i) v) e fr) := zd7 hb
  have ih := ze3 (P := P) (vs := vs) (off := off) (fr := fr) (i := i + 1) h2 (by unfold NoFr at hn ⊢; rw [Array.size_setIfInBounds]; exact hn) (by rw [Array.size_setIfInBounds]; omega) (fun u hu => h1 u (by simp [hu]))
  simp only [storeCells, Sem.run_bind, Addr.add_lit, hst, Result.andThen_ok, ih]
  have : zdR (zdR w b (.cells (c.setIfInBounds (off + i) v) e fr)) b (.cells (setL (c.setIfInBounds (off + i) v).toList (off + (i + 1)) vs).toArray e fr) =
    zdR w b (.cells (setL c.toList (off + i) (v :: vs)).toArray e fr) := by
   unfold zdR
   simp only [Array.setIfInBounds_setIfInBounds, setL, Array.toList_setIfInBounds, Nat.add_assoc]
  rw [this]
theorem zsX {x : Cx} : ∀ {l : List CV} {vs : List Value} {i : Nat} {c : CV} {v : Value}, RepL x l vs → v.oneCell' = true → RepC x c v → RepL x (l.set i c) (vs.set i v)
 | [], [], _, _, _, _, _, _ => trivial
 | d :: l, u :: vs, 0, c, v, h, h1, hc => ⟨⟨h1, hc⟩, h.2⟩
 | d :: l, u :: vs, i + 1, c, v, h, h1, hc => ⟨h.1, zsX h.2 h1 hc⟩
theorem zol {x : Cx} : ∀ {cs : List CV} {us : List Value} {l : List CV} {vs : List Value} {i : Nat}, RepL x l vs → RepL x cs us → RepL x (setL l i cs) (setL vs i us)
 | [], [], l, vs, i, h, _ => h
 | c :: cs, u :: us, l, vs, i, h, hc => by
  simp only [setL]
  exact zol (zsX h hc.1.1 hc.1.2) hc.2
theorem zcM {α : Type} : ∀ {cs l : List α} {i : Nat}, (setL l i cs).length = l.length
 | [], l, i => rfl
 | c :: cs, l, i => by simp only [setL]; rw [zcM]; simp
theorem zeL {α : Type} : ∀ {cs l : List α} {i j : Nat}, (setL l i cs)[j]? = if i ≤ j ∧ j < i + cs.length ∧ j < l.length then cs[j - i]? else l[j]?
 | [], l, i, j => by simp only [setL, List.length_nil]; rw [if_neg (by omega)]
 | c :: cs, l, i, j => by
  simp only [setL]
  rw [zeL]
  simp only [List.length_set, List.length_cons, List.getElem?_set]
  by_cases h1 : i + 1 ≤ j ∧ j < i + 1 + cs.length ∧ j < l.length
  ·rw [if_pos h1, if_pos (by omega)]
   rw [show j - i = j - (i + 1) + 1 by omega]; simp
  ·rw [if_neg h1]
   by_cases h2 : i = j
   ·subst h2
    by_cases h3 : i < l.length
    ·simp [h3]
    ·rw [if_neg (by omega : ¬ (i ≤ i ∧ i < i + (cs.length + 1) ∧ i < l.length))]; simp [List.getElem?_eq_none (Nat.le_of_not_lt h3), h3]
   ·rw [if_neg h2]
    rw [if_neg (by omega)]
theorem zeU {x : Cx} {a : AV} {v : Value} (h : RepA x a v) : RepL x a.cells v.cells.toList := by
 cases a with
 | one c =>
  have : v.cells = #[v] := by cases v <;> first | rfl | (exact absurd h.1 (by simp [Value.oneCell']))
  rw [this]
  exact ⟨h, trivial⟩
 | agg l =>
  obtain ⟨cs, rfl, hl⟩ := h
  exact hl
theorem zlB {x : Cx} : ∀ {l : List CV} {vs : List Value}, RepL x l vs → ∀ v ∈ vs, v.oneCell' = true
 | [], [], _ => by simp
 | _ :: _, _ :: _, hl => by
  intro v hv
  rcases List.mem_cons.1 hv with rfl | hv
  ·exact hl.1.1
  ·exact zlB hl.2 v hv
def Cx.put (x : Cx) (b : Nat) (o : Go.Obj) : Cx := { x with w := zdR x.w b o }
theorem Cx.ext_put {x : Cx} {b : Nat} {o : Go.Obj} (h : x.S b) : Ext x (x.put b o) :=
 ⟨rfl, rfl, rfl, by simp [Cx.put, zcu], fun b' hb hS => zeF (fun he => hS (he ▸ h)), fun _ hb => .inl hb, rfl, fun _ => Nat.le_refl _⟩
theorem ztc {x : Cx} {objs : List (Nat × Obj)} {rows : List (Nat × RowB)} {o : Nat} {ob l : Obj} {blk : Go.Obj} (hs : Sto x objs rows) (hob : lkup o objs = some ob) (hat : zhN (x.put (x.g.ob o) blk) (x.g.ob o) l) :
  Ext x (x.put (x.g.ob o) blk) ∧ Sto (x.put (x.g.ob o) blk) ((o, l) :: objs) rows := by
 obtain ⟨hu, hS, _⟩ := hs.obj _ _ hob
 have hx : Ext x (x.put (x.g.ob o) blk) := Cx.ext_put hS
 have hother : ∀ b, b ≠ x.g.ob o → (x.put (x.g.ob o) blk).w.heap[b]? = x.w.heap[b]? := fun b hb => zeF hb
 refine ⟨hx, ?_⟩
 ·refine ⟨?_, ?_, ?_, ?_, hs.injR, ?_, fun b hb => by simp only [Cx.put, zcu]; exact hs.Slt b hb, fun b hb => by simp only [Cx.put, zcu]; exact hs.Blt b hb, hs.SB⟩
  ·intro o' l' hl'
   rw [zao] at hl'
   split at hl'
   ·rename_i he
    cases hl'
    rw [he]
    exact ⟨hu, hS, hat⟩
   ·rename_i hne
    obtain ⟨h1, h2, h3⟩ := hs.obj o' l' hl'
    exact ⟨h1, h2, h3.mono hx (G.Le.refl _) (hother _ (fun he => hne (hs.injO _ _ _ _ hl' hob he)))⟩
  ·intro r rw' hl'
   obtain ⟨h1, h2 | ⟨hnv, h2, h3⟩⟩ := hs.liveC hl'
   ·exact ⟨h1, .inr h2⟩
   ·exact ⟨h1, .inl ⟨h2, h3.mono hx (G.Le.refl _) h1 (hother _ (fun he => hs.injX _ _ _ _ hob hl' hnv he.symm))⟩⟩
  ·intro r rw' hl'
   obtain ⟨h1, h2⟩ := hs.froz r rw' hl'
   exact ⟨h1, h2.imp (fun ⟨h2, h3⟩ => ⟨hx.okP h2, h3.mono hx (G.Le.refl _) h1 (hother _ (fun he => h2.2.1 (he ▸ hS)))⟩) id⟩
  ·intro o1 o2 l1 l2 h1 h2 he
   rw [zao] at h1 h2
   split at h1 <;> split at h2
   ·omega
   ·rename_i e1 e2; rw [e1] at he ⊢; exact (hs.injO _ _ _ _ hob h2 he)
   ·rename_i e1 e2; rw [e2] at he ⊢; exact (hs.injO _ _ _ _ h1 hob he)
   ·exact hs.injO _ _ _ _ h1 h2 he
  ·intro o1 r l1 rw1 h1 h2
   rw [zao] at h1
   split at h1
   ·rename_i e1; rw [e1]; exact hs.injX _ _ _ _ hob h2
   ·exact hs.injX _ _ _ _ h1 h2
theorem zsj {P : Program} {x : Cx} {ti : TI} {t : TypeId} {objs : List (Nat × Obj)} {rows : List (Nat × RowB)} {o off : Nat} {ob : Obj} {a : AV} {u : Value} (ht : zeZ P t = some ti) (hs : Sto x objs rows) (hu : x.g.U o)
  (ha : RepA x a u) (hn : a.cells.length = ti.size) (hob : lkup o objs = some ob) (hpl : zq9 ob = true) (hlen : off + ti.size ≤ ob.length) :
  ∃ y, (Instr.storeAt t (.pointer (some ⟨x.g.ob o, off, none⟩)) u).run P x.w = .ok () y.w ∧ Ext x y ∧ y.g = x.g ∧ Sto y ((o, setL ob off a.cells) :: objs) rows := by
 obtain ⟨_, hS, hob2⟩ := hs.obj _ _ hob
 obtain ⟨c, e, fr, hh, hnf, hl⟩ := hob2.plain hpl
 have hac := zeU ha
 have hacl := zb0 hac
 have hcl := zb0 hl
 simp only [Array.length_toList] at hcl
 have hx : Ext x (x.put (x.g.ob o) (.cells (setL c.toList off u.cells.toList).toArray e fr)) := Cx.ext_put hS
 refine ⟨x.put (x.g.ob o) (.cells (setL c.toList off u.cells.toList).toArray e fr), ?_, hx, rfl, ?_⟩
 ·have hrun := ze3 (P := P) (off := off) (vs := u.cells.toList) (i := 0) hh hnf (by omega) (zlB hac)
  have hsz : u.cells.size = ti.size := by rw [← hn, hacl]; simp
  simp only [Instr.storeAt, Instr.sureAddr, pure_bind, storeVar, Sem.run_bind, ziR ht, Result.andThen_ok, hsz, ne_eq, not_true_eq_false, if_false, Sem.run_pure]
  simp only [Nat.add_zero] at hrun
  exact hrun
 ·have hother : ∀ b, b ≠ x.g.ob o → (x.put (x.g.ob o) (.cells (setL c.toList off u.cells.toList).toArray e fr)).w.heap[b]? = x.w.heap[b]? := fun b hb => zeF hb
  refine ⟨?_, ?_, ?_, ?_, hs.injR, ?_, fun b hb => by simp only [Cx.put, zcu]; exact hs.Slt b hb, fun b hb => by simp only [Cx.put, zcu]; exact hs.Blt b hb, hs.SB⟩
  ·intro o' l' hl'
   rw [zao] at hl'
   split at hl'
   ·rename_i he
    cases hl'
    rw [he]
    refine ⟨hu, hS, .inl ⟨_, e, fr, zd7 (hs.Slt _ hS), ?_, ?_⟩⟩
    ·unfold NoFr at hnf ⊢; simpa only [List.size_toArray, zcM, Array.length_toList] using hnf
    ·have := zol (i := off) (hl.mono hx (G.Le.refl _)) (hac.mono hx (G.Le.refl _))
     simpa using this
   ·rename_i hne
    obtain ⟨h1, h2, h3⟩ := hs.obj o' l' hl'
    exact ⟨h1, h2, h3.mono hx (G.Le.refl _) (hother _ (fun he => hne (hs.injO _ _ _ _ hl' hob he)))⟩
  ·intro r rw' hl'
   obtain ⟨h1, h2 | ⟨hnv, h2, h3⟩⟩ := hs.liveC hl'
   ·exact ⟨h1, .inr h2⟩
   ·exact ⟨h1, .inl ⟨h2, h3.mono hx (G.Le.refl _) h1 (hother _ (fun he => hs.injX _ _ _ _ hob hl' hnv he.symm))⟩⟩
  ·intro r rw' hl'
   obtain ⟨h1, h2⟩ := hs.froz r rw' hl'
   exact ⟨h1, h2.imp (fun ⟨h2, h3⟩ => ⟨hx.okP h2, h3.mono hx (G.Le.refl _) h1 (hother _ (fun he => h2.2.1 (he ▸ hS)))⟩) id⟩
  ·intro o1 o2 l1 l2 h1 h2 he
   rw [zao] at h1 h2
   split at h1 <;> split at h2
   ·omega
   ·rename_i e1 e2; rw [e1] at he ⊢; exact (hs.injO _ _ _ _ hob h2 he)
   ·rename_i e1 e2; rw [e2] at he ⊢; exact (hs.injO _ _ _ _ h1 hob he)
   ·exact hs.injO _ _ _ _ h1 h2 he
  ·intro o1 r l1 rw1 h1 h2
   rw [zao] at h1
   split at h1
   ·rename_i e1; rw [e1]; exact hs.injX _ _ _ _ hob h2
   ·exact hs.injX _ _ _ _ h1 h2
theorem zrf {w : World} {ok : Nat → Prop} : ∀ {ps : List PV} {f : Nat → Option Value} {i : Nat} {p : PV} {v : Value}, zbx w ok ps f → RepP w ok ok p v →
  zbx w ok (ps.set i p) fun j => if j = i then some v else f j
 | [], f, i, p, v, h, hp => by simp [zbx]
 | q :: ps, f, 0, p, v, h, hp => by
  simp only [zbx, List.set_cons_zero] at h ⊢
  refine ⟨⟨v, by simp, hp⟩, ?_⟩
  simpa using h.2
 | q :: ps, f, i + 1, p, v, h, hp => by
  simp only [zbx, List.set_cons_succ] at h ⊢
  refine ⟨by simpa using h.1, ?_⟩
  have := zrf (i := i) h.2 hp
  simpa using this
theorem zff {w : World} {ok : Nat → Prop} : ∀ {ps : List PV} {f g : Nat → Option Value}, zbx w ok ps f → (∀ i, i < ps.length → f i = g i) → zbx w ok ps g
 | [], f, g, h, _ => by simp [zbx]
 | p :: ps, f, g, h, he => by
  simp only [zbx] at h ⊢
  refine ⟨by rw [← he 0 (by simp)]; exact h.1, zff h.2 (fun i hi => he (i + 1) (by simp; omega))⟩
theorem zdx {w : World} {ok : Nat → Prop} {sz : Nat} : ∀ {l : List (List PV)} {f g : Nat → Option Value}, za4 w ok sz l f → (∀ i, i < l.length * sz → f i = g i) → za4 w ok sz l g
 | [], f, g, h, _ => by simp [za4]
 | e :: l, f, g, h, he => by
  simp only [za4] at h ⊢
  refine ⟨h.1, zff h.2.1 (fun i hi => he i (by rw [List.length_cons, Nat.add_mul]; omega)), zdx h.2.2 (fun i hi => he (i + sz) (by rw [List.length_cons, Nat.add_mul]; omega))⟩
theorem zpv {x : Cx} : ∀ {qs : List PV} {us : List Value} {ps : List PV} {f : Nat → Option Value} {i : Nat}, zbx x.w x.okP ps f → zi3 x qs us → zbx x.w x.okP (setL ps i qs) fun j => if i ≤ j ∧ j < i + us.length then us[j - i]? else f j
 | [], [], ps, f, i, h, _ => by
  simp only [setL]
  exact zff h (fun j _ => by simp only [List.length_nil]; rw [if_neg (by omega)])
 | q :: qs, u :: us, ps, f, i, h, hq => by
  simp only [setL]
  have h1 := zrf (i := i) h hq.1
  have h2 := zpv (i := i + 1) h1 hq.2
  refine zff h2 (fun j _ => ?_)
  simp only [List.length_cons]
  by_cases hA : i + 1 ≤ j ∧ j < i + 1 + us.length
  ·rw [if_pos hA, if_pos (by omega), show j - i = j - (i + 1) + 1 by omega]; simp
  ·rw [if_neg hA]
   by_cases hB : j = i
   ·subst hB; simp
   ·rw [if_neg hB, if_neg (by omega)]
theorem zpx {w : World} {ok : Nat → Prop} {sz : Nat} : ∀ {l : List (List PV)} {f : Nat → Option Value} {i : Nat} {e : List PV} {g : Nat → Option Value}, za4 w ok sz l f → e.length = sz → i < l.length → zbx w ok e (fun j => g (i * sz + j)) →
  (∀ j, (j < i * sz ∨ (i + 1) * sz ≤ j) → g j = f j) → za4 w ok sz (l.set i e) g
 | [], f, i, e, g, h, _, hi, _, _ => by simp at hi
 | d :: l, f, 0, e, g, h, he, hi, hg, hsame => by
  simp only [za4, List.set_cons_zero] at h ⊢
  refine ⟨he, by simpa using hg, zdx h.2.2 (fun i hi => (hsame (i + sz) (.inr (by omega))).symm)⟩
 | d :: l, f, i + 1, e, g, h, he, hi, hg, hsame => by
  simp only [za4, List.set_cons_succ] at h ⊢
  simp only [List.length_cons] at hi
  refine ⟨h.1, zff h.2.1 (fun j hj => (hsame j (.inl (by rw [Nat.add_mul]; omega))).symm), ?_⟩
  refine zpx h.2.2 he (by omega) ?_ (fun j hj => ?_)
  ·have e1 : (fun j => g (i * sz + j + sz)) = fun j => g ((i + 1) * sz + j) := funext fun j => by congr 1; rw [Nat.add_mul]; omega
   rw [e1]; exact hg
  ·refine hsame (j + sz) ?_
   rw [Nat.add_mul] at hj
   rw [Nat.add_mul, Nat.add_mul]
   rcases hj with hj | hj
   ·exact .inl (by omega)
   ·exact .inr (by rw [Nat.add_mul]; omega)
theorem zuA {R : Type} {x : Cx} {rw : Row} {i fo : Nat} {ps : List PV} {us : List Value} {f : Nat → Option Value} {k : Row → Ans R} {r : R} (hrow : zbb x.w x.okP rw f) (hi : i < rw.len) (hps : zi3 x ps us) (h : Says (rw.put i fo ps k) r) :
  ∃ rw', Says (k rw') r ∧ rw'.len = rw.len ∧ rw'.esz = rw.esz ∧ fo + us.length ≤ rw.esz ∧
   zbb x.w x.okP rw' fun j => if i * rw.esz + fo ≤ j ∧ j < i * rw.esz + fo + us.length then us[j - (i * rw.esz + fo)]? else f j := by
 unfold Row.put at h
 cases rw with
 | ints kd l =>
  simp only at h
  split at h
  ·rename_i kd' n
   obtain ⟨hb, h1⟩ := zar h
   simp only [Bool.and_eq_true, decide_eq_true_eq] at hb
   have hfo := Nat.eq_of_beq_eq_true hb.2
   match us, hps with
   | [u], hps =>
    have hu : u = .int kd' n := by simpa only [RepP] using hps.1
    refine ⟨_, h1, by simp [Row.len], rfl, by simp [Row.esz, hfo], ?_⟩
    intro j hj
    simp only [List.length_set] at hj
    simp only [Row.esz, Nat.mul_one, hfo, Nat.add_zero, List.length_singleton]
    by_cases he : i = j
    ·subst he
     rw [if_pos (by omega)]
     simp [hu, hb.1, List.getD, hj]
    ·rw [if_neg (by omega), hrow j hj]
     simp [List.getD, List.getElem?_set, he]
  ·exact (zal h).elim
 | bools l =>
  simp only at h
  split at h
  ·rename_i n
   obtain ⟨hb, h1⟩ := zar h
   have hfo := Nat.eq_of_beq_eq_true hb
   match us, hps with
   | [u], hps =>
    have hu : u = .bool n := by simpa only [RepP] using hps.1
    refine ⟨_, h1, by simp [Row.len], rfl, by simp [Row.esz, hfo], ?_⟩
    intro j hj
    simp only [List.length_set] at hj
    simp only [Row.esz, Nat.mul_one, hfo, Nat.add_zero, List.length_singleton]
    by_cases he : i = j
    ·subst he
     rw [if_pos (by omega)]
     simp [hu, List.getD, hj]
    ·rw [if_neg (by omega), hrow j hj]
     simp [List.getD, List.getElem?_set, he]
  ·exact (zal h).elim
 | recs sz l =>
  simp only at h
  obtain ⟨hb, h1⟩ := zar h
  have hle := Nat.le_of_ble_eq_true hb
  have hpl := hps.length
  have hi' : i < l.length := hi
  have hat := zon (i := i) (e := l.getD i []) hrow (by simp [List.getD, hi'])
  refine ⟨_, h1, by simp [Row.len], rfl, by simp only [Row.esz]; omega, ?_⟩
  show za4 x.w x.okP sz (l.set i (setL (l.getD i []) fo ps)) fun j => if i * sz + fo ≤ j ∧ j < i * sz + fo + us.length then us[j - (i * sz + fo)]? else f j
  refine zpx hrow (by rw [zcM]; exact hat.1) hi' ?_ (fun j hj => ?_)
  ·refine zff (zpv (i := fo) hat.2 hps) (fun j hj => ?_)
   by_cases hA : fo ≤ j ∧ j < fo + us.length
   ·rw [if_pos hA, if_pos (by omega)]
    congr 1; omega
   ·rw [if_neg hA, if_neg (by omega)]
  ·rw [if_neg]
   rw [Nat.add_mul] at hj
   omega
end Go.Ev
set_option linter.unusedSectionVars false
namespace Go.Ev
variable [DLaw]
set_option linter.unusedVariables false
set_option linter.unusedSimpArgs false
def zwZ {R : Type} (P : Program) (x : Cx) (s : St) (e : Sem Unit) (k : St → Ans R) (r : R) : Prop :=
 ∃ s' y, e.run P x.w = .ok () y.w ∧ Ext x y ∧ y.g = x.g ∧ Sto y s'.objs s'.rows ∧ s'.slots = s.slots ∧ Says (k s') r
theorem zsk {P : Program} {x : Cx} {ti : TI} {t : TypeId} {objs : List (Nat × Obj)} {rows : List (Nat × RowB)} {rr i fo : Nat} {rw rw' : Row} {u : Value} (ht : zeZ P t = some ti) (hs : Sto x objs rows)
  (hlk : lkup rr rows = some (.live rw)) (hi : i < rw.len) (hsz : u.cells.size = ti.size) (h1c : ∀ v ∈ u.cells.toList, v.oneCell' = true) (hlen : rw'.len = rw.len) (hesz : rw'.esz = rw.esz) (hfo : fo + u.cells.toList.length ≤ rw.esz)
  {c0 : Array Value} {e0 : TypeId} {fr0 : Nat × Nat} (hc0 : x.w.heap[x.g.rb rr]? = some (.cells c0 e0 fr0))
  (his : zbb x.w x.okP rw' fun j => if i * rw.esz + fo ≤ j ∧ j < i * rw.esz + fo + u.cells.toList.length then u.cells.toList[j - (i * rw.esz + fo)]? else c0[j]?) :
  ∃ y, (Instr.storeAt t (.pointer (some ⟨x.g.rb rr, i * x.g.rs rr + fo, none⟩)) u).run P x.w = .ok () y.w ∧ Ext x y ∧ y.g = x.g ∧ Sto y objs ((rr, .live rw') :: rows) := by
 obtain ⟨hu, hvir | ⟨hnv, hS, c, e, fr, hh, hnf, hcs, hes, hrl, hle, hrow⟩⟩ := hs.liveC hlk
 ·have := hvir.2.2.2.1; omega
 obtain ⟨rfl, rfl, rfl⟩ : c0 = c ∧ e0 = e ∧ fr0 = fr := by rw [hh] at hc0; cases hc0; exact ⟨rfl, rfl, rfl⟩
 have hbound : i * rw.esz + fo + u.cells.toList.length ≤ c0.size := by
  have : (i + 1) * rw.esz ≤ rw.len * rw.esz := Nat.mul_le_mul_right _ hi
  rw [Nat.add_mul] at this
  omega
 rw [← hes]
 have hx : Ext x (x.put (x.g.rb rr) (.cells (setL c0.toList (i * rw.esz + fo) u.cells.toList).toArray e0 fr0)) := Cx.ext_put hS
 refine ⟨x.put (x.g.rb rr) (.cells (setL c0.toList (i * rw.esz + fo) u.cells.toList).toArray e0 fr0), ?_, hx, rfl, ?_⟩
 ·have hrun := ze3 (P := P) (off := i * rw.esz + fo) (vs := u.cells.toList) (i := 0) hh hnf (by omega) h1c
  simp only [Instr.storeAt, Instr.sureAddr, pure_bind, storeVar, Sem.run_bind, ziR ht, Result.andThen_ok, hsz, ne_eq, not_true_eq_false, if_false, Sem.run_pure]
  simp only [Nat.add_zero] at hrun
  exact hrun
 ·have hother : ∀ b, b ≠ x.g.rb rr → (x.put (x.g.rb rr) (.cells (setL c0.toList (i * rw.esz + fo) u.cells.toList).toArray e0 fr0)).w.heap[b]? = x.w.heap[b]? := fun b hb => zeF hb
  refine ⟨?_, ?_, ?_, hs.injO, ?_, ?_, fun b hb => by simp only [Cx.put, zcu]; exact hs.Slt b hb, fun b hb => by simp only [Cx.put, zcu]; exact hs.Blt b hb, hs.SB⟩
  ·intro o l hl
   obtain ⟨h1, h2, h3⟩ := hs.obj o l hl
   exact ⟨h1, h2, h3.mono hx (G.Le.refl _) (hother _ (fun he => hs.injX _ _ _ _ hl hlk hnv he))⟩
  ·intro r' rw2 hl
   rw [zao] at hl
   split at hl
   ·rename_i he
    cases hl
    rw [he]
    refine ⟨hu, .inl ⟨hS, _, e0, fr0, zd7 (hs.Slt _ hS), ?_, ?_, ?_, ?_, ?_, ?_⟩⟩
    ·unfold NoFr at hnf ⊢; simpa only [List.size_toArray, zcM, Array.length_toList] using hnf
    ·simp only [List.size_toArray, zcM, Array.length_toList]; exact hcs
    ·rw [hesz]; exact hes
    ·rw [hlen]; exact hrl
    ·simp only [List.size_toArray, zcM, Array.length_toList]; rw [hlen, hesz]; exact hle
    ·have h4 := his
     have e1 : (fun j => if i * rw.esz + fo ≤ j ∧ j < i * rw.esz + fo + u.cells.toList.length then u.cells.toList[j - (i * rw.esz + fo)]? else c0[j]?) =
       fun j => (setL c0.toList (i * rw.esz + fo) u.cells.toList).toArray[j]? := by
      funext j
      have e2 : (setL c0.toList (i * rw.esz + fo) u.cells.toList).toArray[j]? = (setL c0.toList (i * rw.esz + fo) u.cells.toList)[j]? := by simp
      rw [e2, zeL]
      simp only [Array.length_toList, Array.getElem?_toList]
      simp only [Array.length_toList] at hbound
      by_cases hA : i * rw.esz + fo ≤ j ∧ j < i * rw.esz + fo + u.cells.size
      ·rw [if_pos hA, if_pos (by omega)]
      ·rw [if_neg hA, if_neg (by omega)]
     rw [e1] at h4
     exact zbb.mono (fun _ hb => hx.okP hb) (fun b hb => hx.blk b hb.1 hb.2.1) h4
   ·rename_i hne
    obtain ⟨h1, h2 | ⟨hnv2, h2, h3⟩⟩ := hs.liveC hl
    ·exact ⟨h1, .inr h2⟩
    ·exact ⟨h1, .inl ⟨h2, h3.mono hx (G.Le.refl _) h1 (hother _ (fun he => hne (hs.injR _ _ _ _ hl hlk hnv2 hnv he)))⟩⟩
  ·intro r' rw2 hl
   rw [zao] at hl
   split at hl
   ·cases hl
   ·obtain ⟨h1, h2⟩ := hs.froz r' rw2 hl
    exact ⟨h1, h2.imp (fun ⟨h2, h3⟩ => ⟨hx.okP h2, h3.mono hx (G.Le.refl _) h1 (hother _ (fun he => h2.2.1 (he ▸ hS)))⟩) id⟩
  ·intro o1 o2 l1 l2 h1 h2 hv1 hv2 he
   rw [zao] at h1 h2
   split at h1 <;> split at h2
   ·omega
   ·rename_i e1 e2; rw [e1] at he ⊢; exact (hs.injR _ _ _ _ hlk h2 hnv hv2 he)
   ·rename_i e1 e2; rw [e2] at he ⊢; exact (hs.injR _ _ _ _ h1 hlk hv1 hnv he)
   ·exact hs.injR _ _ _ _ h1 h2 hv1 hv2 he
  ·intro o1 r l1 rw1 h1 h2 hv
   rw [zao] at h2
   split at h2
   ·rename_i e1; rw [e1]; exact hs.injX _ _ _ _ h1 hlk hnv
   ·exact hs.injX _ _ _ _ h1 h2 hv
theorem zoI {P : Program} {x : Cx} {objs : List (Nat × Obj)} {rows : List (Nat × RowB)} {rr p : Nat} {rw rw' : Row} {vs : List Value} (hs : Sto x objs rows)
  (hlk : lkup rr rows = some (.live rw)) (hnv0 : ¬ Vir x rr rw) (h1c : ∀ v ∈ vs, v.oneCell' = true) (hlen : rw'.len = rw.len) (hesz : rw'.esz = rw.esz) (hbd : p + vs.length ≤ rw.len * rw.esz)
  {c0 : Array Value} {e0 : TypeId} {fr0 : Nat × Nat} (hc0 : x.w.heap[x.g.rb rr]? = some (.cells c0 e0 fr0))
  (his : zbb x.w x.okP rw' fun j => if p ≤ j ∧ j < p + vs.length then vs[j - p]? else c0[j]?) :
  ∃ y, (storeCells ⟨x.g.rb rr, p, none⟩ vs).run P x.w = .ok () y.w ∧ Ext x y ∧ y.g = x.g ∧ Sto y objs ((rr, .live rw') :: rows) := by
 obtain ⟨hu, hvir | ⟨hnv, hS, c, e, fr, hh, hnf, hcs, hes, hrl, hle, hrow⟩⟩ := hs.liveC hlk
 ·exact (hnv0 hvir).elim
 obtain ⟨rfl, rfl, rfl⟩ : c0 = c ∧ e0 = e ∧ fr0 = fr := by rw [hh] at hc0; cases hc0; exact ⟨rfl, rfl, rfl⟩
 have hbound : p + vs.length ≤ c0.size := Nat.le_trans hbd hle
 have hx : Ext x (x.put (x.g.rb rr) (.cells (setL c0.toList p vs).toArray e0 fr0)) := Cx.ext_put hS
 refine ⟨x.put (x.g.rb rr) (.cells (setL c0.toList p vs).toArray e0 fr0), ?_, hx, rfl, ?_⟩
 ·have hrun := ze3 (P := P) (off := p) (vs := vs) (i := 0) hh hnf (by omega) h1c
  simp only [Nat.add_zero] at hrun
  exact hrun
 ·have hother : ∀ b, b ≠ x.g.rb rr → (x.put (x.g.rb rr) (.cells (setL c0.toList p vs).toArray e0 fr0)).w.heap[b]? = x.w.heap[b]? := fun b hb => zeF hb
  refine ⟨?_, ?_, ?_, hs.injO, ?_, ?_, fun b hb => by simp only [Cx.put, zcu]; exact hs.Slt b hb, fun b hb => by simp only [Cx.put, zcu]; exact hs.Blt b hb, hs.SB⟩
  ·intro o l hl
   obtain ⟨h1, h2, h3⟩ := hs.obj o l hl
   exact ⟨h1, h2, h3.mono hx (G.Le.refl _) (hother _ (fun he => hs.injX _ _ _ _ hl hlk hnv he))⟩
  ·intro r' rw2 hl
   rw [zao] at hl
   split at hl
   ·rename_i he
    cases hl
    rw [he]
    refine ⟨hu, .inl ⟨hS, _, e0, fr0, zd7 (hs.Slt _ hS), ?_, ?_, ?_, ?_, ?_, ?_⟩⟩
    ·unfold NoFr at hnf ⊢; simpa only [List.size_toArray, zcM, Array.length_toList] using hnf
    ·simp only [List.size_toArray, zcM, Array.length_toList]; exact hcs
    ·rw [hesz]; exact hes
    ·rw [hlen]; exact hrl
    ·simp only [List.size_toArray, zcM, Array.length_toList]; rw [hlen, hesz]; exact hle
    ·have h4 := his
     have e1 : (fun j => if p ≤ j ∧ j < p + vs.length then vs[j - p]? else c0[j]?) =
       fun j => (setL c0.toList p vs).toArray[j]? := by
      funext j
      have e2 : (setL c0.toList p vs).toArray[j]? = (setL c0.toList p vs)[j]? := by simp
      rw [e2, zeL]
      simp only [Array.length_toList, Array.getElem?_toList]
      by_cases hA : p ≤ j ∧ j < p + vs.length
      ·rw [if_pos hA, if_pos (by omega)]
      ·rw [if_neg hA, if_neg (by omega)]
     rw [e1] at h4
     exact zbb.mono (fun _ hb => hx.okP hb) (fun b hb => hx.blk b hb.1 hb.2.1) h4
   ·rename_i hne
    obtain ⟨h1, h2 | ⟨hnv2, h2, h3⟩⟩ := hs.liveC hl
    ·exact ⟨h1, .inr h2⟩
    ·exact ⟨h1, .inl ⟨h2, h3.mono hx (G.Le.refl _) h1 (hother _ (fun he => hne (hs.injR _ _ _ _ hl hlk hnv2 hnv he)))⟩⟩
  ·intro r' rw2 hl
   rw [zao] at hl
   split at hl
   ·cases hl
   ·obtain ⟨h1, h2⟩ := hs.froz r' rw2 hl
    exact ⟨h1, h2.imp (fun ⟨h2, h3⟩ => ⟨hx.okP h2, h3.mono hx (G.Le.refl _) h1 (hother _ (fun he => h2.2.1 (he ▸ hS)))⟩) id⟩
  ·intro o1 o2 l1 l2 h1 h2 hv1 hv2 he
   rw [zao] at h1 h2
   split at h1 <;> split at h2
   ·omega
   ·rename_i e1 e2; rw [e1] at he ⊢; exact (hs.injR _ _ _ _ hlk h2 hnv hv2 he)
   ·rename_i e1 e2; rw [e2] at he ⊢; exact (hs.injR _ _ _ _ h1 hlk hv1 hnv he)
   ·exact hs.injR _ _ _ _ h1 h2 hv1 hv2 he
  ·intro o1 r l1 rw1 h1 h2 hv
   rw [zao] at h2
   split at h2
   ·rename_i e1; rw [e1]; exact hs.injX _ _ _ _ h1 hlk hnv
   ·exact hs.injX _ _ _ _ h1 h2 hv
theorem ztD {R : Type} {P : Program} {x : Cx} {t : TypeId} {av xv : SV} {s : St} {v u : Value} {k : St → Ans R} {r : R} (hs : Sto x s.objs s.rows) (hv : RepS x av v) (hu : RepS x xv u) (h : Says (ztX P t av xv s k) r) :
  zwZ P x s (Instr.storeAt t v u) k r := by
 obtain ⟨ti, ht, h1⟩ := zam h
 obtain ⟨c, hc, h2⟩ := zdf h1
 obtain ⟨a, ha, h3⟩ := ziU h2
 obtain ⟨hn, h4⟩ := zar h3
 clear h h1 h2 h3
 rw [hc] at hv; rw [ha] at hu
 have hlen := Nat.eq_of_beq_eq_true hn
 have hv2 : RepC x c v := hv.2
 have hu2 : RepA x a u := hu
 cases c with
 | ref o off =>
  obtain ⟨ob, hob, h5⟩ := zam h4
  obtain ⟨hb, h6⟩ := zar h5
  simp only [Bool.and_eq_true] at hb
  obtain ⟨hU, hv3⟩ := hv2
  rw [hv3]
  obtain ⟨y, hrun, hx, hg, hs'⟩ := zsj ht hs hU hu2 hlen hob hb.1 (Nat.le_of_ble_eq_true hb.2)
  exact ⟨{ s with objs := (o, setL ob off a.cells) :: s.objs }, y, hrun, hx, hg, hs', rfl, h6⟩
 | radr rr i fo =>
  obtain ⟨hU, hi, hv3⟩ := hv2
  rw [hv3]
  obtain ⟨ps, s1, y, hx, hg, hw, hs1, hsl, hso, hps, h5⟩ := zga hs (zeU hu2) h4
  obtain ⟨rb, hrb, h6⟩ := zam h5
  cases rb with
  | live rw =>
   have hi' : i < rw.len := by rw [(hs1.liveE hrb).2, hg]; exact hi
   obtain ⟨_, hvir | ⟨_, _, c0, e0, fr0, hh0, _, _, _, _, _, hrow0⟩⟩ := hs1.liveC hrb
   ·have := hvir.2.2.2.1; omega
   obtain ⟨rw', h7, hl', he', hf', his⟩ := zuA hrow0 hi' hps h6
   have hsz : u.cells.size = ti.size := by
    have := zb0 (zeU hu2)
    simp only [Array.length_toList] at this
    omega
   obtain ⟨z, hrun, hx2, hg2, hs'⟩ := zsk ht hs1 hrb hi' hsz (zlB (zeU hu2)) hl' he' hf' hh0 his
   rw [hg] at hrun
   rw [hw] at hrun
   exact ⟨{ s1 with rows := (rr, .live rw') :: s1.rows }, z, hrun, hx.trans hx2, hg2.trans hg, hs', hsl, h7⟩
  | froz rw => exact (zal h6).elim
  | gone => exact (zal h6).elim
 | pv => exact (zal h4).elim
 | bor => exact (zal h4).elim
 | own => exact (zal h4).elim
 | iadr => exact (zal h4).elim
 | dead => exact (zal h4).elim
 | mp => exact (zal h4).elim
 | fn => exact (zal h4).elim
 | stamp => exact (zal h4).elim
 | maph => exact (zal h4).elim
 | sit => exact (zal h4).elim
theorem zfj : ∀ {l : List CV} {ps : List PV}, zoj l = some ps → l = ps.map .pv
 | [], ps, h => by simp [zoj] at h; subst h; rfl
 | .pv p :: l, ps, h => by
  simp only [zoj] at h
  split at h
  ·rename_i r hr
   cases h
   simp [zfj hr]
  ·cases h
end Go.Ev
set_option linter.unusedSectionVars false
namespace Go.Ev
variable [DLaw]
set_option linter.unusedVariables false
set_option linter.unusedSimpArgs false
theorem zef {P : Program} {w : World} {e : TypeId} {c : Array Value} : (newRow e c).run P w = .ok ⟨w.heap.size, 0, none⟩ (w.alloc (.cells c e)) := by
 simp [newRow, newObj, Sem.run]
theorem zms {R : Type} : ∀ {x : Cx} {cs : List CV} {vs : List Value} {s : St} {k : List CV → St → Ans R} {r : R}, Sto x s.objs s.rows → RepL x cs vs → Says (zuP cs s k) r →
  ∃ cs' s' y, Ext x y ∧ y.g = x.g ∧ y.w = x.w ∧ Sto y s'.objs s'.rows ∧ s'.slots = s.slots ∧ s'.objs = s.objs ∧ RepL y cs' vs ∧ Says (k cs' s') r
 | x, [], [], s, k, r, hs, _, h => ⟨[], s, x, Ext.refl x, rfl, rfl, hs, rfl, rfl, trivial, h⟩
 | x, c :: cs, v :: vs, s, k, r, hs, hl, h => by
  unfold zuP at h
  split at h
  ·rename_i heq; cases heq
  ·rename_i r' off n t cs' heq
   cases heq
   obtain ⟨p, s1, y, hx, hg, hw, hs1, hsl, hso, hp, h1⟩ := zmq hs hl.1.2 h
   obtain ⟨ps, s2, z, hx2, hg2, hw2, hs2, hsl2, hso2, hps, h2⟩ := zms hs1 (hl.2.mono hx (by rw [hg]; exact G.Le.refl _)) h1
   exact ⟨.pv p :: ps, s2, z, hx.trans hx2, hg2.trans hg, hw2.trans hw, hs2, hsl2.trans hsl, hso2.trans hso, ⟨⟨hl.1.1, hx2.repP hp⟩, hps⟩, h2⟩
  ·rename_i c' cs' _ heq
   cases heq
   obtain ⟨ps, s2, z, hx2, hg2, hw2, hs2, hsl2, hso2, hps, h2⟩ := zms hs hl.2 h
   exact ⟨c :: ps, s2, z, hx2, hg2, hw2, hs2, hsl2, hso2, ⟨⟨hl.1.1, hl.1.2.mono hx2 (by rw [hg2]; exact G.Le.refl _)⟩, hps⟩, h2⟩
theorem zvL {R : Type} {P : Program} {C : Cfg} {x : Cx} {e nm : Nat} {av : SV} {s : St} {v : Value} {k : SV → St → Ans R} {r : R} (hs : Sto x s.objs s.rows) (hn : ¬ x.g.U nm) (hv : RepS x av v) (h : Says (zw5 P C e av nm s k) r) :
  zfd P x (· = nm) s (Instr.box e v) k r := by
 obtain ⟨ti, ht, h1⟩ := zam h
 obtain ⟨a, ha, h2⟩ := ziU h1
 obtain ⟨hb, h3⟩ := zar h2
 clear h h1 h2
 rw [ha] at hv
 have hcells := zeU hv
 have hrun : ∀ w, (Instr.box e v).run P w = .ok (.pointer (some ⟨w.heap.size, 0, none⟩)) (w.alloc (.cells v.cells e)) := by
  intro w
  simp [Instr.box, newVar, zef]
 cases hm : memT e C.immT with
 | true =>
  simp only [hm, cond_true] at h3
  obtain ⟨ps, s1, y, hx, hg, hw, hs1, hsl, hso, hps, h4⟩ := zga hs hcells h3
  have hgr := Cx.grow_last (x := y) (o := .cells v.cells e) hs1.Slt
  refine ⟨_, _, s1, y.last (.cells v.cells e), by rw [hrun]; simp only [Cx.last, hw]; rfl, hx.trans hgr.ext, by rw [← hg]; exact hgr.g, fun n hU => .inl (by rw [← hg]; exact hU), hs1.grow hgr, hsl, ?_, h4⟩
  refine ⟨rfl, ?_⟩
  simp only [RepC, RepP]
  refine ⟨x.w.heap.size, 0, rfl, ⟨?_, ?_, ?_⟩, ?_⟩
  ·simp only [Cx.last, World.size_alloc, hw]; omega
  ·intro hS; have := hs1.Slt _ hS; rw [hw] at this; omega
  ·intro hB; have := hs1.Blt _ hB; rw [hw] at this; omega
  ·refine (hps.mono hgr.ext).ps (fun i u hu => ?_)
   have : (y.last (.cells v.cells e)).w.heap[x.w.heap.size]? = some (.cells v.cells e (0, 0)) := by
    show (y.w.alloc _).heap[_]? = _
    rw [← hw]; exact zeM
   simpa [World.cell?, this] using hu
 | false =>
  simp only [hm, cond_false] at h3
  cases hm2 : memT e C.shutT with
  | true =>
   simp only [hm2, cond_true] at h3
   obtain ⟨cs, s1, y, hx, hg, hw, hs1, hsl, hso, hcs, h4⟩ := zms hs hcells h3
   obtain ⟨hg2, hs', hc⟩ := zqs (e := e) hs1 (by rw [hg]; exact hn) hcs
   refine ⟨_, cone (.ref nm 0), { s1 with objs := (nm, cs) :: s1.objs }, _, ?_, hx.trans hg2.ext, by rw [← hg]; exact hg2.g, fun n hU => by rw [← hg]; exact hU, hs', hsl, ⟨rfl, hc⟩, h4⟩
   rw [hrun, ← hw]; rfl
  | false =>
  simp only [hm2, cond_false] at h3
  obtain ⟨hg, hs', hc⟩ := zqs (e := e) hs hn hcells
  exact ⟨_, cone (.ref nm 0), { s with objs := (nm, a.cells) :: s.objs }, _, hrun _, hg.ext, hg.g, fun n hU => hU, hs', rfl, ⟨rfl, hc⟩, h3⟩
theorem zty {R : Type} {P : Program} {x : Cx} {e nm : Nat} {s : St} {k : SV → St → Ans R} {r : R} (hs : Sto x s.objs s.rows) (hn : ¬ x.g.U nm) (h : Says (ztT P e nm s k) r) :
  zfd P x (· = nm) s (Instr.alloc e true (.tuple #[])) k r := by
 obtain ⟨ti, ht, h1⟩ := zam h
 obtain ⟨v, hz, hl⟩ := zb5 x ht
 obtain ⟨hg, hs', hc⟩ := zqs (e := e) hs hn hl
 refine ⟨_, cone (.ref nm 0), { s with objs := (nm, ti.zero) :: s.objs }, _, ?_, hg.ext, hg.g, fun n hU => hU, hs', rfl, ⟨rfl, hc⟩, h1⟩
 simp [Instr.alloc, hz, newVar, zef, Cx.more]
theorem zs6 {P : Program} {α β : Type} {w : World} (f : α → Sem β) (g : α → β) : ∀ (l : List α), (∀ a ∈ l, (f a).run P w = .ok (g a) w) → (l.mapM f).run P w = .ok (l.map g) w
 | [], _ => by simp
 | a :: l, h => by
  simp only [List.mapM_cons, Sem.run_bind, h a (by simp), Result.andThen_ok, zs6 f g l (fun b hb => h b (by simp [hb])), Sem.run_pure, List.map_cons]
theorem zpb {P : Program} {α β : Type} {w : World} (f : α → Sem β) (g : α → β) (l : Array α) (h : ∀ a ∈ l.toList, (f a).run P w = .ok (g a) w) : (l.mapM f).run P w = .ok (l.map g) w := by
 rw [Array.mapM_eq_mapM_toList]
 simp only [Sem.run_map, zs6 f g l.toList h, Result.andThen_ok]
 congr 1
 apply Array.ext'
 simp
theorem zt1 (cs : List Value) : ∀ (a : Array Value) (off j : Nat), ((cs.zipIdx j).foldl (fun b (c, i) => b.setIfInBounds (off + i) c) a).toList = setL a.toList (off + j) cs := by
 induction cs with
 | nil => intro a off j; simp [setL]
 | cons c cs ih =>
  intro a off j
  simp only [List.zipIdx_cons, List.foldl_cons, setL]
  rw [ih]
  simp [Nat.add_assoc]
theorem znI {a : Array Value} {v : Value} {off : Nat} : (v.cells.zipIdx.foldl (fun cs (c, j) => cs.setIfInBounds (off + j) c) a).toList = setL a.toList off v.cells.toList := by
 rw [← Array.foldl_toList, Array.toList_zipIdx]
 exact zt1 _ a off 0
theorem zrs {R : Type} {P : Program} {x : Cx} {place : Nat → Option (Nat × Nat)} {fs : Nat → Option (Nat × Nat)} (hp : ∀ i z, fs i = some z → place i = some z) :
  ∀ {parts : List (Nat × SV)} {vs : List (Nat × Value)} {cells : List CV} {a : Array Value} {k : List CV → Ans R} {r : R}, RepL x cells a.toList → parts.map (·.1) = vs.map (·.1) → zfN x (parts.map (·.2)) (vs.map (·.2)) →
   Says (zwr P fs cells parts k) r → ∃ b cs, Instr.fill place a vs = some b ∧ RepL x cs b.toList ∧ Says (k cs) r
 | [], [], cells, a, k, r, hl, _, _, h => ⟨a, cells, rfl, hl, h⟩
 | (i, s) :: parts, (j, v) :: vs, cells, a, k, r, hl, hi, hr, h => by
  simp only [List.map_cons, List.cons.injEq] at hi
  obtain ⟨z, hz, h1⟩ := zam h
  obtain ⟨av, hav, h2⟩ := ziU h1
  obtain ⟨hb, h3⟩ := zar h2
  simp only [List.map_cons] at hr
  have hr1 := hr.1
  rw [hav] at hr1
  have hc := zeU hr1
  have hlen := zb0 hc
  have hlen2 := zb0 hl
  simp only [Array.length_toList] at hlen hlen2
  simp only [Bool.and_eq_true] at hb
  have hb1 := Nat.eq_of_beq_eq_true hb.1
  have hb2 := Nat.le_of_ble_eq_true hb.2
  obtain ⟨b, cs, hf, hl', h4⟩ := zrs hp (a := (v.cells.zipIdx.foldl (fun cs (c, j) => cs.setIfInBounds (z.1 + j) c) a)) (by rw [znI]; exact zol hl hc) hi.2 hr.2 h3
  refine ⟨b, cs, ?_, hl', h4⟩
  have hpl := hp _ _ hz
  rw [hi.1] at hpl
  simp only [Instr.fill, hpl]
  rw [if_neg]
  ·exact hf
  ·simp only [Bool.or_eq_true, decide_eq_true_eq]
   omega
theorem zpA {R : Type} {P : Program} {x : Cx} {t : TypeId} {parts : List (Nat × SV)} {vs : Array (Nat × Value)} {k : SV → Ans R} {r : R} (hi : parts.map (·.1) = vs.toList.map (·.1)) (hr : zfN x (parts.map (·.2)) (vs.toList.map (·.2)))
  (h : Says (zrK P t parts k) r) : zcx P x (Instr.build t vs) k r := by
 obtain ⟨ti, ht, h1⟩ := zam h
 obtain ⟨hf, h2⟩ := zar h1
 clear h h1
 obtain ⟨z, hz, hl⟩ := zb5 x ht
 split at h2
 ·rename_i fs hu
  have hfs : ∀ fd ∈ fs.toList, ∀ w, (sizeOf fd.type).run P w = .ok (P.cellsOf fd.type) w := by
   intro fd hfd w
   unfold zsH at hf
   simp only [hu, List.all_eq_true] at hf
   have := hf fd hfd
   unfold Program.cellsOf
   cases hinf : P.info? fd.type with
   | none => simp [hinf] at this
   | some i => simp [sizeOf, typeInfo, program, Sem.run, hinf, Result.andThen, Sem.bind]
  have hmap : ∀ w, (fs.mapM fun (f : Field) => do pure (f.offset, ← sizeOf f.type)).run P w = .ok (fs.map fun (f : Field) => (f.offset, P.cellsOf f.type)) w := by
   intro w
   refine zpb _ _ fs (fun fd hfd => ?_)
   simp [hfs fd hfd w]
  have hplace : ∀ i z, (zg6 P t i).map (fun x => (x.1, P.cellsOf x.2)) = some z → (fs.map fun (f : Field) => (f.offset, P.cellsOf f.type))[i]? = some z := by
   intro i z hz
   unfold zg6 at hz
   simp only [hu] at hz
   cases hfi : fs[i]? with
   | none => simp [hfi] at hz
   | some fd => simp [hfi] at hz; simp [hfi, hz]
  obtain ⟨b, cs, hfill, hl', h3⟩ := zrs hplace hl hi hr h2
  refine ⟨.agg b, .av (.agg cs), fun w => ?_, ⟨b, rfl, hl'⟩, h3⟩
  simp only [Instr.build, Sem.run_bind, hz, Result.andThen_ok, run_underlying hu, hmap, hfill, Sem.run_pure]
 ·exact (zal h2).elim
end Go.Ev
set_option linter.unusedSectionVars false
namespace Go.Ev
variable [DLaw]
set_option linter.unusedVariables false
set_option linter.unusedSimpArgs false
theorem zoB {R : Type} {size n : Nat} {r0 : Row} (hsz : r0.esz = size) (h0len : r0.len = 0) (h0 : ∀ w ok f, zbb w ok r0 f) :
  ∀ {parts : List (Nat × SV)} {vs : List (Nat × Value)} {x : Cx} {i : Nat} {s : St} {k : Row → St → Ans R} {r : R}, Sto x s.objs s.rows → parts.map (·.1) = vs.map (·.1) → zfN x (parts.map (·.2)) (vs.map (·.2)) →
   Says (zup r0 n i parts s k) r →
   ∃ rw s1 y, Ext x y ∧ y.g = x.g ∧ y.w = x.w ∧ Sto y s1.objs s1.rows ∧ s1.slots = s.slots ∧ Says (k rw s1) r ∧ rw.len = parts.length ∧ rw.esz = size ∧
    ∀ C : Array Value, (i + parts.length) * size ≤ C.size → ∃ D, Instr.fill (fun i => some (i * size, size)) C vs = some D ∧ D.size = C.size ∧ (∀ j, j < i * size → D[j]? = C[j]?) ∧ zbb y.w y.okP rw fun j => D[i * size + j]?
 | [], [], x, i, s, k, r, hs, _, _, h => ⟨r0, s, x, Ext.refl x, rfl, rfl, hs, rfl, h, by simpa using h0len, hsz, fun C hC => ⟨C, rfl, rfl, fun _ _ => rfl, h0 _ _ _⟩⟩
 | (j, sv) :: parts, (j', v) :: vs, x, i, s, k, r, hs, hi, hr, h => by
  simp only [List.map_cons, List.cons.injEq] at hi
  simp only [List.map_cons] at hr
  obtain ⟨hb, h1⟩ := zar h
  obtain ⟨a, ha, h2⟩ := ziU h1
  have hij := Nat.eq_of_beq_eq_true hb
  have hr1 := hr.1
  rw [ha] at hr1
  obtain ⟨ps, s1, y1, hx1, hg1, hw1, hs1, hsl1, hso1, hps, h3⟩ := zga hs (zeU hr1) h2
  have hr2 : zfN y1 (parts.map (·.2)) (vs.map (·.2)) := by
   have gen : ∀ {l : List SV} {us : List Value}, zfN x l us → zfN y1 l us := by
    intro l
    induction l with
    | nil => intro us hh; cases us with | nil => trivial | cons => exact hh.elim
    | cons b l ih => intro us hh; cases us with | nil => exact hh.elim | cons u us => exact ⟨hh.1.mono hx1 (by rw [hg1]; exact G.Le.refl _), ih hh.2⟩
   exact gen hr.2
  obtain ⟨rw', s2, y2, hx2, hg2, hw2, hs2, hsl2, h4, hlen, hesz, hfill⟩ := zoB hsz h0len h0 hs1 hi.2 hr2 h3
  have hps2 := hps.mono hx2
  have fin : ∀ (rw'' : Row), Says (k rw'' s2) r → rw''.len = rw'.len + 1 → rw''.esz = size → v.cells.size = size →
    (∀ (D : Array Value), (∀ m u, v.cells.toList[m]? = some u → D[i * size + m]? = some u) → zbb y2.w y2.okP rw' (fun q => D[(i + 1) * size + q]?) → zbb y2.w y2.okP rw'' fun q => D[i * size + q]?) →
    ∃ rw s1 y, Ext x y ∧ y.g = x.g ∧ y.w = x.w ∧ Sto y s1.objs s1.rows ∧ s1.slots = s.slots ∧ Says (k rw s1) r ∧ rw.len = ((j, sv) :: parts).length ∧ rw.esz = size ∧
    ∀ C : Array Value, (i + ((j, sv) :: parts).length) * size ≤ C.size → ∃ D, Instr.fill (fun i => some (i * size, size)) C ((j', v) :: vs) = some D ∧ D.size = C.size ∧ (∀ q, q < i * size → D[q]? = C[q]?) ∧ zbb y.w y.okP rw fun q => D[i * size + q]? := by
   intro rw'' h5 hl hz hvs hrow
   refine ⟨rw'', s2, y2, hx1.trans hx2, hg2.trans hg1, hw2.trans hw1, hs2, hsl2.trans hsl1, h5, by rw [hl, hlen]; rfl, hz, fun C hC => ?_⟩
   simp only [List.length_cons] at hC
   have hC2 : (i + 1) * size ≤ C.size := Nat.le_trans (Nat.mul_le_mul_right _ (by omega)) hC
   have hC3 : i * size + size ≤ C.size := by rw [Nat.add_mul, Nat.one_mul] at hC2; exact hC2
   have hsC : (v.cells.zipIdx.foldl (fun cs (c, m) => cs.setIfInBounds (i * size + m) c) C).size = C.size := by
    rw [← Array.length_toList, znI, zcM, Array.length_toList]
   obtain ⟨D, hD, hDs, hDb, hDr⟩ := hfill (v.cells.zipIdx.foldl (fun cs (c, m) => cs.setIfInBounds (i * size + m) c) C) (by rw [hsC]; rw [show i + 1 + parts.length = i + (parts.length + 1) by omega]; exact hC)
   have hget : ∀ q, q < (i + 1) * size → D[q]? = (setL C.toList (i * size) v.cells.toList)[q]? := by
    intro q hq
    rw [hDb q hq, ← Array.getElem?_toList, znI]
   refine ⟨D, ?_, by rw [hDs, hsC], fun q hq => ?_, hrow D (fun m u hu => ?_) hDr⟩
   ·have hjj : j' = i := by omega
    simp only [Instr.fill, hjj]
    rw [if_neg]
    ·exact hD
    ·simp only [Bool.or_eq_true, decide_eq_true_eq]; omega
   ·rw [hget q (by rw [Nat.add_mul]; omega), zeL, if_neg (by omega)]
    simp
   ·have hm : m < v.cells.toList.length := by
     rcases Nat.lt_or_ge m v.cells.toList.length with h' | h'
     ·exact h'
     ·rw [List.getElem?_eq_none h'] at hu; cases hu
    simp only [Array.length_toList] at hm
    rw [hget _ (by rw [Nat.add_mul]; omega), zeL, if_pos (by simp only [Array.length_toList]; omega)]
    rw [show i * size + m - i * size = m by omega]
    exact hu
  have hpl := hps.length
  simp only [Array.length_toList] at hpl
  cases rw' with
  | ints kd l =>
   simp only at h4
   split at h4
   ·rename_i kd' nn
    obtain ⟨hk, h5⟩ := zar h4
    simp only [decide_eq_true_eq] at hk
    have hv : v.cells.toList = [.int kd' nn] := by
     match v.cells.toList, hps with
     | [u], hps => rw [show u = .int kd' nn by simpa only [RepP] using hps.1]
    have h1 : size = 1 := hesz.symm
    refine fin (.ints kd (nn :: l)) h5 rfl hesz (by rw [← hpl, h1]; rfl) (fun D hD hrow => ?_)
    intro q hq
    subst h1
    cases q with
    | zero =>
     have := hD 0 (.int kd' nn) (by rw [hv]; rfl)
     rw [← hk] at this
     simpa [List.getD] using this
    | succ q =>
     have := hrow q (by simpa using hq)
     simp only [Nat.mul_one] at this ⊢
     rw [show i + (q + 1) = i + 1 + q by omega]
     simpa [List.getD] using this
   ·exact (zal h4).elim
  | bools l =>
   simp only at h4
   split at h4
   ·rename_i nn
    have hv : v.cells.toList = [.bool nn] := by
     match v.cells.toList, hps with
     | [u], hps => rw [show u = .bool nn by simpa only [RepP] using hps.1]
    have h1 : size = 1 := hesz.symm
    refine fin (.bools (nn :: l)) h4 rfl hesz (by rw [← hpl, h1]; rfl) (fun D hD hrow => ?_)
    intro q hq
    subst h1
    cases q with
    | zero =>
     have := hD 0 (.bool nn) (by rw [hv]; rfl)
     simpa [List.getD] using this
    | succ q =>
     have := hrow q (by simpa using hq)
     simp only [Nat.mul_one] at this ⊢
     rw [show i + (q + 1) = i + 1 + q by omega]
     simpa [List.getD] using this
   ·exact (zal h4).elim
  | recs sz l =>
   simp only at h4
   obtain ⟨hk, h5⟩ := zar h4
   have hk2 := Nat.eq_of_beq_eq_true hk
   have h1 : sz = size := hesz
   refine fin (.recs sz (ps :: l)) h5 rfl hesz (by omega) (fun D hD hrow => ?_)
   simp only [zbb, za4]
   refine ⟨hk2, hps2.ps (fun m u hu => hD m u hu), ?_⟩
   have e1 : (fun q => D[i * size + (q + sz)]?) = fun q => D[(i + 1) * size + q]? := by
    funext q
    rw [h1, Nat.add_mul, Nat.one_mul]
    congr 1; omega
   rw [e1]
   exact hrow
theorem zov {R : Type} {P : Program} {x : Cx} {t len nm : Nat} {parts : List (Nat × SV)} {vs : Array (Nat × Value)} {s : St} {k : SV → St → Ans R} {r : R} (hs : Sto x s.objs s.rows) (hn : ¬ x.g.U nm)
  (hi : parts.map (·.1) = vs.toList.map (·.1)) (hr : zfN x (parts.map (·.2)) (vs.toList.map (·.2))) (h : Says (zjz P t len parts nm s k) r) : zfd P x (· = nm) s (Instr.buildSlice t len vs) k r := by
 obtain ⟨e, he, h1⟩ := zam h
 obtain ⟨r0, hr0, h2⟩ := zam h1
 obtain ⟨ti, hti, h3⟩ := zam h2
 obtain ⟨hc1, h4⟩ := zar h3
 obtain ⟨hc2, h5⟩ := zar h4
 clear h h1 h2 h3 h4
 obtain ⟨hesz, h0len, h0is⟩ := zjL hr0
 obtain ⟨hsizeOf, hpos, hcells⟩ := zfV hesz
 simp only [Bool.and_eq_true] at hc2
 have hplen := Nat.eq_of_beq_eq_true hc2.1
 have hmax := Nat.le_of_ble_eq_true hc2.2
 rw [hcells] at hmax
 obtain ⟨rw', s1, y, hx, hg, hw, hs1, hsl, h6, hlen, hesz', hfill⟩ := zoB (size := r0.esz) rfl h0len h0is hs hi hr h5
 obtain ⟨z, hz, hzl⟩ := zb5 x hti
 obtain ⟨D, hD, hDs, _, hDr⟩ := hfill ((Array.range (len * r0.esz)).map ((if len * r0.esz = 0 then #[] else z.cells)[· % (if len * r0.esz = 0 then #[] else z.cells).size]!)) (by simp [hplen])
 have hDs2 : D.size = len * r0.esz := by rw [hDs]; simp
 obtain ⟨hgr, hs2⟩ := zlP (x := y) (nm := nm) (rw := rw') (c := D) (e := e) (fr := (0, 0)) hs1 (by rw [hg]; exact hn) (.inl rfl) (by rw [hlen, hesz', hplen, hDs2]; exact Nat.le_refl _) (by simpa using hDr)
 refine ⟨.slice (some ⟨y.w.heap.size, 0, none⟩) len len, cone (.own nm 0 rw'.len true), { s1 with rows := (nm, .live rw') :: s1.rows }, _, ?_, hx.trans hgr.ext, by rw [← hg]; exact hgr.g, ?_, hs2, hsl, ?_, h6⟩
 ·show _ = Result.ok _ (y.w.alloc (.cells D e))
  have hb : ¬ len * r0.esz > 2 ^ 24 := by omega
  simp only [Instr.buildSlice, Sem.run_bind, run_underlying (zfL he), Result.andThen_ok, hsizeOf, if_neg hb, Sem.run_pure, hw]
  by_cases hz0 : len * r0.esz = 0
  ·rw [if_pos hz0]
   rw [if_pos hz0] at hD
   simp only [Sem.run_bind, Sem.run_pure, Result.andThen_ok, hD, zef]
  ·rw [if_neg hz0]
   rw [if_neg hz0] at hD
   simp only [Sem.run_bind, Sem.run_pure, hz, Result.andThen_ok, hD, zef]
 ·intro n hU
  rcases hU with hU | hU
  ·exact .inl (by rw [← hg]; exact hU)
  ·exact .inr hU
 ·have hrl : rw'.len = len := by rw [hlen, hplen]
  refine ⟨rfl, .inr rfl, ?_, .inr ⟨_, _, _, by rw [hrl], by omega, fun _ => rfl, fun _ => ?_⟩⟩
  ·simp [Cx.more, G.newR]
  ·simp only [Cx.more, G.newR, if_pos]
   refine ⟨trivial, by simp, ?_⟩
   rw [hDs2, hesz', hrl]; simp
end Go.Ev
set_option linter.unusedSectionVars false
namespace Go.Ev
variable [DLaw]
set_option linter.unusedVariables false
set_option linter.unusedSimpArgs false
def Cx.drew (x : Cx) : Cx := { x with w := x.w.drew }
theorem Cx.grow_drew {x : Cx} (hlt : ∀ b, x.S b → b < x.w.heap.size) : Grow x x.drew :=
 ⟨⟨rfl, rfl, rfl, Nat.le_refl _, fun _ _ _ => rfl, fun _ h => .inl h, rfl, fun _ => Nat.le_succ _⟩, G.Le.refl _, fun _ _ => rfl, fun _ h => h, hlt⟩
theorem zs3 {w : World} {ok : Nat → Prop} {rw : Row} {f : Nat → Option Value} (h : zbb w ok rw f) : ∃ vs : List Value, vs.length = rw.len * rw.esz ∧ (∀ v ∈ vs, v.oneCell' = true) ∧ ∀ i v, vs[i]? = some v → f i = some v := by
 cases rw with
 | ints k l =>
  refine ⟨l.map (Value.int k), by simp [Row.len, Row.esz], fun v hv => by obtain ⟨b, _, rfl⟩ := List.mem_map.1 hv; rfl, fun i v hv => ?_⟩
  simp only [List.getElem?_map] at hv
  cases hl : l[i]? with
  | none => simp [hl] at hv
  | some n =>
   simp [hl] at hv
   have hi : i < l.length := by
    rcases Nat.lt_or_ge i l.length with h' | h'
    ·exact h'
    ·simp [List.getElem?_eq_none h'] at hl
   rw [h i hi, ← hv]; simp [List.getD, hl]
 | bools l =>
  refine ⟨l.map Value.bool, by simp [Row.len, Row.esz], fun v hv => by obtain ⟨b, _, rfl⟩ := List.mem_map.1 hv; rfl, fun i v hv => ?_⟩
  simp only [List.getElem?_map] at hv
  cases hl : l[i]? with
  | none => simp [hl] at hv
  | some n =>
   simp [hl] at hv
   have hi : i < l.length := by
    rcases Nat.lt_or_ge i l.length with h' | h'
    ·exact h'
    ·simp [List.getElem?_eq_none h'] at hl
   rw [h i hi, ← hv]; simp [List.getD, hl]
 | recs sz l =>
  have one : ∀ (ps : List PV) (g : Nat → Option Value), zbx w ok ps g → ∃ vs : List Value, vs.length = ps.length ∧ (∀ v ∈ vs, v.oneCell' = true) ∧ ∀ i v, vs[i]? = some v → g i = some v := by
   intro ps
   induction ps with
   | nil => intro g _; exact ⟨[], rfl, by simp, by simp⟩
   | cons p ps ih =>
    intro g hg
    simp only [zbx] at hg
    obtain ⟨⟨v, hv, hp⟩, hr⟩ := hg
    obtain ⟨vs, hl, h1, hc⟩ := ih _ hr
    refine ⟨v :: vs, by simp [hl], ?_, fun i u hu => ?_⟩
    ·intro u hu
     rcases List.mem_cons.1 hu with rfl | hu
     ·exact zb1 hp
     ·exact h1 u hu
    ·cases i with
     | zero => simp at hu; rw [← hu]; exact hv
     | succ i => exact hc i u (by simpa using hu)
  have h2 : za4 w ok sz l f := h
  clear h
  show ∃ vs : List Value, vs.length = l.length * sz ∧ _
  induction l generalizing f with
  | nil => exact ⟨[], by simp, by simp, by simp⟩
  | cons e l ih =>
   simp only [za4] at h2
   obtain ⟨us, hul, hu1, huc⟩ := one e f h2.2.1
   obtain ⟨vs, hvl, hv1, hvc⟩ := ih h2.2.2
   refine ⟨us ++ vs, ?_, ?_, fun i v hv => ?_⟩
   ·rw [List.length_append, hul, hvl, h2.1, List.length_cons, Nat.add_mul]; omega
   ·intro v hv
    rcases List.mem_append.1 hv with hv | hv
    ·exact hu1 v hv
    ·exact hv1 v hv
   ·rw [List.getElem?_append] at hv
    split at hv
    ·exact huc i v hv
    ·rename_i hge
     have := hvc _ v hv
     rw [hul, h2.1] at this hge
     rwa [show i - sz + sz = i by omega] at this
theorem zhk {w : World} {ok : Nat → Prop} {rw : Row} {f g : Nat → Option Value} (h : zbb w ok rw f) (he : ∀ i, i < rw.len * rw.esz → f i = g i) : zbb w ok rw g := by
 cases rw with
 | ints k l => intro i hi; rw [← he i (by simpa [Row.len, Row.esz] using hi)]; exact h i hi
 | bools l => intro i hi; rw [← he i (by simpa [Row.len, Row.esz] using hi)]; exact h i hi
 | recs sz l => exact zdx h he
theorem zd5 {w : World} {ok : Nat → Prop} {sz : Nat} : ∀ {a b : List (List PV)} {f : Nat → Option Value}, za4 w ok sz a f → za4 w ok sz b (fun i => f (a.length * sz + i)) → za4 w ok sz (a ++ b) f
 | [], b, f, _, hb => by simpa using hb
 | e :: a, b, f, ha, hb => by
  simp only [za4, List.cons_append] at ha ⊢
  refine ⟨ha.1, ha.2.1, zd5 ha.2.2 ?_⟩
  have e1 : (fun i => f (a.length * sz + i + sz)) = fun i => f ((e :: a).length * sz + i) := funext fun i => by congr 1; rw [List.length_cons, Nat.add_mul]; omega
  rw [e1]; exact hb
theorem zs7 {R : Type} {a b : Row} {k : Row → Ans R} {r : R} (h : Says (a.app b k) r) : ∃ c, Says (k c) r ∧ c.len = a.len + b.len ∧ c.esz = a.esz ∧ b.esz = a.esz ∧
  ∀ w ok f, zbb w ok a f → zbb w ok b (fun i => f (a.len * a.esz + i)) → zbb w ok c f := by
 unfold Row.app at h
 split at h
 ·rename_i kx l ky m
  obtain ⟨hk, h1⟩ := zar h
  simp only [decide_eq_true_eq] at hk
  refine ⟨_, h1, by simp [Row.len], rfl, rfl, fun w ok f ha hb i hi => ?_⟩
  simp only [List.length_append] at hi
  by_cases hlt : i < l.length
  ·have := ha i hlt
   rw [this]; simp [List.getD, List.getElem?_append, hlt]
  ·have := hb (i - l.length) (by omega)
   simp only [Row.len, Row.esz, Nat.mul_one, show l.length + (i - l.length) = i by omega] at this
   rw [this, hk]; simp [List.getD, List.getElem?_append, hlt]
 ·rename_i l m
  refine ⟨_, h, by simp [Row.len], rfl, rfl, fun w ok f ha hb i hi => ?_⟩
  simp only [List.length_append] at hi
  by_cases hlt : i < l.length
  ·have := ha i hlt
   rw [this]; simp [List.getD, List.getElem?_append, hlt]
  ·have := hb (i - l.length) (by omega)
   simp only [Row.len, Row.esz, Nat.mul_one, show l.length + (i - l.length) = i by omega] at this
   rw [this]; simp [List.getD, List.getElem?_append, hlt]
 ·rename_i kx l ky m
  obtain ⟨hk, h1⟩ := zar h
  have hk2 := Nat.eq_of_beq_eq_true hk
  refine ⟨_, h1, by simp [Row.len], rfl, hk2.symm, fun w ok f ha hb => ?_⟩
  subst hk2
  exact zd5 ha hb
 ·exact (zal h).elim
theorem zth (l : List Int) : ∀ (s : ByteArray), l.foldl (fun r n => r.push (UInt8.ofNat n.toNat)) s = ⟨s.data ++ (l.map fun n => UInt8.ofNat n.toNat).toArray⟩ := by
 induction l with
 | nil => intro s; simp
 | cons n l ih =>
  intro s
  rw [List.foldl_cons, ih]
  congr 1
  cases s with
  | mk a =>
   show a.push _ ++ _ = _
   apply Array.ext'
   simp
theorem zrk {P : Program} {x : Cx} {okr : Nat → Prop} {l : List Int} {t : Bool} {v : Value} (h : SlAt x.w okr l.length t v (zbb x.w x.okP (.ints .u8 l))) : (Conv.bytesToString v).run P x.w = .ok (.string (strOf l)) x.w := by
 rcases h with ⟨rfl, h0⟩ | ⟨b, o, cap, sp, rfl, hn, ht, hc⟩
 ·have : l = [] := List.length_eq_zero_iff.1 h0
  subst this
  rfl
 ·have hload : (loadCells ⟨b, o, sp⟩ l.length).run P x.w = .ok (l.map (Value.int .u8)).toArray x.w := by
   by_cases hl0 : l.length = 0
   ·have : l = [] := List.length_eq_zero_iff.1 hl0
    subst this
    simp [loadCells, loadCellsFrom]
   obtain ⟨rfl, _, hcr⟩ := hc (by omega)
   have := run_loadCells_list (P := P) x.w ⟨b, o, none⟩ (l.map (Value.int .u8)) (fun j u hj => ?_)
   ·simpa using this
   ·rw [Addr.add_lit]
    simp only [List.getElem?_map] at hj
    cases hl : l[j]? with
    | none => simp [hl] at hj
    | some n =>
     simp [hl] at hj
     have hi : j < l.length := by
      rcases Nat.lt_or_ge j l.length with h' | h'
      ·exact h'
      ·simp [List.getElem?_eq_none h'] at hl
     have := hcr j hi
     simp only [List.getD, hl, Option.getD_some] at this
     rw [this, hj]
  rw [run_bytesToString x.w ⟨b, o, sp⟩ l.length cap l hload, zth]
  congr 2
  simp [strOf]
theorem zlO {x : Cx} {r off n : Nat} {t : Bool} {v : Value} {rw : Row} (hc : RepC x (.own r off n t) v) (hrow : zg0 x r rw ∨ Vir x r rw) : SlAt x.w (fun _ => True) n t v (zbb x.w x.okP (rw.cut off n)) := by
 rcases hrow with hrow | hrow
 rotate_left
 ·have h := zfb.1 (zqr (ok := x.okP) (okr := fun _ => True) hc hrow)
  have := hrow.own hc
  rw [zmC hrow.2.2.2.1, ← this.1] at h
  exact h
 have h := zfb.1 (zsl (okr := fun _ => True) hc hrow trivial)
 have hle : off + n ≤ rw.len := by
  obtain ⟨_, _, _, _, _, _, _, hrl, _⟩ := hrow
  have := hc.2.1
  omega
 rwa [ziJ hle] at h
theorem zmp {P : Program} {w : World} {c : Array Value} {e : TypeId} : (markStringish ⟨w.heap.size, 0, none⟩).run P (w.alloc (.cells c e)) = .ok () (w.alloc (.cells c e (c.size, c.size + 1))) := by
 have hsh : (w.alloc (.cells c e)).shape? w.heap.size = some (e, c.size) := by
  unfold World.shape?
  rw [zeM]
 have hfr : (w.alloc (.cells c e)).freeze { block := w.heap.size, off := c.size } 1 = w.alloc (.cells c e (c.size, c.size + 1)) := by
  unfold World.freeze World.alloc
  simp only [Nat.one_ne_zero, if_false]
  congr 1
  apply Array.ext_getElem?
  intro i
  rw [Array.getElem?_modify, Array.getElem?_push, Array.getElem?_push]
  by_cases hi : i = w.heap.size
  ·subst hi; simp
  ·rw [if_neg (fun h => hi h.symm), if_neg hi, if_neg hi]
 simp only [markStringish, shape, freeze, Sem.run_bind, Sem.run, hsh, Result.andThen_ok, hfr]
theorem zto {P : Program} {w : World} {b o : Nat} {c : Array Value} {e : TypeId} {fr : Nat × Nat} (h : w.heap[b]? = some (.cells c e fr)) (hn : NoFr c fr) :
  ∃ fr', NoFr c fr' ∧ (markStringish ⟨b, o, none⟩).run P w = .ok () (zdR w b (.cells c e fr')) := by
 obtain ⟨lo, hi⟩ := fr
 refine ⟨if (lo == hi) = true then (c.size, c.size + 1) else (min lo c.size, max hi (c.size + 1)), ?_, ?_⟩
 ·unfold NoFr at hn ⊢
  split
  ·exact .inr (Nat.le_refl _)
  ·rename_i hne
   rcases hn with hn | hn
   ·simp at hne; exact (hne hn).elim
   ·right; simp only at hn ⊢; omega
 ·have hsh : w.shape? b = some (e, c.size) := by
   unfold World.shape?
   rw [h]
  have hb : b < w.heap.size := by
   rcases Nat.lt_or_ge b w.heap.size with h' | h'
   ·exact h'
   ·simp [Array.getElem?_eq_none h'] at h
  have hfr : w.freeze { block := b, off := c.size } 1 = zdR w b (.cells c e (if (lo == hi) = true then (c.size, c.size + 1) else (min lo c.size, max hi (c.size + 1)))) := by
   unfold World.freeze zdR
   simp only [Nat.one_ne_zero, if_false]
   congr 1
   apply Array.ext_getElem?
   intro i
   rw [Array.getElem?_modify, Array.getElem?_setIfInBounds]
   by_cases hi : b = i
   ·subst hi
    have h2 : w.heap[b] = .cells c e (lo, hi) := by rw [Array.getElem?_eq_getElem hb] at h; exact Option.some.inj h
    simp [hb, h2]
   ·simp [hi]
  simp only [markStringish, shape, freeze, Sem.run_bind, Sem.run, hsh, Result.andThen_ok, hfr]
theorem zvP {x : Cx} {objs : List (Nat × Obj)} {rows : List (Nat × RowB)} {rr : Nat} {rw : Row} {c : Array Value} {e : TypeId} {fr fr' : Nat × Nat} (hs : Sto x objs rows) (hlk : lkup rr rows = some (.live rw)) (hnv : ¬ Vir x rr rw)
  (hh : x.w.heap[x.g.rb rr]? = some (.cells c e fr)) (hn : NoFr c fr') : Ext x (x.put (x.g.rb rr) (.cells c e fr')) ∧ Sto (x.put (x.g.rb rr) (.cells c e fr')) objs rows := by
 obtain ⟨hu, hvir | ⟨_, hS, c', e', fr0, hh', hnf, hcs, hes, hrl, hle, hrow⟩⟩ := hs.liveC hlk
 ·exact (hnv hvir).elim
 obtain ⟨rfl, rfl, rfl⟩ : c' = c ∧ e' = e ∧ fr0 = fr := by rw [hh'] at hh; cases hh; exact ⟨rfl, rfl, rfl⟩
 have hx : Ext x (x.put (x.g.rb rr) (.cells c' e' fr')) := Cx.ext_put hS
 have hother : ∀ b, b ≠ x.g.rb rr → (x.put (x.g.rb rr) (.cells c' e' fr')).w.heap[b]? = x.w.heap[b]? := fun b hb => zeF hb
 refine ⟨hx, ?_, ?_, ?_, hs.injO, hs.injR, hs.injX, fun b hb => by simp only [Cx.put, zcu]; exact hs.Slt b hb, fun b hb => by simp only [Cx.put, zcu]; exact hs.Blt b hb, hs.SB⟩
 ·intro o l hl
  obtain ⟨h1, h2, h3⟩ := hs.obj o l hl
  exact ⟨h1, h2, h3.mono hx (G.Le.refl _) (hother _ (fun he => hs.injX _ _ _ _ hl hlk hnv he))⟩
 ·intro r' rw2 hl
  obtain ⟨h1, h23⟩ := hs.liveC hl
  by_cases he : r' = rr
  ·subst he
   rw [hlk] at hl
   cases hl
   exact ⟨hu, .inl ⟨hS, c', e', fr', zd7 (hs.Slt _ hS), hn, hcs, hes, hrl, hle, zbb.mono (fun _ hb => hx.okP hb) (fun b hb => hx.blk b hb.1 hb.2.1) hrow⟩⟩
  ·rcases h23 with h2 | ⟨hnv2, h2, h3⟩
   ·exact ⟨h1, .inr h2⟩
   ·exact ⟨h1, .inl ⟨h2, h3.mono hx (G.Le.refl _) h1 (hother _ (fun h => he (hs.injR _ _ _ _ hl hlk hnv2 hnv h)))⟩⟩
 ·intro r' rw2 hl
  obtain ⟨h1, h2⟩ := hs.froz r' rw2 hl
  exact ⟨h1, h2.imp (fun ⟨h2, h3⟩ => ⟨hx.okP h2, h3.mono hx (G.Le.refl _) h1 (hother _ (fun he => h2.2.1 (he ▸ hS)))⟩) id⟩
theorem zrq {R : Type} {P : Program} {x : Cx} {src dst nm : Nat} {av : SV} {s : St} {v : Value} {k : SV → St → Ans R} {r : R} (hs : Sto x s.objs s.rows) (hn : ¬ x.g.U nm) (hv : RepS x av v) (h : Says (zqF P src dst av nm s k) r) :
  zfd P x (· = nm) s (convert src dst v) k r := by
 obtain ⟨hsrc, h1⟩ := zar h
 clear h
 obtain ⟨ds, hds⟩ := Option.isSome_iff_exists.1 hsrc
 split at h1
 ·rename_i kd hdst
  obtain ⟨k0, n, ha, h2⟩ := zdz h1
  rw [ha] at hv
  rw [zfg hv]
  refine zcx.turns hs (.int h2 (fun _ => ?_))
  simp [convert, run_underlying hds, run_underlying hdst, Conv.intToInt]
 ·rename_i hdst
  split at h1
  ·rename_i b
   rw [zjK hv]
   refine zcx.turns hs (.pv (u := .string b) h1 (fun _ => ?_) (by simp [RepP]))
   simp [convert, run_underlying hds, run_underlying hdst]
  ·rename_i c hnot
   obtain ⟨e, he, h2⟩ := zam h1
   have hu := zfL he
   split at h2
   ·rename_i hu8
    have hv2 : RepC x c v := hv.2
    have conv : ∀ {okr : Nat → Prop} {l : List Int} {t : Bool}, SlAt x.w okr l.length t v (zbb x.w x.okP (.ints .u8 l)) → (convert src dst v).run P x.w = .ok (.string (strOf l)) x.w := by
     intro okr l t hsl
     have hsl' : ∃ a n c, v = .slice a n c := by
      rcases hsl with ⟨h, _⟩ | ⟨b, o, cap, sp, h, _⟩
      ·exact ⟨_, _, _, h⟩
      ·exact ⟨_, _, _, h⟩
     obtain ⟨a, n, c, rfl⟩ := hsl'
     rw [run_convert_bytes_string x.w src dst e a n c hu hu8 hdst]
     exact zrk hsl
    cases c with
    | pv p =>
     obtain ⟨rw, tt, h3, hsl, _⟩ := zgV (r0 := .ints .u8 []) rfl (fun f => by intro i hi; simp at hi) hv2 h2
     split at h3
     ·exact zfd.same hs h3 (conv hsl) ⟨rfl, by simp [RepC, RepP]⟩
     ·exact (zal h3).elim
    | bor p =>
     obtain ⟨rw, tt, h3, hsl, _⟩ := zgV (r0 := .ints .u8 []) rfl (fun f => by intro i hi; simp at hi) hv2 h2
     split at h3
     ·exact zfd.same hs h3 (conv hsl) ⟨rfl, by simp [RepC, RepP]⟩
     ·exact (zal h3).elim
    | own rr off n tt =>
     obtain ⟨rb, hrb, h3⟩ := zam h2
     have hsn : ∀ {l : List Int}, zg0 x rr (.ints .u8 l) ∨ Vir x rr (.ints .u8 l) → SlAt x.w (fun _ => True) ((l.drop off).take n).length tt v (zbb x.w x.okP (.ints .u8 ((l.drop off).take n))) := by
      intro l hrow
      have h := zlO hv2 hrow
      have hle : off + n ≤ l.length := by
       have hrl : (Row.ints .u8 l).len = x.g.rl rr := by
        rcases hrow with ⟨_, _, _, _, _, _, _, hrl, _⟩ | hrow
        ·exact hrl
        ·exact hrow.2.2.1
       have := hv2.2.1
       simp only [Row.len] at hrl
       omega
      have : ((l.drop off).take n).length = n := by simp; omega
      rw [this]; exact h
     split at h3
     ·exact zfd.same hs h3 (conv (hsn ((hs.live _ _ hrb).2.imp (·.2) id))) ⟨rfl, by simp [RepC, RepP]⟩
     ·exact zfd.same hs h3 (conv (hsn ((hs.froz _ _ hrb).2.imp (·.2) id))) ⟨rfl, by simp [RepC, RepP]⟩
     ·exact (zal h3).elim
    | ref => exact (zal h2).elim
    | iadr => exact (zal h2).elim
    | radr => exact (zal h2).elim
    | dead => exact (zal h2).elim
    | mp => exact (zal h2).elim
    | fn => exact (zal h2).elim
    | stamp => exact (zal h2).elim
    | maph => exact (zal h2).elim
    | sit => exact (zal h2).elim
   ·exact (zal h2).elim
  ·exact (zal h1).elim
 ·rename_i e hdst
  split at h1
  ·rename_i b
   split at h1
   ·rename_i hu8
    obtain ⟨hb, h2⟩ := zce h1
    simp only [decide_eq_true_eq] at hb
    rw [zjK hv]
    have hgd := Cx.grow_drew (x := x) hs.Slt
    have hsd := hs.grow hgd
    let cap := (Question.appendCap b.size 0 e).cut (x.w.tape x.w.drawn (.appendCap b.size 0 e))
    have hcap : b.size ≤ cap := by simp [cap, Question.cut]
    let c : Array Value := (b.data.map fun u => Value.int .u8 (u.toNat : Int)) ++ Array.replicate (cap - b.size) (.int .u8 0)
    have hcs : c.size = cap := by
     have hsz : b.data.size = b.size := rfl
     simp only [c, Array.size_append, Array.size_map, hsz, Array.size_replicate]; omega
    have hlen : (Row.ints .u8 (zcn b)).len = b.size := by
     show (zcn b).length = _
     simp [zcn]
    obtain ⟨hg2, hs2⟩ := zlP (x := x.drew) (nm := nm) (rw := .ints .u8 (zcn b)) (c := c) (e := e) (fr := (c.size, c.size + 1)) hsd hn (.inr (Nat.le_refl _)) (by rw [hlen]; simp only [Row.esz]; omega) (by
     intro i hi
     have hi2 : i < b.data.size := by simpa [zcn] using hi
     show c[i]? = _
     simp only [c]
     rw [Array.getElem?_append_left (by simpa using hi2)]
     have h5 : b.data[i]? = some b.data[i] := Array.getElem?_eq_getElem hi2
     simp [zcn, List.getD, h5])
    refine ⟨.slice (some ⟨x.w.heap.size, 0, none⟩) b.size cap, cone (.own nm 0 (Row.ints .u8 (zcn b)).len false), { s with rows := (nm, .live (.ints .u8 (zcn b))) :: s.rows }, _, ?_, hgd.ext.trans hg2.ext, hgd.g.trans hg2.g, ?_, hs2, rfl, ?_, h2⟩
    ·have hch : (choose (.appendCap b.size 0 e)).run P x.w = .ok cap x.w.drew := by simp [choose, Sem.run, Question.forced, cap]
     simp only [convert, Sem.run_bind, run_underlying hds, run_underlying hdst, Result.andThen_ok]
     have hcv : (Conv.stringToBytes e b).run P x.w = .ok (.slice (some ⟨x.w.heap.size, 0, none⟩) b.size cap) (x.drew.more (.cells c e (c.size, c.size + 1)) (x.drew.g.newR nm x.drew.w.heap.size (Row.ints .u8 (zcn b)).esz c.size (Row.ints .u8 (zcn b)).len)).w := by
      simp only [Conv.stringToBytes, Sem.run_bind, hch, Result.andThen_ok, zef]
      have := zmp (P := P) (w := x.w.drew) (c := c) (e := e)
      simp only [World.size_drew] at this
      simp only [World.size_drew]
      rw [this]
      rfl
     cases ds <;> simp only [Sem.run_bind, run_underlying hu8, Result.andThen_ok] <;> exact hcv
    ·intro n hU
     exact hU
    ·rw [hlen]
     refine ⟨rfl, .inr rfl, ?_, .inr ⟨_, _, _, rfl, hcap, by simp, fun _ => ?_⟩⟩
     ·simp [Cx.more, G.newR, hlen]
     ·simp [Cx.more, G.newR, Row.esz, hcs]
      rfl
   ·exact (zal h1).elim
  ·rename_i rr off n tt
   split at h1
   ·rename_i hu8
    obtain ⟨hck, h2⟩ := zar h1
    simp only [Bool.and_eq_true] at hck
    obtain rfl : src = dst := Nat.eq_of_beq_eq_true hck.1
    have hpos : 0 < n := Nat.le_of_ble_eq_true hck.2
    obtain ⟨rb, hrb, h3⟩ := zam h2
    cases rb with
    | froz => exact (zal h3).elim
    | gone => exact (zal h3).elim
    | live rw =>
     obtain ⟨hv1, hU, hrl, hown⟩ := hv
     rcases hown with ⟨_, h0⟩ | ⟨b, o, cap, hvv, hle, htt, hfit⟩
     ·omega
     ·obtain ⟨hb, ho, hfit⟩ := hfit (by omega)
      obtain ⟨hu, hvir | ⟨hnv, hS, c, ec, fr, hh, hnf, _⟩⟩ := hs.liveC hrb
      ·have := (hvir.own (v := v) ⟨hU, hrl, .inr ⟨b, o, cap, hvv, hle, htt, fun _ => ⟨hb, ho, hfit⟩⟩⟩).1
       omega
      obtain ⟨fr', hn', hrun⟩ := zto (P := P) (o := o) hh hnf
      obtain ⟨hx, hs2⟩ := zvP hs hrb hnv hh hn'
      refine ⟨v, cone (.own rr off n tt), s, x.put (x.g.rb rr) (.cells c ec fr'), ?_, hx, G.Le.refl _, fun m hm => .inl hm, hs2, rfl, ⟨hv1, hU, hrl, .inr ⟨b, o, cap, hvv, hle, htt, fun _ => ⟨hb, ho, hfit⟩⟩⟩, h3⟩
      rw [hvv]
      rw [hdst] at hds
      cases hds
      simp [convert, run_underlying hdst, run_underlying hu8, hrun, Cx.put, hb]
   ·exact (zal h1).elim
  ·exact (zal h1).elim
 ·exact (zal h1).elim
end Go.Ev
