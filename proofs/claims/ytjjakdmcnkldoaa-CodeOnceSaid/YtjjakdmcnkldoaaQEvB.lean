/- The evaluator: calls by value, regions, code, functions. No program in sight. -/
import Derived.Test.YtjjakdmcnkldoaaQEvA
import Derived.OrdersHeld
set_option linter.unusedVariables false
set_option linter.unusedSimpArgs false
namespace Go.Ev

/-! ### Handles -/
def SV.cells : SV → List CV
  | .av a => a.cells
  | .tup l => l.flatMap AV.cells
def mem (x : Nat) : List Nat → Bool
  | [] => false
  | y :: l => bif Nat.beq x y then true else mem x l
def nodup : List Nat → Bool
  | [] => true
  | x :: l => !(mem x l) && nodup l
def idx (x : Nat) : List Nat → Option Nat
  | [] => none
  | y :: l => bif Nat.beq x y then some 0 else (idx x l).map (· + 1)
/-- The objects that are come to from cells. -/
def reachO (objs : List (Nat × Obj)) : Nat → List CV → List Nat → List Nat
  | 0, _, v => v
  | _ + 1, [], v => v
  | n + 1, c :: cs, v => match c with
    | .ref o _ => bif mem o v then reachO objs n cs v else match lkup o objs with
      | some ob => reachO objs n (ob ++ cs) (v ++ [o])
      | none => reachO objs n cs v
    | _ => reachO objs n cs v
/-- The rows that cells speak of, those that are closed left out. -/
def reachR (rows : List (Nat × RowB)) : List CV → List Nat → List Nat
  | [], v => v
  | c :: cs, v => match c with
    | .own r _ _ _ => bif mem r v then reachR rows cs v else match lkup r rows with
      | some (.live _) => reachR rows cs (v ++ [r])
      | _ => reachR rows cs v
    | _ => reachR rows cs v
/-- A row of the frame's own that is closed is a lasting slice. -/
def resC (rows : List (Nat × RowB)) (c : CV) : CV :=
  match c with
  | .own r off n t => match lkup r rows with
    | some (.froz rw) => .pv ((rw.cut off n).pv t)
    | _ => c
  | c => c
def renC (os rs : List Nat) (c : CV) : CV :=
  match c with
  | .ref o off => match idx o os with
    | some j => .ref j off
    | none => .dead
  | .own r off n t => match idx r rs with
    | some j => .own j off n t
    | none => .dead
  | .radr r i fo => match idx r rs with
    | some j => .radr j i fo
    | none => .dead
  | c => c
def AV.map (f : CV → CV) : AV → AV
  | .one c => .one (f c)
  | .agg l => .agg (l.map f)
def SV.map (f : CV → CV) : SV → SV
  | .av a => .av (a.map f)
  | .tup l => .tup (l.map (AV.map f))
def getObjs (objs : List (Nat × Obj)) : List Nat → Option (List Obj)
  | [] => some []
  | o :: l => match lkup o objs, getObjs objs l with
    | some ob, some r => some (ob :: r)
    | _, _ => none
def getRows (rows : List (Nat × RowB)) : List Nat → Option (List Row)
  | [] => some []
  | o :: l => match lkup o rows, getRows rows l with
    | some (.live rw), some r => some (rw :: r)
    | _, _ => none
def number {α : Type} (i : Nat) : List α → List (Nat × α)
  | [] => []
  | x :: l => (i, x) :: number (i + 1) l
def upTo (i : Nat) : Nat → List Nat
  | 0 => []
  | n + 1 => i :: upTo (i + 1) n

/-- A part of the store, told anew under names from 0 on: the pinned objects first, then what is come to. -/
structure Part where
  os : List Nat
  rs : List Nat
  objs : List Obj
  rows : List Row
def pinned (objs : List (Nat × Obj)) : List Nat → List CV
  | [] => []
  | o :: l => (lkup o objs).getD [] ++ pinned objs l
def part (pins : List Nat) (roots : List CV) (s : St) : Option Part :=
  let os := reachO s.objs 400 (pinned s.objs pins ++ roots) pins
  let rs := reachR s.rows (pinned s.objs os ++ roots) []
  match getObjs s.objs os, getRows s.rows rs with
  | some ob, some rw => bif nodup os && nodup rs then some ⟨os, rs, ob.map (·.map fun c => renC os rs (resC s.rows c)), rw⟩ else none
  | _, _ => none
def Part.f (p : Part) (rows : List (Nat × RowB)) (c : CV) : CV := renC p.os p.rs (resC rows c)

/-- The slots that are kept behind a region. -/
def keepS (slots : List (Nat × SV)) : List Nat → List (Nat × SV)
  | [] => []
  | t :: l => match lkup t slots with
    | some v => (t, v) :: keepS slots l
    | none => keepS slots l
def tidy (keep : List Nat) (m : Nat) (s : St) : Option St :=
  let ks := keepS s.slots keep
  match part (upTo 0 m) (ks.flatMap fun x => x.2.cells) s with
  | some p => some ⟨ks.map fun x => (x.1, x.2.map (p.f s.rows)), number 0 p.objs, number 0 (p.rows.map .live)⟩
  | none => none

/-! ### Calls -/
section
variable {R : Type}

def isSl (P : Program) (t : TypeId) : Bool := match P.underlying t with | some (.slice _) => true | _ => false
/-- An argument's cell: a row of the frame's own is closed for good, or lent. -/
def passC (lend sl : Bool) (c : CV) (s : St) (k : CV → St → Ans R) : Ans R :=
  match c with
  | .own r off n t => getD' (lkup r s.rows) fun rb => match rb with
    | .live rw => bif lend then k (.bor ((rw.cut off n).pv t)) s else k (.pv ((rw.cut off n).pv t)) { s with rows := (r, .froz rw) :: s.rows }
    | .froz rw => bif lend && sl then k (.bor ((rw.cut off n).pv t)) s else k (.pv ((rw.cut off n).pv t)) s
    | .gone => none
  | .pv p => bif lend && sl then k (.bor p) s else k (.pv p) s
  | .bor p => k (.bor p) s
  | .ref o off => k (.ref o off) s
  | _ => none
def passL (lend : Bool) (cs : List CV) (s : St) (k : List CV → St → Ans R) : Ans R :=
  match cs with
  | [] => k [] s
  | c :: cs => passC lend false c s fun c s => passL lend cs s fun cs s => k (c :: cs) s
def passA (P : Program) (lend : Bool) : List SV → List TypeId → St → (List AV → St → Ans R) → Ans R
  | [], _, s, k => k [] s
  | .av (.one c) :: xs, ts, s, k => passC lend (match ts with | t :: _ => isSl P t | [] => false) c s fun c s => passA P lend xs ts.tail s fun as s => k (.one c :: as) s
  | .av (.agg l) :: xs, ts, s, k => passL lend l s fun l s => passA P lend xs ts.tail s fun as s => k (.agg l :: as) s
  | .tup _ :: _, _, _, _ => none

/-- What comes back, under the caller's names: the objects that were handed over keep theirs; what is new is named by nm. -/
def backC (os : List Nat) (nm : Nat → Nat) (c : CV) : CV :=
  match c with
  | .ref o off => match os[o]? with
    | some x => .ref x off
    | none => .ref (nm o) off
  | .own r off n t => .own (nm r) off n t
  | c => c
def nameAt (os : List Nat) (nm : Nat → Nat) (i : Nat) : Nat := match os[i]? with | some x => x | none => nm i
def backObjs (os : List Nat) (nm : Nat → Nat) (i : Nat) : List Obj → List (Nat × Obj)
  | [] => []
  | ob :: l => (nameAt os nm i, ob.map (backC os nm)) :: backObjs os nm (i + 1) l
def backRows (nm : Nat → Nat) (i : Nat) : List Row → List (Nat × RowB)
  | [] => []
  | r :: l => (nm i, .live r) :: backRows nm (i + 1) l
def goneRows : List Nat → List (Nat × RowB)
  | [] => []
  | r :: l => (r, .gone) :: goneRows l
def tupOf : List AV → SV
  | [a] => .av a
  | l => .tup l

/-! ### What a walk is told: which way a test goes, what a call gives, how a loop ends -/
structure Env where
  P : Program
  C : Cfg
  call : CallP
  L : Code → St → Ex → St → Prop
  keep : List (Nat × List Nat)
  head : List (Nat × (List Nat × List (Nat × Row)))
  m : Nat
  nt : Nat

def obl (p : Prop) (x : Ans R) : Ans R :=
  match x with
  | some (r, ps) => some (r, .p p :: ps)
  | none => none
/-- Two states are one. -/
def same (s s' : St) (x : Ans R) : Ans R :=
  match x with
  | some (r, ps) => some (r, .e s s' :: ps)
  | none => none
/-- No row that is lent is handed over, too. -/
def lentOk (xs : List SV) (rs : List Nat) : Bool :=
  (xs.flatMap SV.cells).all fun c => match c with
    | .own r _ _ _ => !(mem r rs)
    | _ => true
def evCall (V : Env) (f : FuncId) (xs : List SV) (ts : List TypeId) (nm : Nat → Nat) (s : St) (sc : List Ev) (k : List Ev → SV → St → Ans R) : Ans R :=
  passA V.P (mem f V.C.bor) xs ts s fun as s =>
    match part [] (as.flatMap AV.cells) s, sc with
    | some p, .res r :: sc => chk (lentOk xs p.rs) fun _ =>
      obl (V.call f (as.map (AV.map (p.f s.rows))) p.objs p.rows r) (chk (Nat.ble p.objs.length r.2.1.length) fun _ =>
        k sc (tupOf (r.1.map (AV.map (backC p.os nm)))) { s with objs := backObjs p.os nm 0 r.2.1 ++ s.objs, rows := backRows nm 0 r.2.2 ++ goneRows p.rs ++ s.rows })
    | _, _ => none

/-- A load of an element that the walk tells. -/
def evLoadE (P : Program) (t : TypeId) (v : SV) (s : St) (sc : List Ev) (k : List Ev → SV → Ans R) : Ans R :=
  match v, sc with
  | .av (.one (.iadr (.recs _ l _) i fo)), .el ps :: sc => obl (l.getD i [] = ps) (getD' (tinfo P t) fun ti => takeP ps fo ti.size fun cs => toAv ti.agg cs fun a => k sc (.av a))
  | .av (.one (.radr r i fo)), .el ps :: sc => getD' (lkup r s.rows) fun rb => match rb with
    | .live (.recs _ l) => obl (l.getD i [] = ps) (getD' (tinfo P t) fun ti => takeP ps fo ti.size fun cs => toAv ti.agg cs fun a => k sc (.av a))
    | .froz (.recs _ l) => obl (l.getD i [] = ps) (getD' (tinfo P t) fun ti => takeP ps fo ti.size fun cs => toAv ti.agg cs fun a => k sc (.av a))
    | _ => none
  | v, sc => evLoad P t v s (k sc)

/-! ### Regions -/
def evAny (V : Env) (o : Op) (nm : Nat → Nat) (s : St) (sc : List Ev) (k : List Ev → SV → St → Ans R) : Ans R :=
  match o with
  | .call { callee := .value (.func f), args, argTypes } => getD' (opdA s args.toList) fun xs => evCall V f xs argTypes.toList nm s sc k
  | .call { callee := .builtin b, args, argTypes } => getD' (opdA s args.toList) fun xs => evBuiltin V.P b argTypes.toList xs (nm 0) s sc k
  | .store t a x => getD' (opd s a) fun a => getD' (opd s x) fun v => evStore V.P t a v s fun s => k sc (.tup []) s
  | .load t a => getD' (opd s a) fun v => evLoadE V.P t v s sc fun sc v => k sc v s
  | o => evOp V.P V.C o (nm 0) s (k sc)
def evSet (nt : Nat) (d : Option Tmp) (v : SV) (s : St) (k : St → Ans R) : Ans R :=
  match d with
  | some t => chk (Nat.blt t nt) fun _ => k { s with slots := (t, v) :: s.slots }
  | none => k s
/-- Is a guarded operation wanted? -/
def evGuard (ops : Array Oper) (g : Option (Nat × Bool)) (s : St) (sc : List Ev) (k : List Ev → Bool → St → Ans R) : Ans R :=
  match g with
  | none => k sc true s
  | some (j, want) =>
    match (ops[j]?).bind (·.dst) with
    | none => none
    | some d => match lkup d s.slots with
      | some (.tup _) => k sc false s
      | some (.av (.one (.pv (.bool true)))) => k sc (want == true) s
      | some (.av (.one (.pv (.bool false)))) => k sc (want == false) s
      | _ => none
def evOper (V : Env) (ops : Array Oper) (o : Oper) (nm : Nat → Nat) (s : St) (sc : List Ev) (k : List Ev → St → Ans R) : Ans R :=
  evGuard ops o.guard s sc fun sc b s =>
    match b with
    | true => evAny V o.op nm s sc fun sc v s => evSet V.nt o.dst v s (k sc)
    | false => evSet V.nt o.dst (.tup []) s (k sc)
/-- A test that later operations hang on is decided where it is made. -/
def isGuard (ops : Array Oper) (t : Option Tmp) : Bool :=
  match t with
  | none => false
  | some t => ops.toList.any fun o => match o.guard with
    | some (j, _) => match (ops[j]?).bind (·.dst) with
      | some d => Nat.beq d t
      | none => false
    | none => false
def evDecide (ops : Array Oper) (o : Oper) (s : St) (sc : List Ev) (k : List Ev → St → Ans R) : Ans R :=
  bif isGuard ops o.dst then
    match o.dst with
    | some d => match lkup d s.slots, sc with
      | some (.av (.one (.pv (.bool b)))), .br x :: sc => obl (b = x) (k sc { s with slots := (d, pbool x) :: s.slots })
      | some (.tup []), sc => k sc s
      | _, _ => none
    | none => none
  else k sc s
def evOps (V : Env) (ops : Array Oper) (base n : Nat) : Nat → List Oper → St → List Ev → (List Ev → St → Ans R) → Ans R
  | _, [], s, sc, k => k sc s
  | i, o :: l, s, sc, k => evOper V ops o (fun j => base + i + n * j) s sc fun sc s => evDecide ops o s sc fun sc s => evOps V ops base n (i + 1) l s sc k
def evTidy (V : Env) (keep : List Nat) (s : St) (k : St → Ans R) : Ans R :=
  match tidy keep V.m s with
  | some s => k s
  | none => none
/-- A nil slice as a row that has no memory. -/
def lift1 (t : Nat) (r : Row) (nm : Nat) (s : St) : St :=
  bif Nat.beq r.len 0 && Nat.blt 0 r.esz then
    bif Nat.blt t 1000000 then
      match lkup t s.slots with
      | some (.av (.one (.pv .nils))) => { s with slots := (t, cone (.own nm 0 0 false)) :: s.slots, rows := (nm, .live r) :: s.rows }
      | _ => s
    else
      -- a cell of an object
      match lkup ((t - 1000000) / 1000) s.objs with
      | some l => match l[(t - 1000000) % 1000]? with
        | some (.pv .nils) => { s with objs := ((t - 1000000) / 1000, l.set ((t - 1000000) % 1000) (.own nm 0 0 false)) :: s.objs, rows := (nm, .live r) :: s.rows }
        | _ => s
      | _ => s
  else s
def liftS : List (Nat × Row) → Nat → St → St
  | [], _, s => s
  | (t, r) :: l, nm, s => liftS l (nm + 1) (lift1 t r nm s)
def evTidyL (V : Env) (h : List Nat × List (Nat × Row)) (s : St) (k : St → Ans R) : Ans R :=
  evTidy V h.1 (liftS h.2 (s.objs.length + s.rows.length) s) k
/-- What a test has told. -/
def told (o : Operand) (b : Bool) (s : St) : St :=
  match o with
  | .tmp t => { s with slots := (t, pbool b) :: s.slots }
  | _ => s
def evRegion (V : Env) (id : Nat) (ops : Array Oper) (s : St) (sc : List Ev) (k : List Ev → St → Ans R) : Ans R :=
  evOps V ops (s.objs.length + s.rows.length) ops.size 0 ops.toList s sc fun sc s => evTidy V ((lkup id V.keep).getD []) s fun s => k sc s

/-! ### Regions whose order is drawn -/
/-- Does number j wait for number i? -/
def waits (ol : List Oper) (j i : Nat) : Bool :=
  match ol[j]? with
  | some o => o.after.toList.any fun e => Region.binds .any e && Nat.beq e.on i
  | none => false
def rdy (ol : List Oper) (done : List Nat) : Nat → List Oper → List Nat
  | _, [] => []
  | i, o :: l => bif !(mem i done) && o.after.toList.all (fun e => !Region.binds .any e || mem e.on done) then i :: rdy ol done (i + 1) l else rdy ol done (i + 1) l
def apartAll (ops : Array Oper) (ol : List Oper) : Bool :=
  (upTo 0 ol.length).all fun i => (upTo 0 ol.length).all fun j => Nat.beq i j || waits ol j i || waits ol i j ||
    match ol[i]?, ol[j]? with
    | some a, some b => a.apart ops b
    | _, _ => true
def noSel (ol : List Oper) : Bool := ol.all fun o => match o.op with
  | .select _ _ => false
  | _ => true
/-- What may be taken first: it yields the same in whatever world, what lasts being as it was. -/
def steadyOp (P : Program) (o : Op) (s : St) : Bool :=
  match o with
  | .move _ => true
  | .assign _ => true
  | .pick _ _ _ => true
  | .nilCheck _ => true
  | .binOp _ _ _ _ _ => true
  | .unOp _ _ _ => true
  | .slice _ _ _ _ _ => true
  | .fieldAddr _ _ _ => true
  | .field _ _ _ => true
  | .indexAddr _ _ _ => true
  | .index _ _ _ => true
  | .extract _ _ => true
  | .build _ _ => true
  | .convert _ t _ => match P.underlying t with
    | some (.int _) => true
    | _ => false
  | .load _ a => match opd s a with
    | some (.av (.one (.pv (.imm _ _)))) => true
    | some (.av (.one (.iadr _ _ _))) => true
    | _ => false
  | .call { callee := .builtin b, .. } => match b with
    | .len => true
    | .min => true
    | .max => true
    | _ => false
  | _ => false
def firstSteady (P : Program) (ol : List Oper) (s : St) : List Nat → Option Nat
  | [] => none
  | i :: l => match ol[i]? with
    | some o => bif steadyOp P o.op s then some i else firstSteady P ol s l
    | none => none
def bindA {A : Type} (x : Ans A) (k : A → Ans R) : Ans R :=
  match x with
  | some (a, ps) => match k a with
    | some (r, qs) => some (r, ps ++ qs)
    | none => none
  | none => none
/-! Whatever order comes up: what is done tells the state. -/
def ins (i : Nat) : List Nat → List Nat
  | [] => [i]
  | j :: l => bif Nat.ble i j then i :: j :: l else j :: ins i l
def insK {α : Type} (k : Nat) (v : α) : List (Nat × α) → List (Nat × α)
  | [] => [(k, v)]
  | (y, u) :: l => bif Nat.beq k y then (k, v) :: l else bif Nat.ble k y then (k, v) :: (y, u) :: l else (y, u) :: insK k v l
def sortK {α : Type} : List (Nat × α) → List (Nat × α)
  | [] => []
  | (k, v) :: l => insK k v (sortK l)
def St.canon (s : St) : St := ⟨sortK s.slots, sortK s.objs, sortK s.rows⟩
def eqL : List Nat → List Nat → Bool
  | [], [] => true
  | i :: l, j :: m => bif Nat.beq i j then eqL l m else false
  | _, _ => false
abbrev Tab := List (List Nat × St)
def lkT (d : List Nat) : Tab → Option St
  | [] => none
  | (e, s) :: t => bif eqL d e then some s else lkT d t
def addT (d : List Nat) (s : St) (t : Tab) : Ans Tab :=
  match lkT d t with
  | some s' => same s.canon s'.canon (some (t, []))
  | none => some ((d, s) :: t, [])
def evStep (V : Env) (ops : Array Oper) (ol : List Oper) (base n : Nat) (s : St) (i : Nat) (sc : List Ev) : Ans (List Ev × St) :=
  getD' (ol[i]?) fun o => evOper V ops o (fun j => base + i + n * j) s sc fun sc s => evDecide ops o s sc fun sc s => some ((sc, s), [])
def evEach (V : Env) (ops : Array Oper) (ol : List Oper) (base n : Nat) (d : List Nat) (s : St) : List Nat → List Ev → Tab → Ans (List Ev × Tab)
  | [], sc, t => some ((sc, t), [])
  | i :: l, sc, t => bindA (evStep V ops ol base n s i sc) fun z => bindA (addT (ins i d) z.2 t) fun t => evEach V ops ol base n d s l z.1 t
def evLayer (V : Env) (ops : Array Oper) (ol : List Oper) (base n : Nat) : Tab → List Ev → Tab → Ans (List Ev × Tab)
  | [], sc, t => some ((sc, t), [])
  | (d, s) :: l, sc, t => match rdy ol d 0 ol with
    | [] => none
    | i :: r => bindA (evEach V ops ol base n d s (match firstSteady V.P ol s (i :: r) with | some i => [i] | none => i :: r) sc t) fun z => evLayer V ops ol base n l z.1 z.2
def evDraw (V : Env) (ops : Array Oper) (ol : List Oper) (base n : Nat) (keep : List Nat) : Nat → Tab → List Ev → Ans (List Ev × St)
  | 0, [(d, s)], sc => match rdy ol d 0 ol with
    | [] => evTidy V keep s fun s => some ((sc, s), [])
    | _ :: _ => none
  | 0, _, _ => none
  | f + 1, t, sc => bindA (evLayer V ops ol base n t sc []) fun z => evDraw V ops ol base n keep f z.2 z.1
def evDrawn (V : Env) (id : Nat) (ops : Array Oper) (s : St) (sc : List Ev) (k : List Ev → St → Ans R) : Ans R :=
  chk (V.P.follows .mixedOrders && noSel ops.toList && apartAll ops ops.toList) fun _ =>
    bindA (evDraw V ops ops.toList (s.objs.length + s.rows.length) ops.size ((lkup id V.keep).getD []) ops.size [([], s)] sc) fun z => k z.1 z.2

/-! ### Code -/
/-- The number of the first region in a piece of code. -/
def firstR : Code → Nat
  | .region id _ _ => id
  | .seq a _ => firstR a
  | .block _ c => firstR c
  | .loop c => firstR c
  | .scope c => firstR c
  | _ => 0
/-- The labels that a piece of code has in its row. -/
def labs : Code → List Nat
  | .label l => [l]
  | .seq a b => labs a ++ labs b
  | _ => []
/-- In a scope (j) whoever comes to a label jumps to it. -/
def evCode (V : Env) : Code → Bool → St → List Ev → (List Ev → Ex → St → Ans R) → Ans R
  | .skip, _, s, sc, k => k sc .normal s
  | .label l, j, s, sc, k => bif j then k sc (.goto l) s else k sc .normal s
  | .region id ops draw, _, s, sc, k => bif draw then evDrawn V id ops s sc fun sc s => k sc .normal s else evRegion V id ops s sc fun sc s => k sc .normal s
  | .seq a b, j, s, sc, k => evCode V a j s sc fun sc e s => match e with
    | .normal => evCode V b j s sc k
    | e => k sc e s
  | .cond c x y, _, s, sc, k => getD' (opd s c) fun v => wBool v fun b => match sc with
    | .br true :: sc => obl (b = true) (evCode V x false (told c true s) sc k)
    | .br false :: sc => obl (b = false) (evCode V y false (told c false s) sc k)
    | .lp e s' :: sc => match c with
      | .tmp t => evTidyL V ((lkup (2000000 + t) V.head).getD ([], [])) s fun s => obl (V.L (.cond (.tmp t) x y) s e s') (k sc e s')
      | _ => none
    | _ => none
  | .block id c, _, s, sc, k => evCode V c false s sc fun sc e s => match e with
    | .exit i => bif Nat.beq i id then k sc .normal s else k sc e s
    | e => k sc e s
  | .exit id, _, s, sc, k => k sc (.exit id) s
  | .goto l, _, s, sc, k => k sc (.goto l) s
  | .ret, _, s, sc, k => k sc .ret s
  | .loop c, _, s, sc, k => evTidyL V ((lkup (firstR c) V.head).getD ([], [])) s fun s => match sc with
    | .lp e s' :: sc => obl (V.L (.loop c) s e s') (k sc e s')
    | _ => none
  | .scope c, _, s, sc, k => match labs c with
    | [l] => evCode V c true s sc fun sc e s => match e with
      | .goto l' => chk (Nat.beq l' l) fun _ => evTidyL V ((lkup (1000000 + l) V.head).getD ([], [])) s fun s => match sc with
        | .lp e s' :: sc => obl (V.L (.scope c) s e s') (k sc e s')
        | _ => none
      | e => k sc e s
    | _ => none
  | _, _, _, _, _ => none
/-- From a label on. -/
def evLab (V : Env) (l : Nat) : Code → St → List Ev → (List Ev → Ex → St → Ans R) → Ans R
  | .label _, s, sc, k => k sc .normal s
  | .seq a b, s, sc, k => bif (labs a).any (Nat.beq l) then evLab V l a s sc (fun sc e s => match e with
      | .normal => evCode V b false s sc k
      | e => k sc e s) else evLab V l b s sc k
  | _, _, _, _ => none

/-- A result: a slot, or what a variable holds. -/
def evResult (P : Program) (s : St) (x : ResultVar) (k : AV → Ans R) : Ans R :=
  match x with
  | .tmp t => getD' (lkup t s.slots) fun v => wAv v k
  | .cell a t => getD' (lkup a s.slots) fun v => evLoad P t v s fun v => wAv v k
def evResults (P : Program) (s : St) : List ResultVar → (List AV → Ans R) → Ans R
  | [], k => k []
  | x :: l, k => evResult P s x fun a => evResults P s l fun as => k (a :: as)
def okOut : CV → Bool
  | .bor _ => false
  | .iadr _ _ _ => false
  | .radr _ _ _ => false
  | _ => true
def okOutRes (r : Res) : Bool := (r.1.flatMap AV.cells).all okOut && r.2.1.all fun l => l.all okOut
def evEnd (P : Program) (m : Nat) (rs : List ResultVar) (s : St) : Ans Res :=
  evResults P s rs fun as =>
    match part (upTo 0 m) (as.flatMap AV.cells) s with
    | some p => some ((as.map (AV.map (p.f s.rows)), p.objs, p.rows), [])
    | none => none
def sift (b : R → Bool) (x : Ans R) : Ans R :=
  match x with
  | some (r, ps) => bif b r then some (r, ps) else none
  | none => none
def mkEnv (P : Program) (C : Cfg) (call : CallP) (L : Code → St → Ex → St → Prop) (f : FuncId) (m : Nat) : Env := ⟨P, C, call, L, C.keep f, C.head f, m, match P.funcs[f]? with | some fn => fn.ntmps | none => 0⟩
def evFn (P : Program) (C : Cfg) (call : CallP) (L : Code → St → Ex → St → Prop) (f : FuncId) (as : List AV) (objs : List Obj) (rows : List Row) (sc : List Ev) : Ans Res :=
  match P.funcs[f]? with
  | none => none
  | some fn => match fn.body with
    | none => none
    | some c => chk (!(fn.name == "runtime.NumGoroutine")) fun _ => sift (fun r => okOutRes r && Nat.ble objs.length r.2.1.length) <|
      evCode (mkEnv P C call L f objs.length) c false ⟨number 0 (as.map .av), number 0 objs, number 0 (rows.map .live)⟩ sc fun _ e s => match e with
        | .normal => evEnd P objs.length fn.results.toList s
        | .ret => evEnd P objs.length fn.results.toList s
        | _ => none
/-- A piece of code by itself. -/
def evPiece (V : Env) (c : Code) (s : St) (sc : List Ev) : Ans (Ex × St) :=
  evCode V c false s sc fun _ e s => some ((e, s), [])
/-- A loop's body, the state told anew behind it. -/
def evRound (V : Env) (c : Code) (s : St) (sc : List Ev) : Ans (Ex × St) :=
  evCode V c false s sc fun _ e s => match e with
    | .normal => evTidyL V ((lkup (firstR c) V.head).getD ([], [])) s fun s => some ((.normal, s), [])
    | e => some ((e, s), [])
/-- From a scope's label on, up to the next jump to it, the state told anew there. -/
def evRoundS (V : Env) (c : Code) (s : St) (sc : List Ev) : Ans (Ex × St) :=
  match labs c with
  | [l] => evLab V l c s sc fun _ e s => match e with
    | .goto l' => chk (Nat.beq l' l) fun _ => evTidyL V ((lkup (1000000 + l) V.head).getD ([], [])) s fun s => some ((.normal, s), [])
    | .normal => none
    | e => some ((e, s), [])
  | _ => none
end
/-- A test and its branches, the state told anew behind them. -/
def evPieceT (V : Env) (t : Nat) (x y : Code) (s : St) (sc : List Ev) : Ans (Ex × St) :=
  evCode V (.cond (.tmp t) x y) false s sc fun _ e s => match e with
    | .normal => evTidyL V ((lkup (3000000 + t) V.head).getD ([], [])) s fun s => some ((.normal, s), [])
    | e => some ((e, s), [])
/-- A loop of a function, by its first region's number and which one of those that begin there. -/
def loops : Code → List (Nat × Code)
  | .seq a b => loops a ++ loops b
  | .cond _ a b => loops a ++ loops b
  | .block _ c => loops c
  | .loop c => (firstR c, c) :: loops c
  | .scope c => loops c
  | _ => []
def loopAt (P : Program) (f : FuncId) (i : Nat) : Code :=
  match P.funcs[f]? with
  | none => .skip
  | some fn => match fn.body with
    | none => .skip
    | some c => match (loops c)[i]? with
      | some x => x.2
      | none => .skip
/-- The tests of a function, by the slot that is tested. -/
def conds : Code → List (Nat × Code × Code)
  | .seq a b => conds a ++ conds b
  | .cond o a b => match o with
    | .tmp t => (t, a, b) :: (conds a ++ conds b)
    | _ => conds a ++ conds b
  | .block _ c => conds c
  | .loop c => conds c
  | .scope c => conds c
  | _ => []
def condAt (P : Program) (f : FuncId) (t : Nat) : Code × Code :=
  match P.funcs[f]? with
  | none => (.skip, .skip)
  | some fn => match fn.body with
    | none => (.skip, .skip)
    | some c => (lkup t (conds c)).getD (.skip, .skip)
/-- The scopes of a function. -/
def scopes : Code → List Code
  | .seq a b => scopes a ++ scopes b
  | .cond _ a b => scopes a ++ scopes b
  | .block _ c => scopes c
  | .loop c => scopes c
  | .scope c => c :: scopes c
  | _ => []
def scopeAt (P : Program) (f : FuncId) (i : Nat) : Code :=
  match P.funcs[f]? with
  | none => .skip
  | some fn => match fn.body with
    | none => .skip
    | some c => match (scopes c)[i]? with
      | some x => x
      | none => .skip
end Go.Ev
