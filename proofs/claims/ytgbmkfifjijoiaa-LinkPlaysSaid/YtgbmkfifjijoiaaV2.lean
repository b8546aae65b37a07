/- What a piece of code comes to: regions whose order Go leaves open are read in one order, under a closed look that every other order comes to the same. -/
import Derived.Test.YtgbmkfifjijoiaaV1
namespace Go.Proofs.Ytgbmkfifjijoiaa
open Go
set_option linter.unusedVariables false
set_option linter.unusedSimpArgs false

def constNil : Operand → Bool
  | .const (.pointer none) => true
  | .const (.slice none _ _) => true
  | _ => false

/-- 0: looks at no memory; 1: a load; 5: reads in another way; 2: makes a block; 3: a store; 4: all else. -/
def clsOf (P : Program) (o : Oper) : Nat := match o.op with
  | .move _ | .assign _ | .pick .. | .build .. | .nilCheck _ | .makeInterface .. | .makeFunc .. | .fieldAddr .. | .field .. | .indexAddr .. | .extract .. => 0
  | .binOp _ t _ y _ => match P.underlying t with
    | some (.int _) | some .bool => 0
    | some (.pointer _) => match y with
      | .const (.pointer none) => 0
      | _ => 5
    | some (.slice _) => match y with
      | .const (.slice none _ _) => 0
      | _ => 5
    | _ => 5
  | .unOp op _ _ => match op with
    | .not => 0
    | _ => 5
  | .convert s d _ => match P.underlying s, P.underlying d with
    | some (.int _), some (.int _) => 0
    | _, _ => 5
  | .slice t _ _ _ mx => match P.underlying t with
    | some (.slice _) => match mx with
      | none => 0
      | some _ => 5
    | _ => 5
  | .index t _ _ => match P.underlying t with
    | some (.array _ _) => 0
    | _ => 5
  | .typeAssert .. => 5
  | .load .. => 1
  | .alloc _ | .box .. | .buildSlice .. | .makeSlice .. => 2
  | .store .. => 3
  | .call c => match c.callee with
    | .builtin .len => 0
    | .builtin .min => 0
    | .builtin .max => 0
    | _ => 4
  | _ => 4

def edgeBits (acc : List Nat) (es : List Edge) : Nat :=
  es.foldl (fun s e => bif Region.binds .any e then s ||| 2 ^ e.on ||| acc.getD e.on 0 else s) 0

def ancs : List Oper → List Nat → List Nat
  | [], acc => acc
  | o :: r, acc => ancs r (acc ++ [edgeBits acc o.after.toList])

def tmpsOf : List Operand → List Nat
  | [] => []
  | .tmp t :: r => t :: tmpsOf r
  | _ :: r => tmpsOf r

/-- The slots that an operation looks at. -/
def looks (ops : List Oper) (o : Oper) : List Nat := tmpsOf o.op.operands.toList ++ match o.guard with
  | some (j, _) => match ops[j]? with
    | some oj => match oj.dst with
      | some d => [d]
      | none => []
    | none => []
  | none => []

def dstIn (d : Option Nat) (l : List Nat) : Bool := match d with
  | some d => has d l
  | none => false

def apartB (ops : List Oper) (x y : Oper) : Bool :=
  !dstIn x.dst (looks ops y) && !dstIn y.dst (looks ops x) && (match x.dst, y.dst with
    | some d, some e => !Nat.beq d e
    | _, _ => true)

/-- A plain new variable. -/
def allocB (P : Program) (o : Oper) : Bool := match o.op with
  | .alloc e => (zeroOf P e).isSome && o.guard.isNone
  | _ => false

/-- May 'x', which stands behind 'l' in our order, come ahead of it? -/
def okPair (P : Program) (ops : List Oper) (pd : Nat → List Nat) (l x : Nat) : Bool := match ops[l]?, ops[x]? with
  | some ol, some ox => apartB ops ol ox && ((pd l).isEmpty || Nat.beq (clsOf P ol) 3 || Nat.beq (clsOf P ol) 4) && ((pd x).isEmpty || Nat.beq (clsOf P ox) 3 || Nat.beq (clsOf P ox) 4) && (match clsOf P ol, clsOf P ox with
    | 0, _ => true
    | 1, 3 => has l (pd x) && ol.guard.isNone
    | 1, 4 => has l (pd x) && ol.guard.isNone
    | 1, 0 => true
    | 1, 1 => true
    | 1, 5 => true
    | 1, 2 => true
    | 5, 0 => true
    | 5, 1 => true
    | 5, 5 => true
    | 5, 2 => true
    | 2, 2 => ox.guard.isNone
    | 3, 2 => ox.guard.isNone
    | 4, 2 => allocB P ox
    | _, _ => false)
  | _, _ => false

def pairsOK (P : Program) (ops : List Oper) (pd : Nat → List Nat) (as : List Nat) : List Nat → Bool
  | [] => true
  | l :: r => r.all (fun x => !(as.getD l 0).testBit x && ((as.getD x 0).testBit l || okPair P ops pd l x)) && pairsOK P ops pd as r

def dstsOK (n : Nat) : List Oper → Bool
  | [] => true
  | o :: r => (match o.dst with
    | some d => Nat.blt d n
    | none => true) && dstsOK n r

def nodupB : List Nat → Bool
  | [] => true
  | i :: r => !has i r && nodupB r

def permOK (m : Nat) (order : List Nat) : Bool := nodupB order && order.all (fun i => Nat.blt i m) && (List.range m).all fun i => has i order

def isRange : Nat → List Nat → Bool
  | _, [] => true
  | i, j :: r => Nat.beq i j && isRange (i + 1) r

/-- Each edge that binds leads back. -/
def edgesOK : Nat → List Oper → Bool
  | _, [] => true
  | i, o :: r => o.after.toList.all (fun e => !Region.binds .any e || Nat.blt e.on i) && edgesOK (i + 1) r

def regOK (P : Program) (ops : List Oper) (ra : RA) (draw : Bool) (n : Nat) : Bool :=
  dstsOK n ops && Nat.beq ra.order.length ops.length && (bif draw then
    permOK ops.length ra.order && edgesOK 0 ops && P.follows .mixedOrders && pairsOK P ops ra.pd (ancs ops []) ra.order
  else isRange 0 ra.order)

/-- Kinds of slots at a head of a loop, or where ways meet. -/
inductive SK where
  | int (k : IntKind)
  | bool
  | val

@[reducible] def SK.ty : SK → Type
  | .int _ => Int
  | .bool => Bool
  | .val => Value

@[reducible] def SKs : List (Nat × SK) → Type
  | [] => Unit
  | p :: r => p.2.ty × SKs r

@[reducible] def encK : (k : SK) → k.ty → Value
  | .int k, x => .int k x
  | .bool, b => .bool b
  | .val, v => v

def decK : (k : SK) → Value → (k.ty → Prop) → Prop
  | .int k, v, K => match v with
    | .int k' x => bif sameK k k' then K x else False
    | _ => False
  | .bool, v, K => match v with
    | .bool b => K b
    | _ => False
  | .val, v, K => K v

def encL : (L : List (Nat × SK)) → SKs L → Fr
  | [], _ => []
  | p :: r, s => (p.1, encK p.2 s.1) :: encL r s.2

def decL (fr : Fr) : (L : List (Nat × SK)) → (SKs L → Prop) → Prop
  | [], K => K ()
  | p :: r, K => on (Fr.get fr p.1) fun v => decK p.2 v fun x => decL fr r fun xs => K (x, xs)

def allL : (L : List (Nat × SK)) → (SKs L → Prop) → Prop
  | [], P => P ()
  | p :: r, P => ∀ x : p.2.ty, allL r fun xs => P (x, xs)

/-- The first region of a piece of code. -/
def firstReg : Code → Nat
  | .region id _ _ => id
  | .seq a b => match a with
    | .label _ => firstReg b
    | a => firstReg a
  | .block _ c => firstReg c
  | .loop c => firstReg c
  | .scope c => firstReg c
  | _ => 0

def dstsOf : List Oper → List Nat
  | [] => []
  | o :: r => match o.dst with
    | some d => d :: dstsOf r
    | none => dstsOf r

/-- The slots that a piece of code may write. -/
def writesOf : Code → List Nat
  | .region _ ops _ => dstsOf ops.toList
  | .seq a b => writesOf a ++ writesOf b
  | .cond _ a b => writesOf a ++ writesOf b
  | .block _ c => writesOf c
  | .loop c => writesOf c
  | .scope c => writesOf c
  | _ => []

/-- What is known of the other slots. -/
def Fr.drop (W : List Nat) : Fr → Fr
  | [] => []
  | p :: r => bif has p.1 W then Fr.drop W r else p :: Fr.drop W r

/-- In which order each region is read; which slots count at each loop's head; which count where a sequence is cut. -/
structure An where
  ra : Nat → RA
  lp : Nat → List (Nat × SK)
  ct : Nat → Option (List (Nat × SK))

def loopP (W : List Nat) (L : List (Nat × SK)) (body : Fr → H → (Ex → Fr → H → Prop) → Prop) (fr : Fr) (h : H) (Q : Ex → Fr → H → Prop) : Prop :=
  decL fr L fun s0 => ∃ (I : SKs L → H → Prop) (r : SKs L × H → SKs L × H → Prop), WellFounded r ∧ I s0 h ∧
    allL L fun s => ∀ h, I s h → body (encL L s ++ Fr.drop W fr) h fun e fr' h' => match e with
      | .normal => decL fr' L fun s' => I s' h' ∧ r (s', h') (s, h)
      | e => Q e fr' h'

def cutP (W : List Nat) (L : List (Nat × SK)) (x y : Fr → H → (Ex → Fr → H → Prop) → Prop) (fr : Fr) (h : H) (Q : Ex → Fr → H → Prop) : Prop :=
  ∃ J : SKs L → H → Prop, (x fr h fun e fr' h' => match e with
    | .normal => decL fr' L fun s => J s h'
    | e => Q e fr' h') ∧ allL L fun s => ∀ h, J s h → y (encL L s ++ Fr.drop W fr) h Q

/-- 'n': how many slots there are. -/
def cpt (P : Program) (n : Nat) (A : An) : Code → Fr → H → (Ex → Fr → H → Prop) → Prop
  | .skip, fr, h, Q => Q .normal fr h
  | .label _, fr, h, Q => Q .normal fr h
  | .region id ops draw, fr, h, Q => bif regOK P ops.toList (A.ra id) draw n then
      rpt P ops.toList (A.ra id).pd [] (A.ra id).order fr h (fun fr h => Q .normal fr h) (fun v h => Q (.panic v) [] h)
    else False
  | .seq a b, fr, h, Q => match A.ct (firstReg b) with
    | none => cpt P n A a fr h fun e fr h => match e with
      | .normal => cpt P n A b fr h Q
      | e => Q e fr h
    | some L => cutP (writesOf a) L (cpt P n A a) (cpt P n A b) fr h Q
  | .cond c x y, fr, h, Q => on (evalO fr c) fun v => boolP v fun b => ifP b (cpt P n A x fr h Q) (cpt P n A y fr h Q)
  | .block id c, fr, h, Q => cpt P n A c fr h fun e fr h => match e with
    | .exit i => bif Nat.beq i id then Q .normal fr h else Q (.exit i) fr h
    | e => Q e fr h
  | .loop c, fr, h, Q => loopP (writesOf c) (A.lp (firstReg c)) (cpt P n A c) fr h Q
  | .exit id, fr, h, Q => Q (.exit id) fr h
  | .scope c, fr, h, Q => cpt P n A c fr h Q
  | .ret, fr, h, Q => Q .ret fr h
  | _, _, _, _ => False

def resL (P : Program) (fr : Fr) (h : H) : List ResultVar → (List Value → Prop) → Prop
  | [], K => K []
  | .tmp t :: r, K => on (Fr.get fr t) fun v => resL P fr h r fun vs => K (v :: vs)
  | .cell a t :: r, K => on (Fr.get fr a) fun va => loadP P t va h fun v => resL P fr h r fun vs => K (v :: vs)

def resP (P : Program) (fr : Fr) (h : H) (rs : List ResultVar) (K : Value → Prop) : Prop := resL P fr h rs fun vs => match vs with
  | [v] => K v
  | vs => K (.tuple ⟨vs⟩)

/-- What stands behind the body. -/
def endP (P : Program) (rs : List ResultVar) (R : Res → H → Prop) (e : Ex) (fr : Fr) (h : H) : Prop := match e with
  | .normal => resP P fr h rs fun v => R (.ret v) h
  | .ret => resP P fr h rs fun v => R (.ret v) h
  | .panic v => R (.pan v) h
  | .exit _ => False

def fr0 : Nat → List Value → Fr
  | _, [] => []
  | i, v :: r => (i, v) :: fr0 (i + 1) r

end Go.Proofs.Ytgbmkfifjijoiaa
