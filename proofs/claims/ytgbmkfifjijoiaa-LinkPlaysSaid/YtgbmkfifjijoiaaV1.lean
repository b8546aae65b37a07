/- The words in which the walks of this claim are written: what one operation, one region and one piece of code come to, over a heap that is known in part, without the tape. -/
import Derived.Calls
import Derived.Defers
import Derived.Orders
import Derived.Laws.Cells
import Derived.Laws.World
import Derived.Laws.Entries
import Derived.KernelRfl
namespace Go.Proofs.Ytgbmkfifjijoiaa
open Go
set_option linter.unusedVariables false
set_option linter.unusedSimpArgs false

/-- What is known of the heap: a block's number to what lies in it. -/
abbrev H := Nat → Option Obj
/-- What is known of the slots. -/
abbrev Fr := List (Nat × Value)

def hcell (h : H) (a : Addr) : Option Value :=
  match h a.block with
  | some (.cells c _ _) => if a.spot.isSome then none else c[a.off]?
  | _ => none

def hput (h : H) (b : Nat) (o : Obj) : H := fun b' => if b' = b then some o else h b'

def setR : Array Value → Nat → List Value → Array Value
  | c, _, [] => c
  | c, o, v :: vs => setR (c.setIfInBounds o v) (o + 1) vs

def hset (h : H) (a : Addr) (vs : List Value) : H := fun b =>
  if b = a.block then (h b).map fun | .cells c e f => .cells (setR c a.off vs) e f | o => o
  else h b

/-- The cells from a on may be written: n of them. -/
def hwr (h : H) (a : Addr) (n : Nat) : Prop := ∃ c e, h a.block = some (.cells c e (0, 0)) ∧ a.spot = none ∧ a.off + n ≤ c.size

def hcells (h : H) (a : Addr) (vs : List Value) : Prop := ∀ i v, vs[i]? = some v → hcell h (a.add i) = some v

def Sub (h : H) (w : World) : Prop := ∀ b o, h b = some o → w.heap[b]? = some o
def Same (w w' : World) : Prop := w'.os = w.os ∧ w'.tape = w.tape ∧ w'.output = w.output

/-- From a world of which h is known to one of which h' is known: what h does not know stays as it was. -/
structure Stp (h : H) (w : World) (h' : H) (w' : World) : Prop where
  same : Same w w'
  size : w.heap.size ≤ w'.heap.size
  frame : ∀ b, b < w.heap.size → h b = none → w'.heap[b]? = w.heap[b]? ∧ h' b = none

theorem Stp.refl (h : H) (w : World) : Stp h w h w := ⟨⟨rfl, rfl, rfl⟩, Nat.le_refl _, fun _ _ hb => ⟨rfl, hb⟩⟩
theorem Stp.trans {h0 h1 h2 : H} {a b c : World} (h : Stp h0 a h1 b) (k : Stp h1 b h2 c) : Stp h0 a h2 c :=
  ⟨⟨k.same.1.trans h.same.1, k.same.2.1.trans h.same.2.1, k.same.2.2.trans h.same.2.2⟩, Nat.le_trans h.size k.size, fun x hx hn => by
    obtain ⟨e1, n1⟩ := h.frame x hx hn
    obtain ⟨e2, n2⟩ := k.frame x (Nat.lt_of_lt_of_le hx h.size) n1
    exact ⟨e2.trans e1, n2⟩⟩

def Fr.get : Fr → Nat → Option Value
  | [], _ => none
  | (s, v) :: r, t => bif Nat.beq s t then some v else Fr.get r t

def Fr.put (fr : Fr) (d : Option Nat) (v : Value) : Fr :=
  match d with
  | some d => (d, v) :: fr
  | none => fr

@[reducible] def on {α : Type} (o : Option α) (k : α → Prop) : Prop := match o with
  | some a => k a
  | none => False

def evalO (fr : Fr) : Operand → Option Value
  | .tmp t => Fr.get fr t
  | .const v => some v
  | .global g => some (.pointer (some ⟨g, 0, none⟩))
  | .func f => some (.func (.func f) #[] #[])

def evalL (fr : Fr) : List Operand → Option (List Value)
  | [] => some []
  | x :: r => match evalO fr x with
    | some v => match evalL fr r with
      | some vs => some (v :: vs)
      | none => none
    | none => none

inductive Res where
  | ret (v : Value)
  | pan (v : Value)

/-- The call of f, from a heap of which h is known, comes to what R says: it returns or panics, and the streams and the tape stay. -/
def T (P : Program) (f : FuncId) (args : List Value) (h : H) (R : Res → H → Prop) : Prop :=
  (∃ fn, P.funcs[f]? = some fn ∧ fn.body.isNone = false ∧ (fn.name == "runtime.NumGoroutine") = false) ∧
  ∀ w, Sub h w → Calls P f args.toArray w fun e w' => ∃ h', Sub h' w' ∧ Stp h w h' w' ∧ match e with
    | .returned v => R (.ret v) h'
    | .panicked [⟨v, false, false⟩] => R (.pan v) h'
    | _ => False

theorem T.mono {P : Program} {f : FuncId} {args : List Value} {h : H} {R R' : Res → H → Prop} (t : T P f args h R)
    (hr : ∀ r h', R r h' → R' r h') : T P f args h R' := by
  refine ⟨t.1, fun w hw => (t.2 w hw).mono ?_⟩
  rintro e w' ⟨h', hs, hm, hq⟩
  refine ⟨h', hs, hm, ?_⟩
  split at hq
  · exact hr _ _ hq
  · exact hr _ _ hq
  · exact hq.elim

/-! ### What the operations come to -/

@[reducible] def ptrP (v : Value) (K : Addr → Prop) : Prop := match v with
  | .pointer (some a) => K a
  | _ => False
@[reducible] def ptrO (v : Value) (K : Option Addr → Prop) : Prop := match v with
  | .pointer a => K a
  | _ => False
@[reducible] def slcP (v : Value) (K : Option Addr → Nat → Nat → Prop) : Prop := match v with
  | .slice a l c => K a l c
  | _ => False
@[reducible] def intP (v : Value) (K : Int → Prop) : Prop := match v with
  | .int _ n => K n
  | _ => False
@[reducible] def boolP (v : Value) (K : Bool → Prop) : Prop := match v with
  | .bool b => K b
  | _ => False
@[reducible] def aggP (v : Value) (K : List Value → Prop) : Prop := match v with
  | .agg ⟨cs⟩ => K cs
  | _ => False
@[reducible] def tupP (v : Value) (K : List Value → Prop) : Prop := match v with
  | .tuple ⟨cs⟩ => K cs
  | _ => False
@[reducible] def ifP (b : Bool) (A B : Prop) : Prop := match b with
  | true => A
  | false => B
@[reducible] def oneP (v : Value) (K : Prop) : Prop := match v with
  | .agg _ => False
  | .tuple _ => False
  | _ => K

@[reducible] def ldI (h : H) (a : Addr) (k : IntKind) (K : Int → Prop) : Prop := ∃ n, hcell h a = some (.int k n) ∧ K n
@[reducible] def ldB (h : H) (a : Addr) (K : Bool → Prop) : Prop := ∃ b, hcell h a = some (.bool b) ∧ K b
@[reducible] def ldV (h : H) (a : Addr) (K : Value → Prop) : Prop := ∃ v, hcell h a = some v ∧ K v
@[reducible] def ldN (h : H) (a : Addr) (n : Nat) (K : List Value → Prop) : Prop := ∃ vs : List Value, vs.length = n ∧ hcells h a vs ∧ K vs
@[reducible] def stC (h : H) (a : Addr) (v : Value) (K : H → Prop) : Prop := hwr h a 1 ∧ K (hset h a [v])
@[reducible] def stN (h : H) (a : Addr) (vs : List Value) (n : Nat) (K : H → Prop) : Prop :=
  vs.length = n ∧ (∀ v ∈ vs, v.oneCell' = true) ∧ hwr h a n ∧ K (hset h a vs)
@[reducible] def newP (h : H) (o : Obj) (K : Nat → H → Prop) : Prop := ∀ b, h b = none → K b (hput h b o)
@[reducible] def ixS (x : Value) (i : Int) (sz : Nat) (K : Addr → Prop) : Prop := match x with
  | .slice (some a) l _ => 0 ≤ i ∧ i < (l : Int) ∧ K (a.add (i.toNat * sz))
  | _ => False
@[reducible] def ixA (a : Addr) (len : Nat) (i : Int) (sz : Nat) (K : Addr → Prop) : Prop := 0 ≤ i ∧ i < (len : Int) ∧ K (a.add (i.toNat * sz))
/-- Whatever is known of the heap: s yields a value and leaves the world. -/
@[reducible] def runP (P : Program) (h : H) (s : Sem Value) (K : Value → Prop) : Prop := ∃ r, (∀ w, Sub h w → s.run P w = .ok r w) ∧ K r

def loadP (P : Program) (t : TypeId) (v : Value) (h : H) (K : Value → Prop) : Prop :=
  ptrP v fun a => match P.underlying t with
    | some (.int k) => ldI h a k fun n => K (.int k n)
    | some .bool => ldB h a fun b => K (.bool b)
    | some (.struct _) => ldN h a (P.cellsOf t) fun vs => K (.agg ⟨vs⟩)
    | some (.array _ _) => ldN h a (P.cellsOf t) fun vs => K (.agg ⟨vs⟩)
    | some _ => ldV h a K
    | none => False

def storeP (P : Program) (t : TypeId) (av v : Value) (h : H) (K : H → Prop) : Prop :=
  ptrP av fun a => match P.underlying t with
    | some (.struct _) => aggP v fun vs => stN h a vs (P.cellsOf t) K
    | some (.array _ _) => aggP v fun vs => stN h a vs (P.cellsOf t) K
    | some _ => bif Nat.beq (P.cellsOf t) 1 then oneP v (stC h a v K) else False
    | none => False

def bitsI (op : BinOp) (k : IntKind) (x y : Int) : Int :=
  let a := BitVec.ofInt k.bits x
  let b := BitVec.ofInt k.bits y
  match op with
  | .and => k.wrap (a &&& b).toNat
  | .or => k.wrap (a ||| b).toNat
  | .xor => k.wrap (a ^^^ b).toNat
  | _ => k.wrap (a &&& ~~~b).toNat

def intBin (op : BinOp) (k : IntKind) (a b : Int) (K : Value → Prop) : Prop :=
  match op with
  | .add => K (.int k (k.wrap (a + b)))
  | .sub => K (.int k (k.wrap (a - b)))
  | .mul => K (.int k (k.wrap (a * b)))
  | .quo => b ≠ 0 ∧ K (.int k (k.wrap (a.tdiv b)))
  | .rem => b ≠ 0 ∧ K (.int k (a.tmod b))
  | .and => K (.int k (bitsI .and k a b))
  | .or => K (.int k (bitsI .or k a b))
  | .xor => K (.int k (bitsI .xor k a b))
  | .andNot => K (.int k (bitsI .andNot k a b))
  | .eql => K (.bool (decide (a = b)))
  | .neq => K (.bool (!decide (a = b)))
  | .lss => K (.bool (decide (a < b)))
  | .leq => K (.bool (decide (a ≤ b)))
  | .gtr => K (.bool (decide (b < a)))
  | .geq => K (.bool (decide (b ≤ a)))
  | .shl => 0 ≤ b ∧ K (.int k (k.wrap (a * 2 ^ (min b.toNat k.bits))))
  | .shr => 0 ≤ b ∧ K (.int k (a.fdiv (2 ^ (min b.toNat k.bits))))

def sameK : IntKind → IntKind → Bool
  | .i8, .i8 | .i16, .i16 | .i32, .i32 | .i64, .i64 | .u8, .u8 | .u16, .u16 | .u32, .u32 | .u64, .u64 => true
  | _, _ => false

def isShift : BinOp → Bool
  | .shl | .shr => true
  | _ => false

def isEq : BinOp → Bool
  | .eql | .neq => true
  | _ => false

def negIf (op : BinOp) (b : Bool) : Bool := match op with
  | .neq => !b
  | _ => b

def isNilI : Value → Prop
  | .nilIface => True
  | _ => False

def binP (P : Program) (op : BinOp) (t : TypeId) (ox oy : Operand) (x y : Value) (h : H) (K : Value → Prop) : Prop :=
  match P.underlying t with
  | some (.int _) => match x, y with
    | .int k a, .int k' b => bif sameK k k' || isShift op then intBin op k a b K else False
    | _, _ => False
  | some .bool => match x, y with
    | .bool a, .bool b => match op with
      | .eql => K (.bool (a == b))
      | .neq => K (.bool (!(a == b)))
      | _ => False
    | _, _ => False
  | some (.pointer e) => match y with
    | .pointer none => ptrO x fun q => bif isEq op then K (.bool (negIf op q.isNone)) else False
    | _ => runP P h (do eqGuard op t ox oy x y; binOp op t x y) K
  | some (.slice e) => match y with
    | .slice none _ _ => slcP x fun q _ _ => bif isEq op then K (.bool (negIf op q.isNone)) else False
    | _ => runP P h (do eqGuard op t ox oy x y; binOp op t x y) K
  | _ => runP P h (do eqGuard op t ox oy x y; binOp op t x y) K

def unP (P : Program) (op : UnOp) (x : Value) (h : H) (K : Value → Prop) : Prop :=
  match op, x with
  | .not, x => boolP x fun b => K (.bool !b)
  | .neg, .int k n => K (.int k (k.wrap (0 - n)))
  | op, x => runP P h (Op.unary op x) K

def convP (P : Program) (src dst : TypeId) (x : Value) (h : H) (K : Value → Prop) : Prop :=
  match P.underlying src, P.underlying dst with
  | some (.int _), some (.int k) => intP x fun n => K (.int k (k.wrap n))
  | _, _ => runP P h (convert src dst x) K

def partP (P : Program) (t : TypeId) (cs : List Value) (off : Nat) (K : Value → Prop) : Prop :=
  match P.underlying t with
  | some (.int k) => ∃ n, cs[off]? = some (.int k n) ∧ K (.int k n)
  | some .bool => ∃ b, cs[off]? = some (.bool b) ∧ K (.bool b)
  | some (.struct _) => K (.agg ⟨(cs.drop off).take (P.cellsOf t)⟩)
  | some (.array _ _) => K (.agg ⟨(cs.drop off).take (P.cellsOf t)⟩)
  | some _ => ∃ v, cs[off]? = some v ∧ K v
  | none => False

def idxAddrP (P : Program) (t : TypeId) (x ix : Value) (K : Value → Prop) : Prop :=
  match P.underlying t with
  | some (.slice e) => bif Nat.beq (P.cellsOf e) 0 then False else intP ix fun i => ixS x i (P.cellsOf e) fun a => K (.pointer (some a))
  | some (.array n e) => bif Nat.beq (P.cellsOf e) 0 then False else intP ix fun i => ptrP x fun a => ixA a n i (P.cellsOf e) fun a => K (.pointer (some a))
  | _ => False

def indexP (P : Program) (t : TypeId) (x ix : Value) (h : H) (K : Value → Prop) : Prop :=
  match P.underlying t with
  | some (.array n e) => intP ix fun i => aggP x fun cs => 0 ≤ i ∧ i < (n : Int) ∧ partP P e cs (i.toNat * P.cellsOf e) K
  | _ => runP P h (Instr.index t x ix) K

def fieldP (P : Program) (t : TypeId) (x : Value) (f : Nat) (K : Value → Prop) : Prop :=
  match P.underlying t with
  | some (.struct fs) => on (fs.toList[f]?) fun fd => aggP x fun cs => partP P fd.type cs fd.offset K
  | _ => False

def fieldAddrP (P : Program) (t : TypeId) (x : Value) (f : Nat) (K : Value → Prop) : Prop :=
  match P.underlying t with
  | some (.struct fs) => on (fs.toList[f]?) fun fd => bif Nat.beq (P.cellsOf fd.type) 0 then False else ptrP x fun a => K (.pointer (some (a.add fd.offset)))
  | _ => False

@[reducible] def bndP (v : Option Value) (d : Int) (K : Int → Prop) : Prop := match v with
  | none => K d
  | some (.int _ i) => K i
  | some _ => False

def sliceV (a : Option Addr) (c : Nat) (lo hi : Int) (sz : Nat) : Value :=
  .slice (if c = lo.toNat then a else a.map (·.add (lo.toNat * sz))) (hi.toNat - lo.toNat) (c - lo.toNat)

def sliceP (P : Program) (t : TypeId) (x : Value) (lo hi mx : Option Value) (h : H) (K : Value → Prop) : Prop :=
  match P.underlying t with
  | some (.slice e) => match mx with
    | none => bif Nat.beq (P.cellsOf e) 0 then False else slcP x fun a l c => bndP hi l fun hi => 0 ≤ hi ∧ hi ≤ (c : Int) ∧ bndP lo 0 fun lo => 0 ≤ lo ∧ lo ≤ hi ∧ K (sliceV a c lo hi (P.cellsOf e))
    | some _ => runP P h (Instr.sliceAt t x lo hi mx) K
  | _ => runP P h (Instr.sliceAt t x lo hi mx) K

def zeroOf (P : Program) (t : TypeId) : Option (List Value) := match P.info? t with
  | some i => match i.zero with
    | some (.agg ⟨cs⟩) => some cs
    | some v => some [v]
    | none => none
  | none => none

def allocP (P : Program) (e : TypeId) (h : H) (K : Value → H → Prop) : Prop :=
  on (zeroOf P e) fun z => newP h (.cells ⟨z⟩ e (0, 0)) fun b h' => K (.pointer (some ⟨b, 0, none⟩)) h'

def cellsV (v : Value) : List Value := match v with
  | .agg ⟨cs⟩ => cs
  | v => [v]

def boxP (e : TypeId) (v : Value) (h : H) (K : Value → H → Prop) : Prop :=
  newP h (.cells ⟨cellsV v⟩ e (0, 0)) fun b h' => K (.pointer (some ⟨b, 0, none⟩)) h'

/-- n elements of zeros. -/
def zrep (z : List Value) (n : Nat) : List Value := (List.replicate n z).flatten

/-- Parts of an aggregate laid at their places; 'len' cells in all. -/
def fillP (P : Program) (len : Nat) (place : Nat → Option (Nat × TypeId)) : List (Nat × Value) → List Value → (List Value → Prop) → Prop
  | [], cells, K => K cells
  | (i, v) :: r, cells, K => on (place i) fun ot =>
    bif Nat.ble (ot.1 + P.cellsOf ot.2) len then
      match P.underlying ot.2 with
      | some (.struct _) => aggP v fun vs => vs.length = P.cellsOf ot.2 ∧ fillP P len place r (cells.take ot.1 ++ vs ++ cells.drop (ot.1 + P.cellsOf ot.2)) K
      | some (.array _ _) => aggP v fun vs => vs.length = P.cellsOf ot.2 ∧ fillP P len place r (cells.take ot.1 ++ vs ++ cells.drop (ot.1 + P.cellsOf ot.2)) K
      | some _ => bif Nat.beq (P.cellsOf ot.2) 1 then oneP v (fillP P len place r (cells.take ot.1 ++ [v] ++ cells.drop (ot.1 + 1)) K) else False
      | none => False
    else False

def placeS (fs : List Field) (i : Nat) : Option (Nat × TypeId) := match fs[i]? with
  | some f => some (f.offset, f.type)
  | none => none

def buildP (P : Program) (t : TypeId) (parts : List (Nat × Value)) (K : Value → Prop) : Prop :=
  on (zeroOf P t) fun z => match P.underlying t with
    | some (.struct fs) => bif fs.toList.all (fun f => (P.info? f.type).isSome) then fillP P z.length (placeS fs.toList) parts z fun cs => K (.agg ⟨cs⟩) else False
    | some (.array _ e) => bif (P.info? e).isSome then fillP P z.length (fun i => some (i * P.cellsOf e, e)) parts z fun cs => K (.agg ⟨cs⟩) else False
    | _ => False

def buildSliceP (P : Program) (t : TypeId) (len : Nat) (parts : List (Nat × Value)) (h : H) (K : Value → H → Prop) : Prop :=
  match P.underlying t with
  | some (.slice e) => on (zeroOf P e) fun z => bif Nat.beq z.length (P.cellsOf e) && Nat.ble (len * P.cellsOf e) (2 ^ 24) then
      fillP P (len * P.cellsOf e) (fun i => some (i * P.cellsOf e, e)) parts (zrep z len) fun cs =>
        newP h (.cells ⟨cs⟩ e (0, 0)) fun b h' => K (.slice (some ⟨b, 0, none⟩) len len) h'
    else False
  | _ => False

def makeSliceP (P : Program) (t : TypeId) (l c : Value) (h : H) (K : Value → H → Prop) : Prop :=
  match P.underlying t with
  | some (.slice e) => on (zeroOf P e) fun z => bif Nat.beq z.length (P.cellsOf e) then intP l fun l => intP c fun c =>
      0 ≤ l ∧ l ≤ c ∧ c * P.bytesOf e ≤ 2 ^ 48 ∧ c ≤ 2 ^ 48 ∧ newP h (.cells ⟨zrep z c.toNat⟩ e (0, 0)) fun b h' => K (.slice (some ⟨b, 0, none⟩) l.toNat c.toNat) h'
    else False
  | _ => False

def srcP (h : H) (a : Option Addr) (n : Nat) (new : List Value) : Prop := new.length = n ∧ match a with
  | some a => hcells h a new
  | none => new = []

def appP (h : H) (base : Option Addr) (sl sc n size e bytes : Nat) (z new : List Value) (K : Value → H → Prop) : Prop :=
  (sl + n ≤ sc → match base with
    | some a => (new ≠ [] → hwr h (a.add (sl * size)) new.length) ∧ (∀ v ∈ new, v.oneCell' = true) ∧ K (.slice (some a) (sl + n) sc) (hset h (a.add (sl * size)) new)
    | none => new = [] ∧ K (.slice none (sl + n) sc) h) ∧
  (sc < sl + n → Builtin.nextslicecap (sl + n) sc * bytes ≤ 2 ^ 48 ∧ ∃ old, srcP h base (sl * size) old ∧
    ∀ cap, sl + n ≤ cap → newP h (.cells ⟨old ++ new ++ zrep z (cap - (sl + n))⟩ e (0, 0)) fun b h' => K (.slice (some ⟨b, 0, none⟩) (sl + n) cap) h')

def appendP (P : Program) (ts tx : TypeId) (s x : Value) (h : H) (K : Value → H → Prop) : Prop :=
  match P.underlying ts, P.underlying tx with
  | some (.slice e), some (.slice _) => on (zeroOf P e) fun z => bif Nat.beq z.length (P.cellsOf e) && !Nat.beq (P.bytesOf e) 0 && !Nat.beq (P.cellsOf e) 0 then
      slcP s fun base sl sc => slcP x fun xa n _ => ∃ new, srcP h xa (n * P.cellsOf e) new ∧ appP h base sl sc n (P.cellsOf e) e (P.bytesOf e) z new K
    else False
  | _, _ => False

def ty1 (P : Program) (t : TypeId) (K : Value → Prop) : Prop := match P.underlying t with
  | some (.int k) => ∃ n, K (.int k n)
  | some .bool => ∃ b, K (.bool b)
  | some (.struct _) => ∃ vs : List Value, vs.length = P.cellsOf t ∧ K (.agg ⟨vs⟩)
  | some (.array _ _) => ∃ vs : List Value, vs.length = P.cellsOf t ∧ K (.agg ⟨vs⟩)
  | _ => ∃ v, K v

def tyL (P : Program) : List TypeId → (List Value → Prop) → Prop
  | [], K => K []
  | t :: ts, K => ty1 P t fun v => tyL P ts fun vs => K (v :: vs)

def tyV (P : Program) (t : TypeId) (v : Value) (K : Value → Prop) : Prop := match P.underlying t with
  | some (.tuple ts) => tyL P ts.toList fun vs => v = .tuple ⟨vs⟩ ∧ K (.tuple ⟨vs⟩)
  | some (.int k) => ∃ n, v = .int k n ∧ K (.int k n)
  | some .bool => ∃ b, v = .bool b ∧ K (.bool b)
  | some (.struct _) => ∃ vs : List Value, vs.length = P.cellsOf t ∧ v = .agg ⟨vs⟩ ∧ K (.agg ⟨vs⟩)
  | some (.array _ _) => ∃ vs : List Value, vs.length = P.cellsOf t ∧ v = .agg ⟨vs⟩ ∧ K (.agg ⟨vs⟩)
  | some _ => K v
  | none => False

def onRet (P : Program) (t : TypeId) (K : Value → H → Prop) (X : Value → H → Prop) (r : Res) (h : H) : Prop := match r with
  | .ret v => tyV P t v fun v => K v h
  | .pan v => X v h

def funP (P : Program) (f : Value) (args : List Value) (K : FuncId → List Value → Prop) : Prop := match f with
  | .func (.func fid) ⟨first⟩ ⟨cap⟩ => K fid (first ++ (args ++ cap))
  | _ => False

def methP (P : Program) (h : H) (v : Value) (name : String) (K : FuncId → Value → Prop) : Prop := match v with
  | .iface t v => ∃ f rv, (∀ w, Sub h w → (method (P.types.size + Made.depth) t v name).run P w = .ok (f, rv) w) ∧ K f rv
  | _ => False

def foldI (f : Int → Int → Int) : Value → List Value → (Value → Prop) → Prop
  | v, [], K => K v
  | .int k a, .int _ b :: r, K => foldI f (.int k (f a b)) r K
  | _, _, _ => False

def lenP (P : Program) (t : TypeId) (x : Value) (h : H) (K : Value → Prop) : Prop :=
  match P.underlying t with
  | some (.slice _) => slcP x fun _ l _ => K (.int .i64 l)
  | some .string => match x with
    | .string s => K (.int .i64 s.size)
    | _ => False
  | some (.array n _) => K (.int .i64 n)
  | _ => False

def builtinP (P : Program) (b : Builtin) (ts : List TypeId) (args : List Value) (h : H) (K : Value → H → Prop) : Prop :=
  match b, ts, args with
  | .len, [t], [x] => lenP P t x h fun v => K v h
  | .append, [ts, tx], [s, x] => appendP P ts tx s x h K
  | .min, _, v :: r => foldI (fun a b => if b < a then b else a) v r fun v => K v h
  | .max, _, v :: r => foldI (fun a b => if a < b then b else a) v r fun v => K v h
  | _, _, _ => False

def nilP (x : Value) (K : Value → Prop) : Prop := ptrP x fun a => K (.pointer (some a))

def mkIfcP (P : Program) (t : TypeId) (x : Value) (K : Value → Prop) : Prop := match P.underlying t with
  | some (.interface _) => False
  | some _ => K (.iface t x)
  | none => False

def panP (x : Value) (X : Value → Prop) : Prop := match x with
  | .iface t v => X (.iface t v)
  | _ => False

def zipE (fr : Fr) : List (Nat × Operand) → Option (List (Nat × Value))
  | [] => some []
  | (i, x) :: r => match evalO fr x with
    | some v => match zipE fr r with
      | some vs => some ((i, v) :: vs)
      | none => none
    | none => none

def optE (fr : Fr) : Option Operand → Option (Option Value)
  | none => some none
  | some x => match evalO fr x with
    | some v => some (some v)
    | none => none

/-- What one operation comes to. -/
def opt (P : Program) (o : Oper) (fr : Fr) (h : H) (K : Value → H → Prop) (X : Value → H → Prop) : Prop :=
  match o.op with
  | .move x => on (evalO fr x) fun v => K v h
  | .assign x => on (evalO fr x) fun v => K v h
  | .pick c a b => on (evalO fr c) fun vc => boolP vc fun bc => ifP bc (on (evalO fr a) fun v => K v h) (on (evalO fr b) fun v => K v h)
  | .alloc e => allocP P e h K
  | .box e x => on (evalO fr x) fun v => boxP e v h K
  | .build t parts => on (zipE fr parts.toList) fun ps => buildP P t ps fun v => K v h
  | .buildSlice t n parts => on (zipE fr parts.toList) fun ps => buildSliceP P t n ps h K
  | .load t a => on (evalO fr a) fun va => loadP P t va h fun v => K v h
  | .store t a x => on (evalO fr a) fun va => on (evalO fr x) fun vx => storeP P t va vx h fun h' => K undef h'
  | .nilCheck x => on (evalO fr x) fun v => nilP v fun v => K v h
  | .binOp op t x y _ => on (evalO fr x) fun vx => on (evalO fr y) fun vy => binP P op t x y vx vy h fun v => K v h
  | .unOp op _ x => on (evalO fr x) fun v => unP P op v h fun v => K v h
  | .convert s d x => on (evalO fr x) fun v => convP P s d v h fun v => K v h
  | .makeInterface t x => on (evalO fr x) fun v => mkIfcP P t v fun v => K v h
  | .makeFunc fn first cap => on (evalL fr first.toList) fun vf => on (evalL fr cap.toList) fun vc => K (.func fn ⟨vf⟩ ⟨vc⟩) h
  | .makeSlice t l c => on (evalO fr l) fun vl => on (evalO fr c) fun vc => makeSliceP P t vl vc h K
  | .slice t x lo hi mx => on (evalO fr x) fun v => on (optE fr lo) fun lo => on (optE fr hi) fun hi => on (optE fr mx) fun mx => sliceP P t v lo hi mx h fun v => K v h
  | .fieldAddr t x f => on (evalO fr x) fun v => fieldAddrP P t v f fun v => K v h
  | .field t x f => on (evalO fr x) fun v => fieldP P t v f fun v => K v h
  | .indexAddr t x i => on (evalO fr x) fun v => on (evalO fr i) fun vi => idxAddrP P t v vi fun v => K v h
  | .index t x i => on (evalO fr x) fun v => on (evalO fr i) fun vi => indexP P t v vi h fun v => K v h
  | .extract x i => on (evalO fr x) fun v => tupP v fun vs => on (vs[i]?) fun v => K v h
  | .typeAssert x t a ok => on (evalO fr x) fun v => runP P h (Instr.typeAssert v t a ok) fun v => K v h
  | .call c => on (evalL fr c.args.toList) fun args => match c.callee with
    | .builtin b => builtinP P b c.argTypes.toList args h K
    | .value f => on (evalO fr f) fun vf => funP P vf args fun f args => T P f args h (onRet P o.type K X)
    | .invoke r name => on (evalO fr r) fun vr => methP P h vr name fun f rv => T P f (rv :: args) h (onRet P o.type K X)
  | .panic x => on (evalO fr x) fun v => panP v fun v => X v h
  | _ => False

/-! ### Regions -/

/-- What stood at a load's address stands there still. -/
def rdSame (P : Program) (o : Oper) (va : Option Value) (h h' : H) : Prop := match o.op with
  | .load t _ => match va with
    | some va => ptrP va fun a => ∀ i, i < P.cellsOf t + 1 → hcell h' (a.add i) = hcell h (a.add i)
    | none => True
  | _ => True

/-- The address that an operation loads from. -/
def ldAddr (fr : Fr) (o : Oper) : Option Value := match o.op with
  | .load _ a => evalO fr a
  | _ => none

def oblP (P : Program) (ops : List Oper) (h h' : H) : List (Nat × Option Value) → Prop → Prop
  | [], K => K
  | p :: r, K => on (ops[p.1]?) (fun o => rdSame P o p.2 h h') ∧ oblP P ops h h' r K

def gdP (ops : List Oper) (g : Option (Nat × Bool)) (fr : Fr) (A B : Fr → Prop) : Prop := match g with
  | none => A fr
  | some (j, want) => on (ops[j]?) fun oj => on oj.dst fun d => match Fr.get fr d with
    | some (.bool b) => match b with
      | true => bif want then A ((d, .bool true) :: fr) else B ((d, .bool true) :: fr)
      | false => bif want then B ((d, .bool false) :: fr) else A ((d, .bool false) :: fr)
    | some (.tuple _) => B fr
    | _ => False

def has (i : Nat) : List Nat → Bool
  | [] => false
  | j :: r => bif Nat.beq i j then true else has i r

def both (pd : List Nat) : List (Nat × Option Value) → List (Nat × Option Value)
  | [] => []
  | p :: r => bif has p.1 pd then p :: both pd r else both pd r

/-- The operations in this order; 'pd': the loads whose places an operation that acts must leave; 'ex': what has run. -/
def rpt (P : Program) (ops : List Oper) (pd : Nat → List Nat) : List (Nat × Option Value) → List Nat → Fr → H → (Fr → H → Prop) → (Value → H → Prop) → Prop
  | _, [], fr, h, K, X => K fr h
  | ex, i :: L, fr, h, K, X => on (ops[i]?) fun o => gdP ops o.guard fr
      (fun fr => opt P o fr h (fun v h' => oblP P ops h h' (both (pd i) ex) (rpt P ops pd ((i, ldAddr fr o) :: ex) L (Fr.put fr o.dst v) h' K X)) X)
      (fun fr => rpt P ops pd ((i, none) :: ex) L (Fr.put fr o.dst undef) h K X)

/-! ### Code -/

inductive Ex where
  | normal
  | exit (id : Nat)
  | ret
  | panic (v : Value)

structure RA where
  order : List Nat
  pd : Nat → List Nat

end Go.Proofs.Ytgbmkfifjijoiaa
