import Derived.Calls
import Derived.Defers
import Derived.Orders
import Derived.Laws.Cells
import Derived.Laws.World
import Derived.Laws.Entries
import Derived.KernelRfl
import Derived.Laws.CopyRow
import Derived.ChangeKeysEq
import Derived.Laws.AppendOwn
import Derived.Scope
namespace Go.Proofs.YtjlojokockfapaaGreatDoor
open Go
set_option linter.unusedVariables false
set_option linter.unusedSimpArgs false

/-- What is known of the heap: a block's number to what lies in it. -/
abbrev H := Nat → Option Obj
/-- What is known of the slots. -/
abbrev Fr := List (Nat × Value)

def hcell (h : H) (a : Addr) : Option Value :=
  match h a.block with
  | some (.cells c _ _) => if a.spot.isSome then none else c[a.off]?
  | _ => none

def hput (h : H) (b : Nat) (o : Obj) : H := fun b' => if b' = b then some o else h b'

def setR : Array Value → Nat → List Value → Array Value
  | c, _, [] => c
  | c, o, v :: vs => setR (c.setIfInBounds o v) (o + 1) vs

def hset (h : H) (a : Addr) (vs : List Value) : H := fun b =>
  if b = a.block then (h b).map fun | .cells c e f => .cells (setR c a.off vs) e f | o => o
  else h b

/-- The cells from a on may be written: n of them. -/
def hwr (h : H) (a : Addr) (n : Nat) : Prop := ∃ c e, h a.block = some (.cells c e (0, 0)) ∧ a.spot = none ∧ a.off + n ≤ c.size

def hcells (h : H) (a : Addr) (vs : List Value) : Prop := ∀ i v, vs[i]? = some v → hcell h (a.add i) = some v

def Sub (h : H) (w : World) : Prop := ∀ b o, h b = some o → w.heap[b]? = some o
def Same (w w' : World) : Prop := w'.os = w.os ∧ w'.tape = w.tape ∧ w'.output = w.output

/-- From a world of which h is known to one of which h' is known: what h does not know stays as it was. -/
structure Stp (h : H) (w : World) (h' : H) (w' : World) : Prop where
  same : Same w w'
  size : w.heap.size ≤ w'.heap.size
  frame : ∀ b, b < w.heap.size → h b = none → w'.heap[b]? = w.heap[b]? ∧ h' b = none

theorem Stp.refl (h : H) (w : World) : Stp h w h w := ⟨⟨rfl, rfl, rfl⟩, Nat.le_refl _, fun _ _ hb => ⟨rfl, hb⟩⟩
theorem Stp.trans {h0 h1 h2 : H} {a b c : World} (h : Stp h0 a h1 b) (k : Stp h1 b h2 c) : Stp h0 a h2 c :=
  ⟨⟨k.same.1.trans h.same.1, k.same.2.1.trans h.same.2.1, k.same.2.2.trans h.same.2.2⟩, Nat.le_trans h.size k.size, fun x hx hn => by
    obtain ⟨e1, n1⟩ := h.frame x hx hn
    obtain ⟨e2, n2⟩ := k.frame x (Nat.lt_of_lt_of_le hx h.size) n1
    exact ⟨e2.trans e1, n2⟩⟩

def Fr.get : Fr → Nat → Option Value
  | [], _ => none
  | (s, v) :: r, t => bif Nat.beq s t then some v else Fr.get r t

def Fr.put (fr : Fr) (d : Option Nat) (v : Value) : Fr :=
  match d with
  | some d => (d, v) :: fr
  | none => fr

@[reducible] def on {α : Type} (o : Option α) (k : α → Prop) : Prop := match o with
  | some a => k a
  | none => False

def evalO (fr : Fr) : Operand → Option Value
  | .tmp t => Fr.get fr t
  | .const v => some v
  | .global g => some (.pointer (some ⟨g, 0, none⟩))
  | .func f => some (.func (.func f) #[] #[])

def evalL (fr : Fr) : List Operand → Option (List Value)
  | [] => some []
  | x :: r => match evalO fr x with
    | some v => match evalL fr r with
      | some vs => some (v :: vs)
      | none => none
    | none => none

inductive Res where
  | ret (v : Value)
  | pan (v : Value)

/-- The call of f, from a heap of which h is known, comes to what R says: it returns or panics, and the streams and the tape stay. -/
def T (P : Program) (f : FuncId) (args : List Value) (h : H) (R : Res → H → Prop) : Prop :=
  (∃ fn, P.funcs[f]? = some fn ∧ fn.body.isNone = false ∧ (fn.name == "runtime.NumGoroutine") = false) ∧
  ∀ w, Sub h w → Calls P f args.toArray w fun e w' => ∃ h', Sub h' w' ∧ Stp h w h' w' ∧ match e with
    | .returned v => R (.ret v) h'
    | .panicked [⟨v, false, false⟩] => R (.pan v) h'
    | _ => False

theorem T.mono {P : Program} {f : FuncId} {args : List Value} {h : H} {R R' : Res → H → Prop} (t : T P f args h R)
    (hr : ∀ r h', R r h' → R' r h') : T P f args h R' := by
  refine ⟨t.1, fun w hw => (t.2 w hw).mono ?_⟩
  rintro e w' ⟨h', hs, hm, hq⟩
  refine ⟨h', hs, hm, ?_⟩
  split at hq
  · exact hr _ _ hq
  · exact hr _ _ hq
  · exact hq.elim

@[reducible] def ptrP (v : Value) (K : Addr → Prop) : Prop := match v with
  | .pointer (some a) => K a
  | _ => False
@[reducible] def ptrO (v : Value) (K : Option Addr → Prop) : Prop := match v with
  | .pointer a => K a
  | _ => False
@[reducible] def slcP (v : Value) (K : Option Addr → Nat → Nat → Prop) : Prop := match v with
  | .slice a l c => K a l c
  | _ => False
@[reducible] def intP (v : Value) (K : Int → Prop) : Prop := match v with
  | .int _ n => K n
  | _ => False
@[reducible] def boolP (v : Value) (K : Bool → Prop) : Prop := match v with
  | .bool b => K b
  | _ => False
@[reducible] def aggP (v : Value) (K : List Value → Prop) : Prop := match v with
  | .agg ⟨cs⟩ => K cs
  | _ => False
@[reducible] def tupP (v : Value) (K : List Value → Prop) : Prop := match v with
  | .tuple ⟨cs⟩ => K cs
  | _ => False
@[reducible] def ifP (b : Bool) (A B : Prop) : Prop := match b with
  | true => A
  | false => B
@[reducible] def oneP (v : Value) (K : Prop) : Prop := match v with
  | .agg _ => False
  | .tuple _ => False
  | _ => K

@[reducible] def ldI (h : H) (a : Addr) (k : IntKind) (K : Int → Prop) : Prop := ∃ n, hcell h a = some (.int k n) ∧ K n
@[reducible] def ldB (h : H) (a : Addr) (K : Bool → Prop) : Prop := ∃ b, hcell h a = some (.bool b) ∧ K b
@[reducible] def ldV (h : H) (a : Addr) (K : Value → Prop) : Prop := ∃ v, hcell h a = some v ∧ K v
@[reducible] def ldN (h : H) (a : Addr) (n : Nat) (K : List Value → Prop) : Prop := ∃ vs : List Value, vs.length = n ∧ hcells h a vs ∧ K vs
@[reducible] def stC (h : H) (a : Addr) (v : Value) (K : H → Prop) : Prop := hwr h a 1 ∧ K (hset h a [v])
@[reducible] def stN (h : H) (a : Addr) (vs : List Value) (n : Nat) (K : H → Prop) : Prop :=
  vs.length = n ∧ (∀ v ∈ vs, v.oneCell' = true) ∧ hwr h a n ∧ K (hset h a vs)
@[reducible] def newP (h : H) (o : Obj) (K : Nat → H → Prop) : Prop := ∀ b, h b = none → K b (hput h b o)
@[reducible] def ixS (x : Value) (i : Int) (sz : Nat) (K : Addr → Prop) : Prop := match x with
  | .slice (some a) l _ => 0 ≤ i ∧ i < (l : Int) ∧ K (a.add (i.toNat * sz))
  | _ => False
@[reducible] def ixA (a : Addr) (len : Nat) (i : Int) (sz : Nat) (K : Addr → Prop) : Prop := 0 ≤ i ∧ i < (len : Int) ∧ K (a.add (i.toNat * sz))
/-- Whatever is known of the heap: s yields a value and leaves the world. -/
@[reducible] def runP (P : Program) (h : H) (s : Sem Value) (K : Value → Prop) : Prop := ∃ r, (∀ w, Sub h w → s.run P w = .ok r w) ∧ K r

def loadP (P : Program) (t : TypeId) (v : Value) (h : H) (K : Value → Prop) : Prop :=
  ptrP v fun a => match P.underlying t with
    | some (.int k) => ldI h a k fun n => K (.int k n)
    | some .bool => ldB h a fun b => K (.bool b)
    | some (.struct _) => ldN h a (P.cellsOf t) fun vs => K (.agg ⟨vs⟩)
    | some (.array _ _) => ldN h a (P.cellsOf t) fun vs => K (.agg ⟨vs⟩)
    | some _ => ldV h a K
    | none => False

def storeP (P : Program) (t : TypeId) (av v : Value) (h : H) (K : H → Prop) : Prop :=
  ptrP av fun a => match P.underlying t with
    | some (.struct _) => aggP v fun vs => stN h a vs (P.cellsOf t) K
    | some (.array _ _) => aggP v fun vs => stN h a vs (P.cellsOf t) K
    | some _ => bif Nat.beq (P.cellsOf t) 1 then oneP v (stC h a v K) else False
    | none => False

def bitsI (op : BinOp) (k : IntKind) (x y : Int) : Int :=
  let a := BitVec.ofInt k.bits x
  let b := BitVec.ofInt k.bits y
  match op with
  | .and => k.wrap (a &&& b).toNat
  | .or => k.wrap (a ||| b).toNat
  | .xor => k.wrap (a ^^^ b).toNat
  | _ => k.wrap (a &&& ~~~b).toNat

def intBin (op : BinOp) (k : IntKind) (a b : Int) (K : Value → Prop) : Prop :=
  match op with
  | .add => K (.int k (k.wrap (a + b)))
  | .sub => K (.int k (k.wrap (a - b)))
  | .mul => K (.int k (k.wrap (a * b)))
  | .quo => b ≠ 0 ∧ K (.int k (k.wrap (a.tdiv b)))
  | .rem => b ≠ 0 ∧ K (.int k (a.tmod b))
  | .and => K (.int k (bitsI .and k a b))
  | .or => K (.int k (bitsI .or k a b))
  | .xor => K (.int k (bitsI .xor k a b))
  | .andNot => K (.int k (bitsI .andNot k a b))
  | .eql => K (.bool (decide (a = b)))
  | .neq => K (.bool (!decide (a = b)))
  | .lss => K (.bool (decide (a < b)))
  | .leq => K (.bool (decide (a ≤ b)))
  | .gtr => K (.bool (decide (b < a)))
  | .geq => K (.bool (decide (b ≤ a)))
  | .shl => 0 ≤ b ∧ K (.int k (k.wrap (a * 2 ^ (min b.toNat k.bits))))
  | .shr => 0 ≤ b ∧ K (.int k (a.fdiv (2 ^ (min b.toNat k.bits))))

def sameK : IntKind → IntKind → Bool
  | .i8, .i8 | .i16, .i16 | .i32, .i32 | .i64, .i64 | .u8, .u8 | .u16, .u16 | .u32, .u32 | .u64, .u64 => true
  | _, _ => false

def isShift : BinOp → Bool
  | .shl | .shr => true
  | _ => false

def isEq : BinOp → Bool
  | .eql | .neq => true
  | _ => false

def negIf (op : BinOp) (b : Bool) : Bool := match op with
  | .neq => !b
  | _ => b

def binP (P : Program) (op : BinOp) (t : TypeId) (ox oy : Operand) (x y : Value) (h : H) (K : Value → Prop) : Prop :=
  match P.underlying t with
  | some (.int _) => match x, y with
    | .int k a, .int k' b => bif sameK k k' || isShift op then intBin op k a b K else False
    | _, _ => False
  | some .bool => match x, y with
    | .bool a, .bool b => match op with
      | .eql => K (.bool (a == b))
      | .neq => K (.bool (!(a == b)))
      | _ => False
    | _, _ => False
  | some (.pointer e) => match y with
    | .pointer none => ptrO x fun q => bif isEq op then K (.bool (negIf op q.isNone)) else False
    | _ => runP P h (do eqGuard op t ox oy x y; binOp op t x y) K
  | some (.slice e) => match y with
    | .slice none _ _ => slcP x fun q _ _ => bif isEq op then K (.bool (negIf op q.isNone)) else False
    | _ => runP P h (do eqGuard op t ox oy x y; binOp op t x y) K
  | _ => runP P h (do eqGuard op t ox oy x y; binOp op t x y) K

def unP (P : Program) (op : UnOp) (x : Value) (h : H) (K : Value → Prop) : Prop :=
  match op, x with
  | .not, x => boolP x fun b => K (.bool !b)
  | .neg, .int k n => K (.int k (k.wrap (0 - n)))
  | op, x => runP P h (Op.unary op x) K

def convP (P : Program) (src dst : TypeId) (x : Value) (h : H) (K : Value → Prop) : Prop :=
  match P.underlying src, P.underlying dst with
  | some (.int _), some (.int k) => intP x fun n => K (.int k (k.wrap n))
  | _, _ => runP P h (convert src dst x) K

def partP (P : Program) (t : TypeId) (cs : List Value) (off : Nat) (K : Value → Prop) : Prop :=
  match P.underlying t with
  | some (.int k) => ∃ n, cs[off]? = some (.int k n) ∧ K (.int k n)
  | some .bool => ∃ b, cs[off]? = some (.bool b) ∧ K (.bool b)
  | some (.struct _) => K (.agg ⟨(cs.drop off).take (P.cellsOf t)⟩)
  | some (.array _ _) => K (.agg ⟨(cs.drop off).take (P.cellsOf t)⟩)
  | some _ => ∃ v, cs[off]? = some v ∧ K v
  | none => False

def idxAddrP (P : Program) (t : TypeId) (x ix : Value) (K : Value → Prop) : Prop :=
  match P.underlying t with
  | some (.slice e) => bif Nat.beq (P.cellsOf e) 0 then False else intP ix fun i => ixS x i (P.cellsOf e) fun a => K (.pointer (some a))
  | some (.array n e) => bif Nat.beq (P.cellsOf e) 0 then False else intP ix fun i => ptrP x fun a => ixA a n i (P.cellsOf e) fun a => K (.pointer (some a))
  | _ => False

def indexP (P : Program) (t : TypeId) (x ix : Value) (h : H) (K : Value → Prop) : Prop :=
  match P.underlying t with
  | some (.array n e) => intP ix fun i => aggP x fun cs => 0 ≤ i ∧ i < (n : Int) ∧ partP P e cs (i.toNat * P.cellsOf e) K
  | _ => runP P h (Instr.index t x ix) K

def fieldP (P : Program) (t : TypeId) (x : Value) (f : Nat) (K : Value → Prop) : Prop :=
  match P.underlying t with
  | some (.struct fs) => on (fs.toList[f]?) fun fd => aggP x fun cs => partP P fd.type cs fd.offset K
  | _ => False

def fieldAddrP (P : Program) (t : TypeId) (x : Value) (f : Nat) (K : Value → Prop) : Prop :=
  match P.underlying t with
  | some (.struct fs) => on (fs.toList[f]?) fun fd => bif Nat.beq (P.cellsOf fd.type) 0 then False else ptrP x fun a => K (.pointer (some (a.add fd.offset)))
  | _ => False

@[reducible] def bndP (v : Option Value) (d : Int) (K : Int → Prop) : Prop := match v with
  | none => K d
  | some (.int _ i) => K i
  | some _ => False

def sliceV (a : Option Addr) (c : Nat) (lo hi : Int) (sz : Nat) : Value :=
  .slice (if c = lo.toNat then a else a.map (·.add (lo.toNat * sz))) (hi.toNat - lo.toNat) (c - lo.toNat)

def sliceP (P : Program) (t : TypeId) (x : Value) (lo hi mx : Option Value) (h : H) (K : Value → Prop) : Prop :=
  match P.underlying t with
  | some (.slice e) => match mx with
    | none => bif Nat.beq (P.cellsOf e) 0 then False else slcP x fun a l c => bndP hi l fun hi => 0 ≤ hi ∧ hi ≤ (c : Int) ∧ bndP lo 0 fun lo => 0 ≤ lo ∧ lo ≤ hi ∧ K (sliceV a c lo hi (P.cellsOf e))
    | some _ => runP P h (Instr.sliceAt t x lo hi mx) K
  | _ => runP P h (Instr.sliceAt t x lo hi mx) K

def zeroOf (P : Program) (t : TypeId) : Option (List Value) := match P.info? t with
  | some i => match i.zero with
    | some (.agg ⟨cs⟩) => some cs
    | some v => some [v]
    | none => none
  | none => none

def allocP (P : Program) (e : TypeId) (h : H) (K : Value → H → Prop) : Prop :=
  on (zeroOf P e) fun z => newP h (.cells ⟨z⟩ e (0, 0)) fun b h' => K (.pointer (some ⟨b, 0, none⟩)) h'

def cellsV (v : Value) : List Value := match v with
  | .agg ⟨cs⟩ => cs
  | v => [v]

def boxP (e : TypeId) (v : Value) (h : H) (K : Value → H → Prop) : Prop :=
  newP h (.cells ⟨cellsV v⟩ e (0, 0)) fun b h' => K (.pointer (some ⟨b, 0, none⟩)) h'

/-- n elements of zeros. -/
def zrep (z : List Value) (n : Nat) : List Value := (List.replicate n z).flatten

/-- Parts of an aggregate laid at their places; 'len' cells in all. -/
def fillP (P : Program) (len : Nat) (place : Nat → Option (Nat × TypeId)) : List (Nat × Value) → List Value → (List Value → Prop) → Prop
  | [], cells, K => K cells
  | (i, v) :: r, cells, K => on (place i) fun ot =>
    bif Nat.ble (ot.1 + P.cellsOf ot.2) len then
      match P.underlying ot.2 with
      | some (.struct _) => aggP v fun vs => vs.length = P.cellsOf ot.2 ∧ fillP P len place r (cells.take ot.1 ++ vs ++ cells.drop (ot.1 + P.cellsOf ot.2)) K
      | some (.array _ _) => aggP v fun vs => vs.length = P.cellsOf ot.2 ∧ fillP P len place r (cells.take ot.1 ++ vs ++ cells.drop (ot.1 + P.cellsOf ot.2)) K
      | some _ => bif Nat.beq (P.cellsOf ot.2) 1 then oneP v (fillP P len place r (cells.take ot.1 ++ [v] ++ cells.drop (ot.1 + 1)) K) else False
      | none => False
    else False

def placeS (fs : List Field) (i : Nat) : Option (Nat × TypeId) := match fs[i]? with
  | some f => some (f.offset, f.type)
  | none => none

def buildP (P : Program) (t : TypeId) (parts : List (Nat × Value)) (K : Value → Prop) : Prop :=
  on (zeroOf P t) fun z => match P.underlying t with
    | some (.struct fs) => bif fs.toList.all (fun f => (P.info? f.type).isSome) then fillP P z.length (placeS fs.toList) parts z fun cs => K (.agg ⟨cs⟩) else False
    | some (.array _ e) => bif (P.info? e).isSome then fillP P z.length (fun i => some (i * P.cellsOf e, e)) parts z fun cs => K (.agg ⟨cs⟩) else False
    | _ => False

def buildSliceP (P : Program) (t : TypeId) (len : Nat) (parts : List (Nat × Value)) (h : H) (K : Value → H → Prop) : Prop :=
  match P.underlying t with
  | some (.slice e) => on (zeroOf P e) fun z => bif Nat.beq z.length (P.cellsOf e) && Nat.ble (len * P.cellsOf e) (2 ^ 24) then
      fillP P (len * P.cellsOf e) (fun i => some (i * P.cellsOf e, e)) parts (zrep z len) fun cs =>
        newP h (.cells ⟨cs⟩ e (0, 0)) fun b h' => K (.slice (some ⟨b, 0, none⟩) len len) h'
    else False
  | _ => False

def makeSliceP (P : Program) (t : TypeId) (l c : Value) (h : H) (K : Value → H → Prop) : Prop :=
  match P.underlying t with
  | some (.slice e) => on (zeroOf P e) fun z => bif Nat.beq z.length (P.cellsOf e) then intP l fun l => intP c fun c =>
      0 ≤ l ∧ l ≤ c ∧ c * P.bytesOf e ≤ 2 ^ 48 ∧ c ≤ 2 ^ 48 ∧ newP h (.cells ⟨zrep z c.toNat⟩ e (0, 0)) fun b h' => K (.slice (some ⟨b, 0, none⟩) l.toNat c.toNat) h'
    else False
  | _ => False

def srcP (h : H) (a : Option Addr) (n : Nat) (new : List Value) : Prop := new.length = n ∧ match a with
  | some a => hcells h a new
  | none => new = []

def appP (h : H) (base : Option Addr) (sl sc n size e bytes : Nat) (z new : List Value) (K : Value → H → Prop) : Prop :=
  (sl + n ≤ sc → match base with
    | some a => (new ≠ [] → hwr h (a.add (sl * size)) new.length) ∧ (∀ v ∈ new, v.oneCell' = true) ∧ K (.slice (some a) (sl + n) sc) (hset h (a.add (sl * size)) new)
    | none => new = [] ∧ K (.slice none (sl + n) sc) h) ∧
  (sc < sl + n → Builtin.nextslicecap (sl + n) sc * bytes ≤ 2 ^ 48 ∧ ∃ old, srcP h base (sl * size) old ∧
    ∀ cap, sl + n ≤ cap → newP h (.cells ⟨old ++ new ++ zrep z (cap - (sl + n))⟩ e (0, 0)) fun b h' => K (.slice (some ⟨b, 0, none⟩) (sl + n) cap) h')

def appendP (P : Program) (ts tx : TypeId) (s x : Value) (h : H) (K : Value → H → Prop) : Prop :=
  match P.underlying ts, P.underlying tx with
  | some (.slice e), some (.slice _) => on (zeroOf P e) fun z => bif Nat.beq z.length (P.cellsOf e) && !Nat.beq (P.bytesOf e) 0 && !Nat.beq (P.cellsOf e) 0 then
      slcP s fun base sl sc => slcP x fun xa n _ => ∃ new, srcP h xa (n * P.cellsOf e) new ∧ appP h base sl sc n (P.cellsOf e) e (P.bytesOf e) z new K
    else False
  | _, _ => False

def ty1 (P : Program) (t : TypeId) (K : Value → Prop) : Prop := match P.underlying t with
  | some (.int k) => ∃ n, K (.int k n)
  | some .bool => ∃ b, K (.bool b)
  | some (.struct _) => ∃ vs : List Value, vs.length = P.cellsOf t ∧ K (.agg ⟨vs⟩)
  | some (.array _ _) => ∃ vs : List Value, vs.length = P.cellsOf t ∧ K (.agg ⟨vs⟩)
  | _ => ∃ v, K v

def tyL (P : Program) : List TypeId → (List Value → Prop) → Prop
  | [], K => K []
  | t :: ts, K => ty1 P t fun v => tyL P ts fun vs => K (v :: vs)

def tyV (P : Program) (t : TypeId) (v : Value) (K : Value → Prop) : Prop := match P.underlying t with
  | some (.tuple ts) => tyL P ts.toList fun vs => v = .tuple ⟨vs⟩ ∧ K (.tuple ⟨vs⟩)
  | some (.int k) => ∃ n, v = .int k n ∧ K (.int k n)
  | some .bool => ∃ b, v = .bool b ∧ K (.bool b)
  | some (.struct _) => ∃ vs : List Value, vs.length = P.cellsOf t ∧ v = .agg ⟨vs⟩ ∧ K (.agg ⟨vs⟩)
  | some (.array _ _) => ∃ vs : List Value, vs.length = P.cellsOf t ∧ v = .agg ⟨vs⟩ ∧ K (.agg ⟨vs⟩)
  | some _ => K v
  | none => False

def onRet (P : Program) (t : TypeId) (K : Value → H → Prop) (X : Value → H → Prop) (r : Res) (h : H) : Prop := match r with
  | .ret v => tyV P t v fun v => K v h
  | .pan v => X v h

def funP (P : Program) (f : Value) (args : List Value) (K : FuncId → List Value → Prop) : Prop := match f with
  | .func (.func fid) ⟨first⟩ ⟨cap⟩ => K fid (first ++ (args ++ cap))
  | _ => False

/-- A function whose body the model stands in for. -/
def extF (P : Program) (f : FuncId) : Bool := match P.funcs[f]? with
  | some fn => fn.body.isNone
  | none => false
/-- A call of such a function: a value, and nothing else. -/
def extP (P : Program) (f : FuncId) (args : List Value) (h : H) (R : Res → H → Prop) : Prop := ∃ v, (∀ w, Sub h w → (callFunc f ⟨args⟩).run P w = .ok (.value v) w) ∧ R (.ret v) h
@[reducible] def TX (P : Program) (f : FuncId) (args : List Value) (h : H) (R : Res → H → Prop) : Prop := bif extF P f then extP P f args h R else T P f args h R
theorem TX.case {P : Program} {f : FuncId} {args : List Value} {h : H} {R : Res → H → Prop} {G : Prop} (t : TX P f args h R) (h1 : extP P f args h R → G) (h2 : T P f args h R → G) : G := by
  unfold TX at t
  revert t
  cases extF P f with
  | true => exact h1
  | false => exact h2
theorem TX.map {P : Program} {f : FuncId} {args : List Value} {h h' : H} {R R' : Res → H → Prop} (t : TX P f args h R) (h1 : extP P f args h R → extP P f args h' R') (h2 : T P f args h R → T P f args h' R') : TX P f args h' R' := by
  unfold TX at t ⊢
  revert t
  cases extF P f with
  | true => exact h1
  | false => exact h2
theorem extP.mono {P : Program} {f : FuncId} {args : List Value} {h : H} {R R' : Res → H → Prop} (t : extP P f args h R) (hr : ∀ v, R (.ret v) h → R' (.ret v) h) : extP P f args h R' := by
  obtain ⟨v, hv, k⟩ := t
  exact ⟨v, hv, hr v k⟩

def methP (P : Program) (h : H) (v : Value) (name : String) (K : FuncId → Value → Prop) : Prop := match v with
  | .iface t v => ∃ f rv, (∀ w, Sub h w → (method (P.types.size + Made.depth) t v name).run P w = .ok (f, rv) w) ∧ K f rv
  | _ => False

def foldI (f : Int → Int → Int) : Value → List Value → (Value → Prop) → Prop
  | v, [], K => K v
  | .int k a, .int _ b :: r, K => foldI f (.int k (f a b)) r K
  | _, _, _ => False

def lenP (P : Program) (t : TypeId) (x : Value) (h : H) (K : Value → Prop) : Prop :=
  match P.underlying t with
  | some (.slice _) => slcP x fun _ l _ => K (.int .i64 l)
  | some .string => match x with
    | .string s => K (.int .i64 s.size)
    | _ => False
  | some (.array n _) => K (.int .i64 n)
  | _ => False

def clP (a : Option Addr) (n : Nat) (z : List Value) (h : H) (K : H → Prop) : Prop := match a with
  | none => K h
  | some a => hwr h a (zrep z n).length ∧ (∀ v ∈ zrep z n, v.oneCell' = true) ∧ K (hset h a (zrep z n))

def clearP (P : Program) (t : TypeId) (x : Value) (h : H) (K : Value → H → Prop) : Prop :=
  match P.underlying t with
  | some (.slice e) => on (zeroOf P e) fun z => bif Nat.beq z.length (P.cellsOf e) then slcP x fun a n _ => clP a n z h fun h' => K (.tuple ⟨[]⟩) h' else False
  | _ => False

def builtinP (P : Program) (b : Builtin) (ts : List TypeId) (args : List Value) (h : H) (K : Value → H → Prop) : Prop :=
  match b, ts, args with
  | .len, [t], [x] => lenP P t x h fun v => K v h
  | .append, [ts, tx], [s, x] => appendP P ts tx s x h K
  | .clear, [t], [x] => clearP P t x h K
  | .min, _, v :: r => foldI (fun a b => if b < a then b else a) v r fun v => K v h
  | .max, _, v :: r => foldI (fun a b => if a < b then b else a) v r fun v => K v h
  | _, _, _ => False

def nilP (x : Value) (K : Value → Prop) : Prop := ptrP x fun a => K (.pointer (some a))

def mkIfcP (P : Program) (t : TypeId) (x : Value) (K : Value → Prop) : Prop := match P.underlying t with
  | some (.interface _) => False
  | some _ => K (.iface t x)
  | none => False

def panP (x : Value) (X : Value → Prop) : Prop := match x with
  | .iface t v => X (.iface t v)
  | _ => False

def zipE (fr : Fr) : List (Nat × Operand) → Option (List (Nat × Value))
  | [] => some []
  | (i, x) :: r => match evalO fr x with
    | some v => match zipE fr r with
      | some vs => some ((i, v) :: vs)
      | none => none
    | none => none

def optE (fr : Fr) : Option Operand → Option (Option Value)
  | none => some none
  | some x => match evalO fr x with
    | some v => some (some v)
    | none => none

/-- What one operation comes to. -/
def opt (P : Program) (o : Oper) (fr : Fr) (h : H) (K : Value → H → Prop) (X : Value → H → Prop) : Prop :=
  match o.op with
  | .move x => on (evalO fr x) fun v => K v h
  | .assign x => on (evalO fr x) fun v => K v h
  | .pick c a b => on (evalO fr c) fun vc => boolP vc fun bc => ifP bc (on (evalO fr a) fun v => K v h) (on (evalO fr b) fun v => K v h)
  | .alloc e => allocP P e h K
  | .box e x => on (evalO fr x) fun v => boxP e v h K
  | .build t parts => on (zipE fr parts.toList) fun ps => buildP P t ps fun v => K v h
  | .buildSlice t n parts => on (zipE fr parts.toList) fun ps => buildSliceP P t n ps h K
  | .load t a => on (evalO fr a) fun va => loadP P t va h fun v => K v h
  | .store t a x => on (evalO fr a) fun va => on (evalO fr x) fun vx => storeP P t va vx h fun h' => K undef h'
  | .nilCheck x => on (evalO fr x) fun v => nilP v fun v => K v h
  | .binOp op t x y _ => on (evalO fr x) fun vx => on (evalO fr y) fun vy => binP P op t x y vx vy h fun v => K v h
  | .unOp op _ x => on (evalO fr x) fun v => unP P op v h fun v => K v h
  | .convert s d x => on (evalO fr x) fun v => convP P s d v h fun v => K v h
  | .makeInterface t x => on (evalO fr x) fun v => mkIfcP P t v fun v => K v h
  | .makeFunc fn first cap => on (evalL fr first.toList) fun vf => on (evalL fr cap.toList) fun vc => K (.func fn ⟨vf⟩ ⟨vc⟩) h
  | .makeSlice t l c => on (evalO fr l) fun vl => on (evalO fr c) fun vc => makeSliceP P t vl vc h K
  | .slice t x lo hi mx => on (evalO fr x) fun v => on (optE fr lo) fun lo => on (optE fr hi) fun hi => on (optE fr mx) fun mx => sliceP P t v lo hi mx h fun v => K v h
  | .fieldAddr t x f => on (evalO fr x) fun v => fieldAddrP P t v f fun v => K v h
  | .field t x f => on (evalO fr x) fun v => fieldP P t v f fun v => K v h
  | .indexAddr t x i => on (evalO fr x) fun v => on (evalO fr i) fun vi => idxAddrP P t v vi fun v => K v h
  | .index t x i => on (evalO fr x) fun v => on (evalO fr i) fun vi => indexP P t v vi h fun v => K v h
  | .extract x i => on (evalO fr x) fun v => tupP v fun vs => on (vs[i]?) fun v => K v h
  | .typeAssert x t a ok => on (evalO fr x) fun v => runP P h (Instr.typeAssert v t a ok) fun v => K v h
  | .call c => on (evalL fr c.args.toList) fun args => match c.callee with
    | .builtin b => builtinP P b c.argTypes.toList args h K
    | .value f => on (evalO fr f) fun vf => funP P vf args fun f args => TX P f args h (onRet P o.type K X)
    | .invoke r name => on (evalO fr r) fun vr => methP P h vr name fun f rv => T P f (rv :: args) h (onRet P o.type K X)
  | .panic x => on (evalO fr x) fun v => panP v fun v => X v h
  | _ => False

/-- What stood at a load's address stands there still. -/
def rdSame (P : Program) (o : Oper) (va : Option Value) (h h' : H) : Prop := match o.op with
  | .load t _ => match va with
    | some va => ptrP va fun a => ∀ i, i < P.cellsOf t + 1 → hcell h' (a.add i) = hcell h (a.add i)
    | none => True
  | _ => True

/-- The address that an operation loads from. -/
def ldAddr (fr : Fr) (o : Oper) : Option Value := match o.op with
  | .load _ a => evalO fr a
  | _ => none

def oblP (P : Program) (ops : List Oper) (h h' : H) : List (Nat × Option Value) → Prop → Prop
  | [], K => K
  | p :: r, K => on (ops[p.1]?) (fun o => rdSame P o p.2 h h') ∧ oblP P ops h h' r K

def gdP (ops : List Oper) (g : Option (Nat × Bool)) (fr : Fr) (A B : Fr → Prop) : Prop := match g with
  | none => A fr
  | some (j, want) => on (ops[j]?) fun oj => on oj.dst fun d => match Fr.get fr d with
    | some (.bool b) => match b with
      | true => bif want then A ((d, .bool true) :: fr) else B ((d, .bool true) :: fr)
      | false => bif want then B ((d, .bool false) :: fr) else A ((d, .bool false) :: fr)
    | some (.tuple _) => B fr
    | _ => False

def has (i : Nat) : List Nat → Bool
  | [] => false
  | j :: r => bif Nat.beq i j then true else has i r

def both (pd : List Nat) : List (Nat × Option Value) → List (Nat × Option Value)
  | [] => []
  | p :: r => bif has p.1 pd then p :: both pd r else both pd r

/-- The operations in this order; 'pd': the loads whose places an operation that acts must leave; 'ex': what has run. -/
def rpt (P : Program) (ops : List Oper) (pd : Nat → List Nat) : List (Nat × Option Value) → List Nat → Fr → H → (Fr → H → Prop) → (Value → H → Prop) → Prop
  | _, [], fr, h, K, X => K fr h
  | ex, i :: L, fr, h, K, X => on (ops[i]?) fun o => gdP ops o.guard fr
      (fun fr => opt P o fr h (fun v h' => oblP P ops h h' (both (pd i) ex) (rpt P ops pd ((i, ldAddr fr o) :: ex) L (Fr.put fr o.dst v) h' K X)) X)
      (fun fr => rpt P ops pd ((i, none) :: ex) L (Fr.put fr o.dst undef) h K X)

inductive Ex where
  | normal
  | exit (id : Nat)
  | ret
  | panic (v : Value)

structure RA where
  order : List Nat
  pd : Nat → List Nat

end Go.Proofs.YtjlojokockfapaaGreatDoor

namespace Go.Proofs.YtjlojokockfapaaGreatDoor
open Go
set_option linter.unusedVariables false
set_option linter.unusedSimpArgs false

def constNil : Operand → Bool
  | .const (.pointer none) => true
  | .const (.slice none _ _) => true
  | _ => false

/-- 0: looks at no memory; 1: a load; 5: reads in another way; 2: makes a block; 3: a store; 4: all else. -/
def clsOf (P : Program) (o : Oper) : Nat := match o.op with
  | .move _ | .assign _ | .pick .. | .build .. | .nilCheck _ | .makeInterface .. | .makeFunc .. | .fieldAddr .. | .field .. | .indexAddr .. | .extract .. => 0
  | .binOp _ t _ y _ => match P.underlying t with
    | some (.int _) | some .bool => 0
    | some (.pointer _) => match y with
      | .const (.pointer none) => 0
      | _ => 5
    | some (.slice _) => match y with
      | .const (.slice none _ _) => 0
      | _ => 5
    | _ => 5
  | .unOp op _ _ => match op with
    | .not => 0
    | _ => 5
  | .convert s d _ => match P.underlying s, P.underlying d with
    | some (.int _), some (.int _) => 0
    | _, _ => 5
  | .slice t _ _ _ mx => match P.underlying t with
    | some (.slice _) => match mx with
      | none => 0
      | some _ => 5
    | _ => 5
  | .index t _ _ => match P.underlying t with
    | some (.array _ _) => 0
    | _ => 5
  | .typeAssert .. => 5
  | .load .. => 1
  | .alloc _ | .box .. | .buildSlice .. | .makeSlice .. => 2
  | .store .. => 3
  | .call c => match c.callee with
    | .builtin .len => 0
    | .builtin .min => 0
    | .builtin .max => 0
    | _ => 4
  | _ => 4

def edgeBits (acc : List Nat) (es : List Edge) : Nat :=
  es.foldl (fun s e => bif Region.binds .any e then s ||| 2 ^ e.on ||| acc.getD e.on 0 else s) 0

def ancs : List Oper → List Nat → List Nat
  | [], acc => acc
  | o :: r, acc => ancs r (acc ++ [edgeBits acc o.after.toList])

def tmpsOf : List Operand → List Nat
  | [] => []
  | .tmp t :: r => t :: tmpsOf r
  | _ :: r => tmpsOf r

/-- The slots that an operation looks at. -/
def looks (ops : List Oper) (o : Oper) : List Nat := tmpsOf o.op.operands.toList ++ match o.guard with
  | some (j, _) => match ops[j]? with
    | some oj => match oj.dst with
      | some d => [d]
      | none => []
    | none => []
  | none => []

def dstIn (d : Option Nat) (l : List Nat) : Bool := match d with
  | some d => has d l
  | none => false

def apartB (ops : List Oper) (x y : Oper) : Bool :=
  !dstIn x.dst (looks ops y) && !dstIn y.dst (looks ops x) && (match x.dst, y.dst with
    | some d, some e => !Nat.beq d e
    | _, _ => true)

/-- A plain new variable. -/
def allocB (P : Program) (o : Oper) : Bool := match o.op with
  | .alloc e => (zeroOf P e).isSome && o.guard.isNone
  | _ => false

/-- An append. -/
def appB (o : Oper) : Bool := match o.op with
  | .call c => match c.callee with
    | .builtin .append => true
    | _ => false
  | _ => false

/-- May 'x', which stands behind 'l' in our order, come ahead of it? -/
def okPair (P : Program) (ops : List Oper) (pd : Nat → List Nat) (l x : Nat) : Bool := match ops[l]?, ops[x]? with
  | some ol, some ox => apartB ops ol ox && ((pd l).isEmpty || Nat.beq (clsOf P ol) 3 || Nat.beq (clsOf P ol) 4) && ((pd x).isEmpty || Nat.beq (clsOf P ox) 3 || Nat.beq (clsOf P ox) 4) && (match clsOf P ol, clsOf P ox with
    | 0, _ => true
    | 1, 3 => has l (pd x)
    | 1, 4 => has l (pd x)
    | 1, 0 => true
    | 1, 1 => true
    | 1, 5 => true
    | 1, 2 => true
    | 5, 0 => true
    | 5, 1 => true
    | 5, 5 => true
    | 5, 2 => true
    | 2, 2 => ox.guard.isNone
    | 3, 2 => ox.guard.isNone
    | 4, 2 => allocB P ox || (appB ol && ox.guard.isNone)
    | _, _ => false)
  | _, _ => false

def pairsOK (P : Program) (ops : List Oper) (pd : Nat → List Nat) (as : List Nat) : List Nat → Bool
  | [] => true
  | l :: r => r.all (fun x => !(as.getD l 0).testBit x && ((as.getD x 0).testBit l || okPair P ops pd l x)) && pairsOK P ops pd as r

def dstsOK (n : Nat) : List Oper → Bool
  | [] => true
  | o :: r => (match o.dst with
    | some d => Nat.blt d n
    | none => true) && dstsOK n r

def nodupB : List Nat → Bool
  | [] => true
  | i :: r => !has i r && nodupB r

def permOK (m : Nat) (order : List Nat) : Bool := nodupB order && order.all (fun i => Nat.blt i m) && (List.range m).all fun i => has i order

def isRange : Nat → List Nat → Bool
  | _, [] => true
  | i, j :: r => Nat.beq i j && isRange (i + 1) r

/-- Each edge that binds leads back. -/
def edgesOK : Nat → List Oper → Bool
  | _, [] => true
  | i, o :: r => o.after.toList.all (fun e => !Region.binds .any e || Nat.blt e.on i) && edgesOK (i + 1) r

def regOK (P : Program) (ops : List Oper) (ra : RA) (draw : Bool) (n : Nat) : Bool :=
  dstsOK n ops && Nat.beq ra.order.length ops.length && (bif draw then
    permOK ops.length ra.order && edgesOK 0 ops && P.follows .mixedOrders && pairsOK P ops ra.pd (ancs ops []) ra.order
  else isRange 0 ra.order)

/-- Kinds of slots at a head of a loop, or where ways meet. -/
inductive SK where
  | int (k : IntKind)
  | bool
  | val

@[reducible] def SK.ty : SK → Type
  | .int _ => Int
  | .bool => Bool
  | .val => Value

@[reducible] def SKs : List (Nat × SK) → Type
  | [] => Unit
  | p :: r => p.2.ty × SKs r

@[reducible] def encK : (k : SK) → k.ty → Value
  | .int k, x => .int k x
  | .bool, b => .bool b
  | .val, v => v

def decK : (k : SK) → Value → (k.ty → Prop) → Prop
  | .int k, v, K => match v with
    | .int k' x => bif sameK k k' then K x else False
    | _ => False
  | .bool, v, K => match v with
    | .bool b => K b
    | _ => False
  | .val, v, K => K v

def encL : (L : List (Nat × SK)) → SKs L → Fr
  | [], _ => []
  | p :: r, s => (p.1, encK p.2 s.1) :: encL r s.2

def decL (fr : Fr) : (L : List (Nat × SK)) → (SKs L → Prop) → Prop
  | [], K => K ()
  | p :: r, K => on (Fr.get fr p.1) fun v => decK p.2 v fun x => decL fr r fun xs => K (x, xs)

def allL : (L : List (Nat × SK)) → (SKs L → Prop) → Prop
  | [], P => P ()
  | p :: r, P => ∀ x : p.2.ty, allL r fun xs => P (x, xs)

/-- The first region of a piece of code. -/
def firstReg : Code → Nat
  | .region id _ _ => id
  | .seq a b => match a with
    | .label _ => firstReg b
    | a => firstReg a
  | .block _ c => firstReg c
  | .loop c => firstReg c
  | .scope c => firstReg c
  | _ => 0

def dstsOf : List Oper → List Nat
  | [] => []
  | o :: r => match o.dst with
    | some d => d :: dstsOf r
    | none => dstsOf r

/-- The slots that a piece of code may write. -/
def writesOf : Code → List Nat
  | .region _ ops _ => dstsOf ops.toList
  | .seq a b => writesOf a ++ writesOf b
  | .cond _ a b => writesOf a ++ writesOf b
  | .block _ c => writesOf c
  | .loop c => writesOf c
  | .scope c => writesOf c
  | _ => []

/-- What is known of the other slots. -/
def Fr.drop (W : List Nat) : Fr → Fr
  | [] => []
  | p :: r => bif has p.1 W then Fr.drop W r else p :: Fr.drop W r

/-- In which order each region is read; which slots count at each loop's head; which count where a sequence is cut. -/
structure An where
  ra : Nat → RA
  lp : Nat → List (Nat × SK)
  ct : Nat → Option (List (Nat × SK))

def loopP (W : List Nat) (L : List (Nat × SK)) (body : Fr → H → (Ex → Fr → H → Prop) → Prop) (fr : Fr) (h : H) (Q : Ex → Fr → H → Prop) : Prop :=
  decL fr L fun s0 => ∃ (I : SKs L → H → Prop) (r : SKs L × H → SKs L × H → Prop), WellFounded r ∧ I s0 h ∧
    allL L fun s => ∀ h, I s h → body (encL L s ++ Fr.drop W fr) h fun e fr' h' => match e with
      | .normal => decL fr' L fun s' => I s' h' ∧ r (s', h') (s, h)
      | e => Q e fr' h'

def cutP (W : List Nat) (L : List (Nat × SK)) (x y : Fr → H → (Ex → Fr → H → Prop) → Prop) (fr : Fr) (h : H) (Q : Ex → Fr → H → Prop) : Prop :=
  ∃ J : SKs L → H → Prop, (x fr h fun e fr' h' => match e with
    | .normal => decL fr' L fun s => J s h'
    | e => Q e fr' h') ∧ allL L fun s => ∀ h, J s h → y (encL L s ++ Fr.drop W fr) h Q

/-- 'n': how many slots there are. -/
def cpt (P : Program) (n : Nat) (A : An) : Code → Fr → H → (Ex → Fr → H → Prop) → Prop
  | .skip, fr, h, Q => Q .normal fr h
  | .label _, fr, h, Q => Q .normal fr h
  | .region id ops draw, fr, h, Q => bif regOK P ops.toList (A.ra id) draw n then
      rpt P ops.toList (A.ra id).pd [] (A.ra id).order fr h (fun fr h => Q .normal fr h) (fun v h => Q (.panic v) [] h)
    else False
  | .seq a b, fr, h, Q => match A.ct (firstReg b) with
    | none => cpt P n A a fr h fun e fr h => match e with
      | .normal => cpt P n A b fr h Q
      | e => Q e fr h
    | some L => cutP (writesOf a) L (cpt P n A a) (cpt P n A b) fr h Q
  | .cond c x y, fr, h, Q => on (evalO fr c) fun v => boolP v fun b => ifP b (cpt P n A x fr h Q) (cpt P n A y fr h Q)
  | .block id c, fr, h, Q => cpt P n A c fr h fun e fr h => match e with
    | .exit i => bif Nat.beq i id then Q .normal fr h else Q (.exit i) fr h
    | e => Q e fr h
  | .loop c, fr, h, Q => loopP (writesOf c) (A.lp (firstReg c)) (cpt P n A c) fr h Q
  | .exit id, fr, h, Q => Q (.exit id) fr h
  | .scope c, fr, h, Q => cpt P n A c fr h Q
  | .ret, fr, h, Q => Q .ret fr h
  | _, _, _, _ => False

def resL (P : Program) (fr : Fr) (h : H) : List ResultVar → (List Value → Prop) → Prop
  | [], K => K []
  | .tmp t :: r, K => on (Fr.get fr t) fun v => resL P fr h r fun vs => K (v :: vs)
  | .cell a t :: r, K => on (Fr.get fr a) fun va => loadP P t va h fun v => resL P fr h r fun vs => K (v :: vs)

def resP (P : Program) (fr : Fr) (h : H) (rs : List ResultVar) (K : Value → Prop) : Prop := resL P fr h rs fun vs => match vs with
  | [v] => K v
  | vs => K (.tuple ⟨vs⟩)

/-- What stands behind the body. -/
def endP (P : Program) (rs : List ResultVar) (R : Res → H → Prop) (e : Ex) (fr : Fr) (h : H) : Prop := match e with
  | .normal => resP P fr h rs fun v => R (.ret v) h
  | .ret => resP P fr h rs fun v => R (.ret v) h
  | .panic v => R (.pan v) h
  | .exit _ => False

def fr0 : Nat → List Value → Fr
  | _, [] => []
  | i, v :: r => (i, v) :: fr0 (i + 1) r

end Go.Proofs.YtjlojokockfapaaGreatDoor

namespace Go.Proofs.YtjlojokockfapaaGreatDoor
open Go
set_option linter.unusedVariables false
set_option linter.unusedSimpArgs false

theorem hcell_sub {h : H} {w : World} (hs : Sub h w) {a : Addr} {v : Value} (hc : hcell h a = some v) : w.cell? a = some v := by
  unfold hcell at hc
  split at hc
  · rename_i c e f hb
    have := hs _ _ hb
    unfold World.cell?
    rw [this]; exact hc
  · cases hc

theorem add_zero' (a : Addr) : a.add 0 = a := by simp [Addr.add]

theorem hcells_sub {h : H} {w : World} (hs : Sub h w) {a : Addr} {vs : List Value} (hc : hcells h a vs) :
    ∀ j v, vs[j]? = some v → w.cell? (a.add j) = some v := fun j v hj => hcell_sub hs (hc j v hj)

theorem Sub.fresh {h : H} {w : World} (hs : Sub h w) : h w.heap.size = none := by
  cases hb : h w.heap.size with
  | none => rfl
  | some o => have := hs _ _ hb; simp at this

theorem Sub.put {h : H} {w : World} (hs : Sub h w) (o : Obj) : Sub (hput h w.heap.size o) { w with heap := w.heap.push o } := by
  intro b o' hb
  unfold hput at hb
  split at hb
  · rename_i e; subst e; cases hb; simp
  · rename_i e
    have := hs _ _ hb
    have hlt : b < w.heap.size := by
      rcases Nat.lt_or_ge b w.heap.size with h1 | h1
      · exact h1
      · rw [Array.getElem?_eq_none h1] at this; cases this
    show (w.heap.push o)[b]? = _
    rw [Array.getElem?_push, if_neg (by omega)]; exact this

theorem Sub.put_stp {h : H} {w : World} (hs : Sub h w) (o : Obj) : Stp h w (hput h w.heap.size o) { w with heap := w.heap.push o } :=
  ⟨⟨rfl, rfl, rfl⟩, by simp, fun b hb hn => ⟨by show (w.heap.push o)[b]? = _; rw [Array.getElem?_push, if_neg (by omega)], by unfold hput; rw [if_neg (by omega)]; exact hn⟩⟩

theorem setR_eq (c : Array Value) : ∀ (vs : List Value) (o : Nat) (c : Array Value), o + vs.length ≤ c.size →
    setR c o vs = (c.toList.take o ++ vs ++ c.toList.drop (o + vs.length)).toArray := by
  intro vs
  induction vs with
  | nil => intro o c _; simp [setR]
  | cons v rest ih =>
    intro o c hl
    simp only [List.length_cons] at hl
    rw [setR, ih (o + 1) (c.setIfInBounds o v) (by simp; omega)]
    congr 1
    have e := list_seg_step c.toList o v rest (by simp; omega)
    simpa [Array.toList_setIfInBounds] using e

theorem setRow_heap_other (w : World) (g : Nat) (c : Array Value) (k : Nat) (hk : k ≠ g) : (w.setRow g c).heap[k]? = w.heap[k]? := by
  simp only [World.setRow, Array.getElem?_modify]
  rw [if_neg (by omega)]

theorem hset_sub {P : Program} {h : H} {w : World} (hs : Sub h w) {a : Addr} {vs : List Value} (hw : hwr h a vs.length) (h1 : ∀ v ∈ vs, v.oneCell' = true) :
    ∃ w', (storeCells a vs).run P w = .ok () w' ∧ Sub (hset h a vs) w' ∧ Stp h w (hset h a vs) w' := by
  obtain ⟨c, e, hb, hsp, hl⟩ := hw
  obtain ⟨b, o, s⟩ := a
  simp only at hb hsp hl; subst hsp
  have hg := hs _ _ hb
  refine ⟨_, run_storeCells_at P b o e vs 0 c w hg (by simpa using hl) h1, ?_, ⟨⟨rfl, rfl, rfl⟩, by simp [World.setRow], fun k hk hn => ?_⟩⟩
  rotate_left
  · have hne : k ≠ b := fun e => by rw [e, hb] at hn; cases hn
    exact ⟨setRow_heap_other _ _ _ _ hne, by unfold hset; simp only; rw [if_neg hne]; exact hn⟩
  intro k ob hk
  unfold hset at hk
  simp only at hk
  split at hk
  · rename_i e'; subst e'
    rw [hb] at hk; simp only [Option.map_some, Option.some.injEq] at hk; subst hk
    rw [setRow_heap w _ c _ e _ hg]
    rw [setR_eq c vs o c hl]; simp
  · rename_i e'
    rw [setRow_heap_other _ _ _ _ e']
    exact hs _ _ hk

theorem cellsV_eq (v : Value) : (⟨cellsV v⟩ : Array Value) = v.cells := by
  unfold cellsV Value.cells
  split
  · rfl
  · split
    · rename_i cs h; exact absurd rfl (h cs.toList)
    · rfl

theorem zeroOf_spec {P : Program} {t : TypeId} {z : List Value} (hz : zeroOf P t = some z) :
    ∃ i v, P.info? t = some i ∧ i.zero = some v ∧ v.cells = ⟨z⟩ ∧ P.cellsOf t = i.size := by
  unfold zeroOf at hz
  cases hi : P.info? t with
  | none => simp [hi] at hz
  | some i =>
    simp only [hi] at hz
    cases hv : i.zero with
    | none => simp [hv] at hz
    | some v =>
      refine ⟨i, v, rfl, hv, ?_, by simp [Program.cellsOf, hi]⟩
      simp only [hv] at hz
      rw [← cellsV_eq]; unfold cellsV
      split at hz
      · cases hz; rename_i h; cases h; rfl
      · rename_i h1 h; cases h; cases hz
        split
        · rename_i cs; exact absurd rfl (h1 cs)
        · rfl
      · rename_i h; cases h

theorem run_zeroValue' {P : Program} {t : TypeId} {i : TypeInfo} {v : Value} (hi : P.info? t = some i) (hz : i.zero = some v) (w : World) :
    (zeroValue t).run P w = .ok v w := by simp [zeroValue, typeInfo, hi, hz]

theorem info_of_underlying {P : Program} {t : TypeId} {d : TypeDesc} (h : P.underlying t = some d) : ∃ i, P.info? t = some i := by
  unfold Program.underlying at h
  split at h
  · rename_i hi; exact ⟨_, hi⟩
  · rename_i i _ hi; exact ⟨i, hi⟩
  · cases h

theorem run_sizeOf' {P : Program} {t : TypeId} {d : TypeDesc} (h : P.underlying t = some d) (w : World) : (sizeOf t).run P w = .ok (P.cellsOf t) w := by
  obtain ⟨i, hi⟩ := info_of_underlying h
  simp [sizeOf, typeInfo, hi, Program.cellsOf]

def isAggD : TypeDesc → Bool
  | .struct _ => true
  | .array _ _ => true
  | _ => false

theorem run_isAgg' {P : Program} {t : TypeId} {d : TypeDesc} (h : P.underlying t = some d) (w : World) :
    (isAgg t).run P w = .ok (isAggD d) w := by
  simp only [isAgg, Sem.run_bind, run_underlying h, Result.andThen_ok]
  cases d <;> rfl

theorem run_load' {P : Program} {h : H} {w : World} (hs : Sub h w) {a : Addr} {v : Value} (hc : hcell h a = some v) : (load a).run P w = .ok v w := by
  rw [run_load, hcell_sub hs hc]

/-- a load comes to what 'loadP' says -/
theorem loadP_run {P : Program} {t : TypeId} {v : Value} {h : H} {K : Value → Prop} (hl : loadP P t v h K) :
    ∃ r, K r ∧ ∀ w, Sub h w → (Instr.loadAt t v).run P w = .ok r w := by
  unfold loadP ptrP at hl
  split at hl
  case h_2 => exact hl.elim
  case h_1 a =>
  cases hu : P.underlying t with
  | none => simp [hu] at hl
  | some d =>
    simp only [hu] at hl
    have key : ∀ r, hcell h a = some r → isAggD d = false → K r →
        ∃ r, K r ∧ ∀ w, Sub h w → (Instr.loadAt t (.pointer (some a))).run P w = .ok r w := fun r hc hd hk =>
      ⟨r, hk, fun w hs => by have hx := run_load' (P := P) hs hc; simp only [Instr.loadAt, Instr.sureAddr, loadVar, pure_bind, Sem.run_bind, run_isAgg' hu, Result.andThen_ok, hd, Bool.false_eq_true, if_false, hx]⟩
    have keyN : (∃ vs : List Value, vs.length = P.cellsOf t ∧ hcells h a vs ∧ K (.agg ⟨vs⟩)) → isAggD d = true →
        ∃ r, K r ∧ ∀ w, Sub h w → (Instr.loadAt t (.pointer (some a))).run P w = .ok r w := by
      rintro ⟨vs, hn, hc, hk⟩ hd
      refine ⟨_, hk, fun w hs => ?_⟩
      have hl := run_loadCells_list (P := P) w a vs (hcells_sub hs hc)
      rw [hn] at hl
      simp [Instr.loadAt, Instr.sureAddr, loadVar, run_isAgg' hu, hd, run_sizeOf' hu, hl]
    cases d <;> simp only at hl <;> first
      | (obtain ⟨n, hc, hk⟩ := hl; exact key _ hc rfl hk)
      | (exact keyN hl rfl)

theorem oneP_spec {v : Value} {K : Prop} (h : oneP v K) : v.oneCell' = true ∧ K := by
  unfold oneP at h
  split at h
  · exact h.elim
  · exact h.elim
  · rename_i h1 h2
    refine ⟨?_, h⟩
    unfold Value.oneCell'
    split
    · rename_i c; exact absurd rfl (h1 c)
    · rename_i c; exact absurd rfl (h2 c)
    · rfl

theorem aggP_spec {v : Value} {K : List Value → Prop} (h : aggP v K) : ∃ cs, v = .agg ⟨cs⟩ ∧ K cs := by
  unfold aggP at h
  split at h
  · exact ⟨_, rfl, h⟩
  · exact h.elim

theorem tupP_spec {v : Value} {K : List Value → Prop} (h : tupP v K) : ∃ cs, v = .tuple ⟨cs⟩ ∧ K cs := by
  unfold tupP at h
  split at h
  · exact ⟨_, rfl, h⟩
  · exact h.elim

theorem ptrP_spec {v : Value} {K : Addr → Prop} (h : ptrP v K) : ∃ a, v = .pointer (some a) ∧ K a := by
  unfold ptrP at h
  split at h
  · exact ⟨_, rfl, h⟩
  · exact h.elim

theorem ptrO_spec {v : Value} {K : Option Addr → Prop} (h : ptrO v K) : ∃ a, v = .pointer a ∧ K a := by
  unfold ptrO at h
  split at h
  · exact ⟨_, rfl, h⟩
  · exact h.elim

theorem slcP_spec {v : Value} {K : Option Addr → Nat → Nat → Prop} (h : slcP v K) : ∃ a l c, v = .slice a l c ∧ K a l c := by
  unfold slcP at h
  split at h
  · exact ⟨_, _, _, rfl, h⟩
  · exact h.elim

theorem intP_spec {v : Value} {K : Int → Prop} (h : intP v K) : ∃ k n, v = .int k n ∧ K n := by
  unfold intP at h
  split at h
  · exact ⟨_, _, rfl, h⟩
  · exact h.elim

theorem boolP_spec {v : Value} {K : Bool → Prop} (h : boolP v K) : ∃ b, v = .bool b ∧ K b := by
  unfold boolP at h
  split at h
  · exact ⟨_, rfl, h⟩
  · exact h.elim

theorem on_spec {α : Type} {o : Option α} {K : α → Prop} (h : on o K) : ∃ a, o = some a ∧ K a := by
  unfold on at h
  split at h
  · exact ⟨_, rfl, h⟩
  · exact h.elim

theorem cells_one {v : Value} (h : v.oneCell' = true) : v.cells = #[v] := by
  cases v <;> first | rfl | (simp [Value.oneCell'] at h)

theorem storeP_run {P : Program} {t : TypeId} {av v : Value} {h : H} {K : H → Prop} (hl : storeP P t av v h K) :
    ∃ h', K h' ∧ ∀ w, Sub h w → ∃ w', (Instr.storeAt t av v).run P w = .ok () w' ∧ Sub h' w' ∧ Stp h w h' w' := by
  unfold storeP at hl
  obtain ⟨a, e, hl'⟩ := ptrP_spec hl
  subst e; clear hl; rename _ => hl
  cases hu : P.underlying t with
  | none => simp [hu] at hl
  | some d =>
    simp only [hu] at hl
    have keyN : (aggP v fun vs => stN h a vs (P.cellsOf t) K) →
        ∃ h', K h' ∧ ∀ w, Sub h w → ∃ w', (Instr.storeAt t (.pointer (some a)) v).run P w = .ok () w' ∧ Sub h' w' ∧ Stp h w h' w' := by
      intro hl
      obtain ⟨vs, rfl, hn, h1, hw, hk⟩ := aggP_spec hl
      refine ⟨_, hk, fun w hs => ?_⟩
      obtain ⟨w', hr, hs', hm⟩ := hset_sub (P := P) hs (a := a) (vs := vs) (by rw [hn]; exact hw) h1
      refine ⟨w', ?_, hs', hm⟩
      simp [Instr.storeAt, Instr.sureAddr, storeVar, Value.cells, run_sizeOf' hu, hn, hr]
    have key : (bif Nat.beq (P.cellsOf t) 1 then oneP v (stC h a v K) else False) →
        ∃ h', K h' ∧ ∀ w, Sub h w → ∃ w', (Instr.storeAt t (.pointer (some a)) v).run P w = .ok () w' ∧ Sub h' w' ∧ Stp h w h' w' := by
      intro hl
      cases hb : Nat.beq (P.cellsOf t) 1 with
      | false => simp [hb] at hl
      | true =>
        simp only [hb, cond_true] at hl
        obtain ⟨h1, hw, hk⟩ := oneP_spec hl
        refine ⟨_, hk, fun w hs => ?_⟩
        obtain ⟨w', hr, hs', hm⟩ := hset_sub (P := P) hs (a := a) (vs := [v]) hw (by simpa using h1)
        refine ⟨w', ?_, hs', hm⟩
        have hc : P.cellsOf t = 1 := Nat.eq_of_beq_eq_true hb
        simp [Instr.storeAt, Instr.sureAddr, storeVar, cells_one h1, run_sizeOf' hu, hc, hr]
    cases d <;> simp only at hl <;> first
      | (exact keyN hl)
      | (exact key hl)

end Go.Proofs.YtjlojokockfapaaGreatDoor

namespace Go.Proofs.YtjlojokockfapaaGreatDoor
open Go
set_option linter.unusedVariables false
set_option linter.unusedSimpArgs false

def FrOK (fr : Fr) (a : Act) : Prop := ∀ t v, Fr.get fr t = some v → a.tmps[t]? = some v

theorem FrOK.nil (a : Act) : FrOK [] a := fun t v h => by simp [Fr.get] at h

theorem FrOK.evalO {fr : Fr} {a : Act} (hf : FrOK fr a) {x : Operand} {v : Value} (h : evalO fr x = some v) : a.eval x = v := by
  cases x with
  | tmp t => have := hf t v h; simp [Act.eval, this]
  | const u => simpa [Go.Proofs.YtjlojokockfapaaGreatDoor.evalO, Act.eval] using h
  | global g => simpa [Go.Proofs.YtjlojokockfapaaGreatDoor.evalO, Act.eval] using h
  | func f => simpa [Go.Proofs.YtjlojokockfapaaGreatDoor.evalO, Act.eval] using h

theorem FrOK.evalL {fr : Fr} {a : Act} (hf : FrOK fr a) : ∀ {l : List Operand} {vs : List Value}, evalL fr l = some vs → l.map a.eval = vs := by
  intro l
  induction l with
  | nil => intro vs h; simp [Go.Proofs.YtjlojokockfapaaGreatDoor.evalL] at h; simp [h]
  | cons x r ih =>
    intro vs h
    simp only [Go.Proofs.YtjlojokockfapaaGreatDoor.evalL] at h
    cases hx : Go.Proofs.YtjlojokockfapaaGreatDoor.evalO fr x with
    | none => simp [hx] at h
    | some v =>
      cases hr : Go.Proofs.YtjlojokockfapaaGreatDoor.evalL fr r with
      | none => simp [hx, hr] at h
      | some us =>
        simp only [hx, hr, Option.some.injEq] at h
        subst h
        simp [hf.evalO hx, ih hr]

theorem FrOK.zipE {fr : Fr} {a : Act} (hf : FrOK fr a) : ∀ {l : List (Nat × Operand)} {vs : List (Nat × Value)}, zipE fr l = some vs → l.map (fun p => (p.1, a.eval p.2)) = vs := by
  intro l
  induction l with
  | nil => intro vs h; simp [Go.Proofs.YtjlojokockfapaaGreatDoor.zipE] at h; simp [h]
  | cons x r ih =>
    intro vs h
    obtain ⟨i, x⟩ := x
    simp only [Go.Proofs.YtjlojokockfapaaGreatDoor.zipE] at h
    cases hx : Go.Proofs.YtjlojokockfapaaGreatDoor.evalO fr x with
    | none => simp [hx] at h
    | some v =>
      cases hr : Go.Proofs.YtjlojokockfapaaGreatDoor.zipE fr r with
      | none => simp [hx, hr] at h
      | some us =>
        simp only [hx, hr, Option.some.injEq] at h
        subst h
        simp [hf.evalO hx, ih hr]

theorem FrOK.optE {fr : Fr} {a : Act} (hf : FrOK fr a) {o : Option Operand} {v : Option Value} (h : optE fr o = some v) : o.map a.eval = v := by
  cases o with
  | none => simpa [Go.Proofs.YtjlojokockfapaaGreatDoor.optE] using h
  | some x =>
    simp only [Go.Proofs.YtjlojokockfapaaGreatDoor.optE] at h
    cases hx : Go.Proofs.YtjlojokockfapaaGreatDoor.evalO fr x with
    | none => simp [hx] at h
    | some u => simp only [hx, Option.some.injEq] at h; subst h; simp [hf.evalO hx]

/-- A new block. -/
theorem newP_run {P : Program} {h : H} {o : Obj} {K : Nat → H → Prop} (hn : newP h o K) (w : World) (hs : Sub h w) :
    K w.heap.size (hput h w.heap.size o) ∧ Sub (hput h w.heap.size o) { w with heap := w.heap.push o } := ⟨hn _ hs.fresh, hs.put o⟩

theorem sameK_spec {k k' : IntKind} (h : sameK k k' = true) : k = k' := by cases k <;> cases k' <;> first | rfl | cases h

theorem run_intBits (P : Program) (w : World) (op : BinOp) (k : IntKind) (a b : Int) (h : op = .and ∨ op = .or ∨ op = .xor ∨ op = .andNot) :
    (Op.intBits op k a b).run P w = .ok (.int k (bitsI op k a b)) w := by
  rcases h with rfl | rfl | rfl | rfl <;> rfl

theorem intBin_run {P : Program} {op : BinOp} {k k' : IntKind} {a b : Int} {K : Value → Prop} (hk : (sameK k k' || isShift op) = true) (h : intBin op k a b K) :
    ∃ r, K r ∧ ∀ w t, (binOp op t (.int k a) (.int k' b)).run P w = .ok r w := by
  have hne : isShift op = false → ¬ k ≠ k' := fun hs => by rw [hs, Bool.or_false] at hk; simp [sameK_spec hk]
  cases op <;> simp only [intBin] at h
  case quo => exact ⟨_, h.2, fun w t => by simp [binOp, hne rfl, Op.intDiv, h.1]⟩
  case rem => exact ⟨_, h.2, fun w t => by simp [binOp, hne rfl, Op.intDiv, h.1]⟩
  case and => exact ⟨_, h, fun w t => by simp only [binOp, hne rfl, if_false]; exact run_intBits P w _ _ _ _ (by simp)⟩
  case or => exact ⟨_, h, fun w t => by simp only [binOp, hne rfl, if_false]; exact run_intBits P w _ _ _ _ (by simp)⟩
  case xor => exact ⟨_, h, fun w t => by simp only [binOp, hne rfl, if_false]; exact run_intBits P w _ _ _ _ (by simp)⟩
  case andNot => exact ⟨_, h, fun w t => by simp only [binOp, hne rfl, if_false]; exact run_intBits P w _ _ _ _ (by simp)⟩
  case shl => exact ⟨_, h.2, fun w t => by have h0 := h.1; simp [binOp, Op.shift, show ¬ b < 0 by omega]⟩
  case shr => exact ⟨_, h.2, fun w t => by have h0 := h.1; simp [binOp, Op.shift, show ¬ b < 0 by omega]⟩
  case neq => exact ⟨_, h, fun w t => by
    simp only [binOp, hne rfl, if_false, Op.intCmp, Sem.run_pure, bne]
    by_cases e : a = b <;> simp [e]⟩
  case eql => exact ⟨_, h, fun w t => by
    simp only [binOp, hne rfl, if_false, Op.intCmp, Sem.run_pure]
    by_cases e : a = b <;> simp [e]⟩
  all_goals exact ⟨_, h, fun w t => by simp [binOp, hne rfl, Op.intArith, Op.intCmp]⟩

theorem run_eqGuard_int {P : Program} (w : World) (op : BinOp) (t : TypeId) (x y : Operand) (k k' : IntKind) (a b : Int) :
    (eqGuard op t x y (.int k a) (.int k' b)).run P w = .ok () w := by
  unfold eqGuard; cases op <;> simp

theorem run_eqGuard_bool {P : Program} (w : World) (op : BinOp) (t : TypeId) (x y : Operand) (a b : Bool) :
    (eqGuard op t x y (.bool a) (.bool b)).run P w = .ok () w := by
  unfold eqGuard; cases op <;> simp

theorem run_eqGuard_ptr {P : Program} (w : World) (op : BinOp) (t : TypeId) (x y : Operand) (a b : Option Addr) :
    (eqGuard op t x y (.pointer a) (.pointer b)).run P w = .ok () w := by
  unfold eqGuard; cases op <;> simp

theorem run_eqGuard_slc {P : Program} (w : World) (op : BinOp) (t : TypeId) (x y : Operand) (a b : Option Addr) (l c m d : Nat) :
    (eqGuard op t x y (.slice a l c) (.slice b m d)).run P w = .ok () w := by
  unfold eqGuard; cases op <;> simp

theorem run_eqIn_bool {P : Program} {t : TypeId} (hu : P.underlying t = some .bool) (d : Nat) (a b : Bool) (w : World) :
    (Op.equalIn (d + 1) t (.bool a) (.bool b)).run P w = .ok (a == b) w := by simp [Op.equalIn, run_underlying hu]
theorem run_equal_bool {P : Program} {t : TypeId} (hu : P.underlying t = some .bool) (a b : Bool) (w : World) :
    (Op.equal t (.bool a) (.bool b)).run P w = .ok (a == b) w := run_eqIn_bool hu 9999 a b w
theorem run_eqIn_ptr {P : Program} {t e : TypeId} (hu : P.underlying t = some (.pointer e)) (d : Nat) (a : Option Addr) (w : World) :
    (Op.equalIn (d + 1) t (.pointer a) (.pointer none)).run P w = .ok a.isNone w := by cases a <;> simp [Op.equalIn, run_underlying hu]
theorem run_equal_ptr {P : Program} {t e : TypeId} (hu : P.underlying t = some (.pointer e)) (a : Option Addr) (w : World) :
    (Op.equal t (.pointer a) (.pointer none)).run P w = .ok a.isNone w := run_eqIn_ptr hu 9999 a w
theorem run_eqIn_slc {P : Program} {t e : TypeId} (hu : P.underlying t = some (.slice e)) (d : Nat) (a : Option Addr) (l c m n : Nat) (w : World) :
    (Op.equalIn (d + 1) t (.slice a l c) (.slice none m n)).run P w = .ok a.isNone w := by cases a <;> simp [Op.equalIn, run_underlying hu]
theorem run_equal_slc {P : Program} {t e : TypeId} (hu : P.underlying t = some (.slice e)) (a : Option Addr) (l c m n : Nat) (w : World) :
    (Op.equal t (.slice a l c) (.slice none m n)).run P w = .ok a.isNone w := run_eqIn_slc hu 9999 a l c m n w

theorem binP_run {P : Program} {op : BinOp} {t : TypeId} {ox oy : Operand} {x y : Value} {h : H} {K : Value → Prop} (hb : binP P op t ox oy x y h K) :
    ∃ r, K r ∧ ∀ w, Sub h w → (do eqGuard op t ox oy x y; binOp op t x y : Sem Value).run P w = .ok r w := by
  unfold binP at hb
  have gen : (runP P h (do eqGuard op t ox oy x y; binOp op t x y) K) → ∃ r, K r ∧ ∀ w, Sub h w → (do eqGuard op t ox oy x y; binOp op t x y : Sem Value).run P w = .ok r w :=
    fun ⟨r, hr, hk⟩ => ⟨r, hk, hr⟩
  split at hb
  · split at hb
    · rename_i k a k' b
      cases hc : (sameK k k' || isShift op) with
      | false => simp [hc] at hb
      | true =>
        simp only [hc, cond_true] at hb
        obtain ⟨r, hk, hr⟩ := intBin_run (P := P) hc hb
        exact ⟨r, hk, fun w _ => by simp [run_eqGuard_int, hr]⟩
    · exact hb.elim
  · rename_i hu
    split at hb
    · rename_i a b
      split at hb
      · refine ⟨_, hb, fun w _ => ?_⟩
        simp only [Sem.run_bind, run_eqGuard_bool, Result.andThen_ok, binOp, run_equal_bool hu, Sem.run_pure]
      · refine ⟨_, hb, fun w _ => ?_⟩
        simp only [Sem.run_bind, run_eqGuard_bool, Result.andThen_ok, binOp, run_equal_bool hu, Sem.run_pure]
      · exact hb.elim
    · exact hb.elim
  · rename_i e hu
    split at hb
    · obtain ⟨q, rfl, hb2⟩ := ptrO_spec hb
      clear hb
      cases op <;> simp only [isEq, cond_true, cond_false, negIf] at hb2
      case eql =>
        refine ⟨_, hb2, fun w _ => ?_⟩
        simp only [Sem.run_bind, run_eqGuard_ptr, Result.andThen_ok, binOp, run_equal_ptr hu, Sem.run_pure]
      case neq =>
        refine ⟨_, hb2, fun w _ => ?_⟩
        simp only [Sem.run_bind, run_eqGuard_ptr, Result.andThen_ok, binOp, run_equal_ptr hu, Sem.run_pure]
    · exact gen hb
  · rename_i e hu
    split at hb
    · obtain ⟨q, l, c, rfl, hb2⟩ := slcP_spec hb
      clear hb
      cases op <;> simp only [isEq, cond_true, cond_false, negIf] at hb2
      case eql =>
        refine ⟨_, hb2, fun w _ => ?_⟩
        simp only [Sem.run_bind, run_eqGuard_slc, Result.andThen_ok, binOp, run_equal_slc hu, Sem.run_pure]
      case neq =>
        refine ⟨_, hb2, fun w _ => ?_⟩
        simp only [Sem.run_bind, run_eqGuard_slc, Result.andThen_ok, binOp, run_equal_slc hu, Sem.run_pure]
    · exact gen hb
  · exact gen hb

theorem unP_run {P : Program} {op : UnOp} {x : Value} {h : H} {K : Value → Prop} (hb : unP P op x h K) :
    ∃ r, K r ∧ ∀ w, Sub h w → (Op.unary op x).run P w = .ok r w := by
  unfold unP at hb
  split at hb
  · obtain ⟨b, rfl, hb⟩ := boolP_spec hb
    exact ⟨_, hb, fun w _ => rfl⟩
  · exact ⟨_, hb, fun w _ => by simp [Op.unary, Op.intArith]⟩
  · obtain ⟨r, hr, hk⟩ := hb; exact ⟨r, hk, hr⟩

theorem convP_run {P : Program} {s d : TypeId} {x : Value} {h : H} {K : Value → Prop} (hb : convP P s d x h K) :
    ∃ r, K r ∧ ∀ w, Sub h w → (convert s d x).run P w = .ok r w := by
  unfold convP at hb
  split at hb
  · rename_i hu hv
    obtain ⟨k, n, rfl, hb⟩ := intP_spec hb
    exact ⟨_, hb, fun w _ => by simp [convert, run_underlying hu, run_underlying hv, Conv.intToInt]⟩
  · obtain ⟨r, hr, hk⟩ := hb; exact ⟨r, hk, hr⟩

theorem partP_run {P : Program} {t : TypeId} {cs : List Value} {off : Nat} {K : Value → Prop} (hb : partP P t cs off K) :
    ∃ r, K r ∧ ∀ w, (part t ⟨cs⟩ off).run P w = .ok r w := by
  unfold partP at hb
  cases hu : P.underlying t with
  | none => simp [hu] at hb
  | some d =>
    have key : ∀ v, isAggD d = false → cs[off]? = some v → K v → ∃ r, K r ∧ ∀ w, (part t ⟨cs⟩ off).run P w = .ok r w := fun v hd hc hk =>
      ⟨v, hk, fun w => by
        have : (⟨cs⟩ : Array Value)[off]? = some v := by simpa using hc
        simp only [part, Sem.run_bind, run_isAgg' hu, Result.andThen_ok, hd, Bool.false_eq_true, if_false, this]; rfl⟩
    have keyN : isAggD d = true → K (.agg ⟨(cs.drop off).take (P.cellsOf t)⟩) → ∃ r, K r ∧ ∀ w, (part t ⟨cs⟩ off).run P w = .ok r w := fun hd hk =>
      ⟨_, hk, fun w => by
        simp only [part, Sem.run_bind, run_isAgg' hu, Result.andThen_ok, hd, if_true, run_sizeOf' hu, Sem.run_pure]
        congr 2
        apply Array.ext'
        simp [Array.toList_extract, List.extract_eq_take_drop]⟩
    simp only [hu] at hb
    cases d <;> simp only at hb <;> first
      | (obtain ⟨n, hc, hk⟩ := hb; exact key _ rfl hc hk)
      | (exact keyN rfl hb)

theorem ixS_spec {x : Value} {i : Int} {sz : Nat} {K : Addr → Prop} (h : ixS x i sz K) : ∃ a l c, x = .slice (some a) l c ∧ 0 ≤ i ∧ i < (l : Int) ∧ K (a.add (i.toNat * sz)) := by
  unfold ixS at h
  split at h
  · exact ⟨_, _, _, rfl, h⟩
  · exact h.elim

theorem info_of_cells {P : Program} {e : TypeId} (h : Nat.beq (P.cellsOf e) 0 = false) : ∃ i, P.info? e = some i ∧ P.cellsOf e = i.size := by
  cases hi : P.info? e with
  | none => simp [Program.cellsOf, hi] at h
  | some i => exact ⟨i, rfl, by simp [Program.cellsOf, hi]⟩

theorem idxAddrP_run {P : Program} {t : TypeId} {x ix : Value} {K : Value → Prop} (hb : idxAddrP P t x ix K) :
    ∃ r, K r ∧ ∀ w, (Instr.indexAt t x ix).run P w = .ok r w := by
  unfold idxAddrP at hb
  split at hb
  · rename_i e hu
    cases hz : Nat.beq (P.cellsOf e) 0 with
    | true => simp [hz] at hb
    | false =>
    rw [hz] at hb
    simp only [cond_false] at hb
    obtain ⟨k, i, rfl, hb2⟩ := intP_spec hb
    clear hb
    obtain ⟨a, l, c, rfl, h0, h1, hk⟩ := ixS_spec hb2
    obtain ⟨inf, hinf, hsz⟩ := info_of_cells hz
    exact ⟨_, hk, fun w => by simp [Instr.indexAt, asIntOf, run_underlying hu, h0, h1, sizeOf, typeInfo, hinf, hsz]⟩
  · rename_i n e hu
    cases hz : Nat.beq (P.cellsOf e) 0 with
    | true => simp [hz] at hb
    | false =>
    rw [hz] at hb
    simp only [cond_false] at hb
    obtain ⟨k, i, rfl, hb2⟩ := intP_spec hb
    clear hb
    obtain ⟨a, rfl, h0, h1, hk⟩ := ptrP_spec hb2
    obtain ⟨inf, hinf, hsz⟩ := info_of_cells hz
    exact ⟨_, hk, fun w => by simp [Instr.indexAt, Instr.sureAddr, asIntOf, run_underlying hu, h0, h1, sizeOf, typeInfo, hinf, hsz]⟩
  · exact hb.elim

end Go.Proofs.YtjlojokockfapaaGreatDoor

namespace Go.Proofs.YtjlojokockfapaaGreatDoor
open Go
set_option linter.unusedVariables false
set_option linter.unusedSimpArgs false

theorem getElem?_zrep (z : List Value) (hz : 0 < z.length) : ∀ (n i : Nat), i < n * z.length → (zrep z n)[i]? = z[i % z.length]? := by
  intro n
  induction n with
  | zero => intro i h; simp at h
  | succ n ih =>
    intro i h
    simp only [zrep, List.replicate_succ, List.flatten_cons]
    by_cases hi : i < z.length
    · rw [List.getElem?_append_left hi, Nat.mod_eq_of_lt hi]
    · rw [List.getElem?_append_right (by omega)]
      have := ih (i - z.length) (by rw [Nat.succ_mul] at h; omega)
      simp only [zrep] at this
      rw [this, Nat.mod_eq_sub_mod (by omega : z.length ≤ i)]

theorem length_zrep (z : List Value) (n : Nat) : (zrep z n).length = n * z.length := by
  simp [zrep, List.length_flatten]

theorem zrow_eq (z : List Value) (n : Nat) : (Array.range (n * z.length)).map (fun i => (⟨z⟩ : Array Value)[i % (⟨z⟩ : Array Value).size]!) = (⟨zrep z n⟩ : Array Value) := by
  apply Array.ext'
  apply List.ext_getElem?
  intro i
  by_cases hi : i < n * z.length
  · have hz : 0 < z.length := by
      rcases Nat.eq_zero_or_pos z.length with h0 | h0
      · rw [h0] at hi; simp at hi
      · exact h0
    have hm : i % z.length < z.length := Nat.mod_lt _ hz
    rw [getElem?_zrep z hz n i hi]
    simp [hi, hm, List.getElem?_eq_getElem]
  · rw [List.getElem?_eq_none (by simp; omega), List.getElem?_eq_none (by rw [length_zrep]; omega)]

theorem foldl_setR (off : Nat) : ∀ (vs : List Value) (k : Nat) (cells : Array Value),
    (vs.zipIdx k).foldl (fun cs (p : Value × Nat) => cs.setIfInBounds (off + p.2) p.1) cells = setR cells (off + k) vs := by
  intro vs
  induction vs with
  | nil => intro k cells; simp [setR]
  | cons v r ih => intro k cells; simp only [List.zipIdx_cons, List.foldl_cons, setR]; rw [ih]; congr 1

theorem fill_step (cells vs : Array Value) (off : Nat) (h : off + vs.size ≤ cells.size) :
    vs.zipIdx.foldl (fun cs (p : Value × Nat) => cs.setIfInBounds (off + p.2) p.1) cells = (cells.toList.take off ++ vs.toList ++ cells.toList.drop (off + vs.size)).toArray := by
  rw [← Array.foldl_toList, Array.toList_zipIdx, foldl_setR off vs.toList 0 cells, Nat.add_zero, setR_eq cells vs.toList off cells (by simpa using h)]
  simp

theorem fillP_run {P : Program} {len : Nat} {place : Nat → Option (Nat × TypeId)} {place' : Nat → Option (Nat × Nat)} (hp : ∀ i ot, place i = some ot → place' i = some (ot.1, P.cellsOf ot.2)) :
    ∀ (parts : List (Nat × Value)) (cells : List Value) (K : List Value → Prop), cells.length = len → fillP P len place parts cells K →
      ∃ cs, cs.length = len ∧ K cs ∧ Instr.fill place' ⟨cells⟩ parts = some ⟨cs⟩ := by
  intro parts
  induction parts with
  | nil => intro cells K hl h; exact ⟨cells, hl, h, rfl⟩
  | cons p r ih =>
    obtain ⟨i, v⟩ := p
    intro cells K hl h
    simp only [fillP] at h
    obtain ⟨⟨off, t⟩, hpl, h⟩ := on_spec h
    simp only at h
    cases hb : Nat.ble (off + P.cellsOf t) len with
    | false => simp [hb] at h
    | true =>
    rw [hb, cond_true] at h
    have hle : off + P.cellsOf t ≤ len := Nat.le_of_ble_eq_true hb
    have step : ∀ vs : List Value, v.cells = ⟨vs⟩ → vs.length = P.cellsOf t → fillP P len place r (cells.take off ++ vs ++ cells.drop (off + P.cellsOf t)) K →
        ∃ cs, cs.length = len ∧ K cs ∧ Instr.fill place' ⟨cells⟩ ((i, v) :: r) = some ⟨cs⟩ := by
      intro vs hv hn h
      obtain ⟨cs, h1, h2, h3⟩ := ih _ K (by simp; omega) h
      refine ⟨cs, h1, h2, ?_⟩
      have hg : ¬ ((vs.length != P.cellsOf t) || decide (off + vs.length > cells.length)) = true := by simp [hn]; omega
      simp only [Instr.fill, hp _ _ hpl, hv, List.size_toArray]
      rw [if_neg (by simp [hn]; omega)]
      have hf := fill_step ⟨cells⟩ ⟨vs⟩ off (by simp; omega)
      simp only [List.size_toArray] at hf
      rw [show (fun (cs : Array Value) (x : Value × Nat) => match x with | (c, j) => cs.setIfInBounds (off + j) c) = (fun cs (p : Value × Nat) => cs.setIfInBounds (off + p.2) p.1) from rfl, hf, hn]
      exact h3
    cases hu : P.underlying t with
    | none => simp [hu] at h
    | some d =>
      rw [hu] at h
      have keyN : (aggP v fun vs => vs.length = P.cellsOf t ∧ fillP P len place r (cells.take off ++ vs ++ cells.drop (off + P.cellsOf t)) K) →
          ∃ cs, cs.length = len ∧ K cs ∧ Instr.fill place' ⟨cells⟩ ((i, v) :: r) = some ⟨cs⟩ := by
        intro h
        obtain ⟨vs, e, hn, h⟩ := aggP_spec h
        exact step vs (by rw [e]; rfl) hn h
      have key : (bif Nat.beq (P.cellsOf t) 1 then oneP v (fillP P len place r (cells.take off ++ [v] ++ cells.drop (off + 1)) K) else False) →
          ∃ cs, cs.length = len ∧ K cs ∧ Instr.fill place' ⟨cells⟩ ((i, v) :: r) = some ⟨cs⟩ := by
        intro h
        cases hc : Nat.beq (P.cellsOf t) 1 with
        | false => simp [hc] at h
        | true =>
          rw [hc, cond_true] at h
          obtain ⟨h1, h⟩ := oneP_spec h
          have hc : P.cellsOf t = 1 := Nat.eq_of_beq_eq_true hc
          exact step [v] (cells_one h1) (by simp [hc]) (by rw [hc]; exact h)
      cases d <;> simp only at h <;> first
        | exact keyN h
        | exact key h

theorem run_mapM_list {α β : Type} {P : Program} {f : α → Sem β} {g : α → β} : ∀ (l : List α), (∀ x ∈ l, ∀ w, (f x).run P w = .ok (g x) w) → ∀ w, (l.mapM f).run P w = .ok (l.map g) w := by
  intro l
  induction l with
  | nil => intro _ w; rfl
  | cons x r ih =>
    intro h w
    rw [List.mapM_cons]
    simp only [Sem.run_bind, h x (by simp) w, Result.andThen_ok, ih (fun y hy => h y (by simp [hy])) w, Sem.run_pure, List.map_cons]

theorem run_mapM {α β : Type} {P : Program} {f : α → Sem β} {g : α → β} (l : Array α) (h : ∀ x ∈ l.toList, ∀ w, (f x).run P w = .ok (g x) w) (w : World) : (l.mapM f).run P w = .ok (l.map g) w := by
  rw [Array.mapM_eq_mapM_toList]
  simp only [Sem.run_map, run_mapM_list l.toList h w, Result.andThen_ok]
  congr 1
  apply Array.ext'
  simp

theorem run_sizeOf_info {P : Program} {t : TypeId} (h : (P.info? t).isSome = true) (w : World) : (sizeOf t).run P w = .ok (P.cellsOf t) w := by
  obtain ⟨i, hi⟩ := Option.isSome_iff_exists.1 h
  simp [sizeOf, typeInfo, hi, Program.cellsOf]

theorem buildP_run {P : Program} {t : TypeId} {parts : List (Nat × Value)} {K : Value → Prop} (hb : buildP P t parts K) :
    ∃ r, K r ∧ ∀ w, (Instr.build t ⟨parts⟩).run P w = .ok r w := by
  unfold buildP at hb
  obtain ⟨z, hz, hb⟩ := on_spec hb
  obtain ⟨i, v, hi, hv, hvc, hsz⟩ := zeroOf_spec hz
  split at hb
  · rename_i fs hu
    cases ha : fs.toList.all (fun f => (P.info? f.type).isSome) with
    | false => simp [ha] at hb
    | true =>
    rw [ha, cond_true] at hb
    rw [List.all_eq_true] at ha
    obtain ⟨cs, _, hk, hf⟩ := fillP_run (P := P) (place' := fun i => (fs.map fun f => (f.offset, P.cellsOf f.type))[i]?) (by
      intro i ot h
      unfold placeS at h
      split at h
      · rename_i f hf
        cases h
        simp only [Array.getElem?_map]
        rw [show fs[i]? = some f by rw [← hf, Array.getElem?_toList]]
        rfl
      · cases h) parts z _ rfl hb
    refine ⟨_, hk, fun w => ?_⟩
    have hm := run_mapM (P := P) (f := fun f : Field => do pure (f.offset, ← sizeOf f.type)) (g := fun f => (f.offset, P.cellsOf f.type)) fs
      (fun f hf w => by simp [run_sizeOf_info (ha f hf)]) w
    simp only [Instr.build, Sem.run_bind, run_zeroValue' hi hv, Result.andThen_ok, run_underlying hu, hm, hvc, hf, Sem.run_pure]
  · rename_i n e hu
    cases ha : (P.info? e).isSome with
    | false => simp [ha] at hb
    | true =>
    rw [ha, cond_true] at hb
    obtain ⟨cs, _, hk, hf⟩ := fillP_run (P := P) (place' := fun i => some (i * P.cellsOf e, P.cellsOf e)) (by
      intro i ot h; cases h; rfl) parts z _ rfl hb
    refine ⟨_, hk, fun w => ?_⟩
    simp only [Instr.build, Sem.run_bind, run_zeroValue' hi hv, Result.andThen_ok, run_underlying hu, run_sizeOf_info ha, hvc, hf, Sem.run_pure]
  · exact hb.elim

theorem allocP_run {P : Program} {e : TypeId} {h : H} {K : Value → H → Prop} (hb : allocP P e h K) (w : World) (hs : Sub h w) :
    ∃ r h' w', K r h' ∧ (Instr.alloc e true (.tuple #[])).run P w = .ok r w' ∧ Sub h' w' ∧ Stp h w h' w' := by
  unfold allocP at hb
  obtain ⟨z, hz, hb⟩ := on_spec hb
  obtain ⟨i, v, hi, hv, hvc, hsz⟩ := zeroOf_spec hz
  obtain ⟨hk, hs'⟩ := newP_run (P := P) hb w hs
  refine ⟨_, _, _, hk, ?_, hs', hs.put_stp _⟩
  simp [Instr.alloc, run_zeroValue' hi hv, newVar, newRow, hvc]

theorem boxP_run {P : Program} {e : TypeId} {v : Value} {h : H} {K : Value → H → Prop} (hb : boxP e v h K) (w : World) (hs : Sub h w) :
    ∃ r h' w', K r h' ∧ (Instr.box e v).run P w = .ok r w' ∧ Sub h' w' ∧ Stp h w h' w' := by
  unfold boxP at hb
  obtain ⟨hk, hs'⟩ := newP_run (P := P) hb w hs
  refine ⟨_, _, _, hk, ?_, hs', hs.put_stp _⟩
  simp [Instr.box, newVar, newRow, cellsV_eq]

theorem range0 {α : Type} (f : Nat → α) : (Array.range 0).map f = #[] := by
  apply Array.ext'; simp

theorem buildSliceP_run {P : Program} {t : TypeId} {len : Nat} {parts : List (Nat × Value)} {h : H} {K : Value → H → Prop} (hb : buildSliceP P t len parts h K) (w : World) (hs : Sub h w) :
    ∃ r h' w', K r h' ∧ (Instr.buildSlice t len ⟨parts⟩).run P w = .ok r w' ∧ Sub h' w' ∧ Stp h w h' w' := by
  unfold buildSliceP at hb
  split at hb
  · rename_i e hu
    obtain ⟨z, hz, hb⟩ := on_spec hb
    obtain ⟨i, v, hi, hv, hvc, hsz⟩ := zeroOf_spec hz
    cases hc : (Nat.beq z.length (P.cellsOf e) && Nat.ble (len * P.cellsOf e) (2 ^ 24)) with
    | false => rw [hc] at hb; exact hb.elim
    | true =>
    rw [hc, cond_true] at hb
    simp only [Bool.and_eq_true] at hc
    have hzl : z.length = P.cellsOf e := Nat.eq_of_beq_eq_true hc.1
    have hle : len * P.cellsOf e ≤ 2 ^ 24 := Nat.le_of_ble_eq_true hc.2
    obtain ⟨cs, _, hk, hf⟩ := fillP_run (P := P) (place' := fun i => some (i * P.cellsOf e, P.cellsOf e)) (by
      intro i ot h; cases h; rfl) parts (zrep z len) _ (by rw [length_zrep, hzl]) hb
    obtain ⟨hk, hs'⟩ := newP_run (P := P) hk w hs
    refine ⟨_, _, _, hk, ?_, hs', hs.put_stp _⟩
    have hrow := zrow_eq z len
    rw [hzl] at hrow
    by_cases h0 : len * P.cellsOf e = 0
    · have hrow0 : (⟨zrep z len⟩ : Array Value) = #[] := by rw [← hrow, h0]; exact range0 _
      rw [hrow0] at hf
      simp [Instr.buildSlice, run_underlying hu, run_sizeOf_info (show (P.info? e).isSome = true by simp [hi]), h0, range0, hf, newRow]
    · simp only [Instr.buildSlice, Sem.run_bind, run_underlying hu, Result.andThen_ok, run_sizeOf_info (show (P.info? e).isSome = true by simp [hi]), gt_iff_lt, show ¬ (2 ^ 24 < len * P.cellsOf e) by omega, if_false, h0, Sem.run_pure, run_zeroValue' hi hv, hvc, hrow, hf, newRow, run_newObj, pure_bind]
  · exact hb.elim

theorem makeSliceP_run {P : Program} {t : TypeId} {l c : Value} {h : H} {K : Value → H → Prop} (hb : makeSliceP P t l c h K) (w : World) (hs : Sub h w) :
    ∃ r h' w', K r h' ∧ (Instr.makeSlice t l c).run P w = .ok r w' ∧ Sub h' w' ∧ Stp h w h' w' := by
  unfold makeSliceP at hb
  split at hb
  · rename_i e hu
    obtain ⟨z, hz, hb⟩ := on_spec hb
    obtain ⟨i, v, hi, hv, hvc, hsz⟩ := zeroOf_spec hz
    cases hc : Nat.beq z.length (P.cellsOf e) with
    | false => rw [hc] at hb; exact hb.elim
    | true =>
    rw [hc, cond_true] at hb
    obtain ⟨k1, l, e1, hb1⟩ := intP_spec hb
    obtain ⟨k2, c, e2, h0, h1, h2, h3, hb2⟩ := intP_spec hb1
    clear hb hb1
    subst e1; subst e2
    have hzl : z.length = P.cellsOf e := Nat.eq_of_beq_eq_true hc
    obtain ⟨hk, hs'⟩ := newP_run (P := P) hb2 w hs
    refine ⟨_, _, _, hk, ?_, hs', hs.put_stp _⟩
    have hrow := zrow_eq z c.toNat
    rw [hzl] at hrow
    have hby : P.bytesOf e = i.bytes := by simp [Program.bytesOf, hi]
    have wl : IntKind.i64.wrap l = l := by simp [IntKind.wrap, IntKind.bits, IntKind.signed]; omega
    have wc : IntKind.i64.wrap c = c := by simp [IntKind.wrap, IntKind.bits, IntKind.signed]; omega
    have hbc : ¬ ((i.bytes : Int) * c > 2 ^ 48) := by rw [← hby, Int.mul_comm]; omega
    have hsi : (sizeOf e).run P { w with drawn := w.drawn } = .ok (P.cellsOf e) w := run_sizeOf_info (show (P.info? e).isSome = true by simp [hi]) w
    have hs1 : ∀ w, (sizeOf e).run P w = .ok (P.cellsOf e) w := run_sizeOf_info (show (P.info? e).isSome = true by simp [hi])
    have hz1 : ∀ w, (zeroValue e).run P w = .ok v w := run_zeroValue' hi hv
    by_cases h00 : c.toNat * P.cellsOf e = 0
    · have hrow0 : (⟨zrep z c.toNat⟩ : Array Value) = #[] := by rw [← hrow, h00]; exact range0 _
      simp [Instr.makeSlice, run_underlying hu, asInt, asIntOf, typeInfo, hi, wl, wc, hbc, show ¬ c < 0 by omega, show ¬ l < 0 by omega, show ¬ c < l by omega, hs1, h00, range0, hrow0, newRow]
      omega
    · simp only [Instr.makeSlice, run_underlying hu, asInt, asIntOf, typeInfo, hi, wl, wc, Sem.run_bind, Result.andThen_ok, Sem.run_pure, run_program, pure_bind, show ¬ c < 0 by omega, show ¬ l < 0 by omega, gt_iff_lt, show ¬ c < l by omega, hs1, hz1, h00, hvc, hrow, newRow, run_newObj, decide_false, Bool.false_or, Bool.or_false, run_askRoom, if_false]
      rw [if_neg (by simp; omega)]
      have hrow' : Array.map (fun x => z[x % z.length]?.getD default) (Array.range (c.toNat * P.cellsOf e)) = (⟨zrep z c.toNat⟩ : Array Value) := by simpa using hrow
      simp [h00, hs1, hz1, hvc, hrow']
  · exact hb.elim

end Go.Proofs.YtjlojokockfapaaGreatDoor

namespace Go.Proofs.YtjlojokockfapaaGreatDoor
open Go
set_option linter.unusedVariables false
set_option linter.unusedSimpArgs false

theorem run_firstCells' {P : Program} {h : H} {w : World} (hs : Sub h w) {a : Option Addr} {n size l c : Nat} {new : List Value} (hsrc : srcP h a (n * size) new) :
    (Builtin.firstCells size n (.slice a l c)).run P w = .ok ⟨new⟩ w := by
  obtain ⟨hl, ha⟩ := hsrc
  cases a with
  | none => simp only at ha; subst ha; rfl
  | some a =>
    have := run_loadCells_list (P := P) w a new (hcells_sub hs ha)
    rw [hl] at this
    simpa [Builtin.firstCells] using this

theorem nextcap_le {need sc : Nat} (h : sc < need) : Builtin.nextslicecap need sc ≤ 2 * need + 192 := by
  unfold Builtin.nextslicecap
  split
  · omega
  · split
    · omega
    · simp only [Builtin.growBy]
      repeat' split
      all_goals omega

theorem appendP_run {P : Program} {ts tx ty : TypeId} {s x : Value} {h : H} {K : Value → H → Prop} (hb : appendP P ts tx s x h K) (w : World) (hs : Sub h w) :
    ∃ r h' w', K r h' ∧ (Builtin.append_ #[ts, tx] ty #[s, x]).run P w = .ok r w' ∧ Sub h' w' ∧ Stp h w h' w' := by
  unfold appendP at hb
  split at hb
  case h_2 => exact hb.elim
  rename_i e e2 hu hu2
  obtain ⟨z, hz, hb1⟩ := on_spec hb
  clear hb
  obtain ⟨i, v, hi, hv, hvc, hsz⟩ := zeroOf_spec hz
  cases hc : (Nat.beq z.length (P.cellsOf e) && !Nat.beq (P.bytesOf e) 0 && !Nat.beq (P.cellsOf e) 0) with
  | false => rw [hc] at hb1; exact hb1.elim
  | true =>
  rw [hc, cond_true] at hb1
  simp only [Bool.and_eq_true, Bool.not_eq_true'] at hc
  obtain ⟨⟨hc1, hc2⟩, hc3⟩ := hc
  have hzl : z.length = P.cellsOf e := Nat.eq_of_beq_eq_true hc1
  have hby : P.bytesOf e = i.bytes := by simp [Program.bytesOf, hi]
  have hb0 : i.bytes ≠ 0 := by rw [← hby]; intro h0; rw [h0] at hc2; simp at hc2
  obtain ⟨base, sl, sc, e1, hb2⟩ := slcP_spec hb1
  obtain ⟨xa, n, xc, e2', new, hsrc, happ⟩ := slcP_spec hb2
  clear hb1 hb2
  subst e1; subst e2'
  have hf := fun w' (hs' : Sub h w') => run_firstCells' (P := P) hs' (l := n) (c := xc) hsrc
  have hs1 : ∀ w, (sizeOf e).run P w = .ok (P.cellsOf e) w := run_sizeOf_info (show (P.info? e).isSome = true by simp [hi])
  have hlen : ∀ (l c : Nat) (a : Option Addr), Builtin.lenOf (.slice a l c) = pure l := fun _ _ _ => rfl
  by_cases hroom : sl + n ≤ sc
  · have h1 := happ.1 hroom
    cases base with
    | none =>
      obtain ⟨hn, hk⟩ := h1
      refine ⟨_, h, w, hk, ?_, hs, Stp.refl h w⟩
      simp [Builtin.append_, run_underlying hu, run_underlying hu2, hs1, hlen, hroom, hf w hs]
    | some a =>
      obtain ⟨hw, hone, hk⟩ := h1
      by_cases hnew : new = []
      · subst hnew
        have hset : hset h (a.add (sl * P.cellsOf e)) [] = h := by
          funext b
          unfold hset
          split
          · cases h b with
            | none => rfl
            | some o => cases o <;> rfl
          · rfl
        rw [hset] at hk
        refine ⟨_, h, w, hk, ?_, hs, Stp.refl h w⟩
        simp [Builtin.append_, run_underlying hu, run_underlying hu2, hs1, hlen, hroom, hf w hs, storeCells]
      · obtain ⟨w', hr, hs', hm⟩ := hset_sub (P := P) hs (hw hnew) hone
        refine ⟨_, _, w', hk, ?_, hs', hm⟩
        simp [Builtin.append_, run_underlying hu, run_underlying hu2, hs1, hlen, hroom, hf w hs, hr]
  · obtain ⟨hcap, old, hold, hk⟩ := happ.2 (by omega)
    have hfo := fun w' (hs' : Sub h w') => run_firstCells' (P := P) hs' (l := sl) (c := sc) hold
    have hcap' : ¬ (2 ^ 48 < Builtin.nextslicecap (sl + n) sc * i.bytes) := by rw [← hby]; omega
    have hge : sl + n ≤ (Question.appendCap (sl + n) sc e).cut (w.tape w.drawn (.appendCap (sl + n) sc e)) := by simp [Question.cut]
    have hs2 : Sub h w.drew := hs
    have hk' := hk _ hge
    obtain ⟨hk2, hs'⟩ := newP_run (P := P) hk' w.drew hs2
    refine ⟨_, _, w.drew.alloc (.cells ⟨old ++ new ++ zrep z ((Question.appendCap (sl + n) sc e).cut (w.tape w.drawn (.appendCap (sl + n) sc e)) - (sl + n))⟩ e), hk2, ?_, hs', ⟨⟨rfl, rfl, rfl⟩, (hs2.put_stp _).size, (hs2.put_stp _).frame⟩⟩
    have hzc : ∀ m, Builtin.zeroCells v.cells m = (⟨zrep z m⟩ : Array Value) := fun m => by
      unfold Builtin.zeroCells
      rw [hvc]
      have := zrow_eq z m
      simpa using this
    have hcap2 : ¬ (281474976710656 < Builtin.nextslicecap (sl + n) sc * i.bytes) := by omega
    simp [Builtin.append_, run_underlying hu, run_underlying hu2, hs1, hlen, hroom, typeInfo, hi, hb0, hcap2, Question.forced, hfo _ hs2, hf _ hs2, run_zeroValue' hi hv, hzc, newRow]

theorem hset_nil {h : H} {a : Addr} : hset h a [] = h := by
  funext b
  unfold hset
  split
  · cases h b with
    | none => rfl
    | some o => cases o <;> rfl
  · rfl
theorem clearP_run {P : Program} {t ty : TypeId} {x : Value} {h : H} {K : Value → H → Prop} (hb : clearP P t x h K) (w : World) (hs : Sub h w) :
    ∃ r h' w', K r h' ∧ (Builtin.clear_ #[t] ty #[x]).run P w = .ok r w' ∧ Sub h' w' ∧ Stp h w h' w' := by
  unfold clearP at hb
  split at hb
  case h_2 => exact hb.elim
  rename_i e hu
  obtain ⟨z, hz, hb1⟩ := on_spec hb
  clear hb
  obtain ⟨i, v, hi, hv, hvc, hsz⟩ := zeroOf_spec hz
  cases hc : Nat.beq z.length (P.cellsOf e) with
  | false => rw [hc] at hb1; exact hb1.elim
  | true =>
  rw [hc, cond_true] at hb1
  obtain ⟨a, n, c, e1, hb2⟩ := slcP_spec hb1
  subst e1
  have hzc : ∀ m, Builtin.zeroCells v.cells m = (⟨zrep z m⟩ : Array Value) := fun m => by
    unfold Builtin.zeroCells
    rw [hvc]
    have := zrow_eq z m
    simpa using this
  unfold clP at hb2
  cases a with
  | none => exact ⟨_, h, w, hb2, by simp [Builtin.clear_, run_underlying hu], hs, Stp.refl h w⟩
  | some a =>
    obtain ⟨hw, hone, hk⟩ := hb2
    by_cases hn : n = 0
    · subst hn
      have e0 : zrep z 0 = [] := by simp [zrep]
      rw [e0, hset_nil] at hk
      exact ⟨_, h, w, hk, by simp [Builtin.clear_, run_underlying hu], hs, Stp.refl h w⟩
    · obtain ⟨w', hr, hs', hm⟩ := hset_sub (P := P) hs hw hone
      refine ⟨_, _, w', hk, ?_, hs', hm⟩
      obtain ⟨n, rfl⟩ : ∃ k, n = k + 1 := ⟨n - 1, by omega⟩
      simp [Builtin.clear_, run_underlying hu, run_zeroValue' hi hv, hzc, hr]

end Go.Proofs.YtjlojokockfapaaGreatDoor

namespace Go.Proofs.YtjlojokockfapaaGreatDoor
open Go
set_option linter.unusedVariables false
set_option linter.unusedSimpArgs false

theorem indexP_run {P : Program} {t : TypeId} {x ix : Value} {h : H} {K : Value → Prop} (hb : indexP P t x ix h K) :
    ∃ r, K r ∧ ∀ w, Sub h w → (Instr.index t x ix).run P w = .ok r w := by
  unfold indexP at hb
  split at hb
  · rename_i n e hu
    obtain ⟨k, i, e1, hb1⟩ := intP_spec hb
    obtain ⟨cs, e2, h0, h1, hb2⟩ := aggP_spec hb1
    clear hb hb1
    subst e1; subst e2
    have hpos : ∃ d, P.underlying e = some d := by
      unfold partP at hb2
      cases hu2 : P.underlying e with
      | none => rw [hu2] at hb2; exact hb2.elim
      | some d => exact ⟨d, rfl⟩
    obtain ⟨d, hd⟩ := hpos
    obtain ⟨r, hk, hr⟩ := partP_run hb2
    exact ⟨r, hk, fun w _ => by simp [Instr.index, asIntOf, run_underlying hu, h0, h1, run_sizeOf' hd, hr]⟩
  · obtain ⟨r, hr, hk⟩ := hb; exact ⟨r, hk, hr⟩

theorem fieldP_run {P : Program} {t : TypeId} {x : Value} {f : Nat} {K : Value → Prop} (hb : fieldP P t x f K) :
    ∃ r, K r ∧ ∀ w, (Instr.field t x f).run P w = .ok r w := by
  unfold fieldP at hb
  split at hb
  · rename_i fs hu
    obtain ⟨fd, hf, hb1⟩ := on_spec hb
    obtain ⟨cs, e2, hb2⟩ := aggP_spec hb1
    clear hb hb1
    subst e2
    obtain ⟨r, hk, hr⟩ := partP_run hb2
    have hf' : fs[f]? = some fd := by rw [← hf, Array.getElem?_toList]
    exact ⟨r, hk, fun w => by simp [Instr.field, run_underlying hu, hf', asAgg, hr]⟩
  · exact hb.elim

theorem fieldAddrP_run {P : Program} {t : TypeId} {x : Value} {f : Nat} {K : Value → Prop} (hb : fieldAddrP P t x f K) :
    ∃ r, K r ∧ ∀ w, (Instr.fieldAt t x f).run P w = .ok r w := by
  unfold fieldAddrP at hb
  split at hb
  · rename_i fs hu
    obtain ⟨fd, hf, hb1⟩ := on_spec hb
    cases hz : Nat.beq (P.cellsOf fd.type) 0 with
    | true => simp [hz] at hb1
    | false =>
    rw [hz, cond_false] at hb1
    obtain ⟨a, e2, hb2⟩ := ptrP_spec hb1
    clear hb hb1
    subst e2
    obtain ⟨inf, hinf, hsz⟩ := info_of_cells hz
    have hne : ¬ inf.size = 0 := by rw [← hsz]; intro h0; rw [h0] at hz; simp at hz
    have hf' : fs[f]? = some fd := by rw [← hf, Array.getElem?_toList]
    exact ⟨_, hb2, fun w => by simp [Instr.fieldAt, run_underlying hu, hf', Instr.sureAddr, fieldPlace, sizeOf, typeInfo, hinf, hne]⟩
  · exact hb.elim

theorem run_sliceBound {P : Program} (k : IntKind) (i : Int) (y : Nat) (code : BoundsCode) (h0 : 0 ≤ i) (h1 : i ≤ (y : Int)) (w : World) :
    (Instr.sliceBound (.int k i) y code).run P w = .ok i.toNat w := by simp [Instr.sliceBound, asIntOf, h0, h1]

theorem bndP_spec {v : Option Value} {d : Int} {K : Int → Prop} (h : bndP v d K) : (v = none ∧ K d) ∨ ∃ k i, v = some (.int k i) ∧ K i := by
  unfold bndP at h
  split at h
  · exact .inl ⟨rfl, h⟩
  · exact .inr ⟨_, _, rfl, h⟩
  · exact h.elim

theorem sliceP_run {P : Program} {t : TypeId} {x : Value} {lo hi mx : Option Value} {h : H} {K : Value → Prop} (hb : sliceP P t x lo hi mx h K) :
    ∃ r, K r ∧ ∀ w, Sub h w → (Instr.sliceAt t x lo hi mx).run P w = .ok r w := by
  unfold sliceP at hb
  split at hb
  · rename_i e hu
    split at hb
    · cases hz : Nat.beq (P.cellsOf e) 0 with
      | true => simp [hz] at hb
      | false =>
      rw [hz, cond_false] at hb
      obtain ⟨a, l, c, e1, hb1⟩ := slcP_spec hb
      clear hb
      subst e1
      obtain ⟨inf, hinf, hsz⟩ := info_of_cells hz
      rcases bndP_spec hb1 with ⟨rfl, h0, h1, hb2⟩ | ⟨k, i, rfl, h0, h1, hb2⟩
      · rcases bndP_spec hb2 with ⟨rfl, h2, h3, hk⟩ | ⟨k2, i2, rfl, h2, h3, hk⟩
        · exact ⟨_, hk, fun w _ => by simp [Instr.sliceAt, Instr.slice, run_underlying hu, Instr.sliceBounds, sizeOf, typeInfo, hinf, sliceV, hsz]⟩
        · exact ⟨_, hk, fun w _ => by simp [Instr.sliceAt, Instr.slice, run_underlying hu, Instr.sliceBounds, run_sliceBound _ _ _ _ h2 h3, sizeOf, typeInfo, hinf, sliceV, hsz]⟩
      · rcases bndP_spec hb2 with ⟨rfl, h2, h3, hk⟩ | ⟨k2, i2, rfl, h2, h3, hk⟩
        · exact ⟨_, hk, fun w _ => by simp [Instr.sliceAt, Instr.slice, run_underlying hu, Instr.sliceBounds, run_sliceBound _ _ _ _ h0 h1, sizeOf, typeInfo, hinf, sliceV, hsz]⟩
        · have h3' : i2 ≤ ((i.toNat : Nat) : Int) := by omega
          exact ⟨_, hk, fun w _ => by simp [Instr.sliceAt, Instr.slice, run_underlying hu, Instr.sliceBounds, run_sliceBound _ _ _ _ h0 h1, run_sliceBound _ _ _ _ h2 h3', sizeOf, typeInfo, hinf, sliceV, hsz]⟩
    · obtain ⟨r, hr, hk⟩ := hb; exact ⟨r, hk, hr⟩
  · obtain ⟨r, hr, hk⟩ := hb; exact ⟨r, hk, hr⟩

theorem ty1_spec {P : Program} {t : TypeId} {K : Value → Prop} (h : ty1 P t K) : ∃ v, K v := by
  unfold ty1 at h
  split at h
  · obtain ⟨n, h⟩ := h; exact ⟨_, h⟩
  · obtain ⟨n, h⟩ := h; exact ⟨_, h⟩
  · obtain ⟨n, _, h⟩ := h; exact ⟨_, h⟩
  · obtain ⟨n, _, h⟩ := h; exact ⟨_, h⟩
  · exact h

theorem tyL_spec {P : Program} : ∀ {ts : List TypeId} {K : List Value → Prop}, tyL P ts K → ∃ vs, K vs := by
  intro ts
  induction ts with
  | nil => intro K h; exact ⟨[], h⟩
  | cons t r ih =>
    intro K h
    obtain ⟨v, h⟩ := ty1_spec h
    obtain ⟨vs, h⟩ := ih h
    exact ⟨_, h⟩

theorem tyV_spec {P : Program} {t : TypeId} {v : Value} {K : Value → Prop} (h : tyV P t v K) : K v := by
  unfold tyV at h
  split at h
  · obtain ⟨vs, e, h⟩ := tyL_spec h; rw [e]; exact h
  · obtain ⟨n, e, h⟩ := h; rw [e]; exact h
  · obtain ⟨n, e, h⟩ := h; rw [e]; exact h
  · obtain ⟨n, _, e, h⟩ := h; rw [e]; exact h
  · obtain ⟨n, _, e, h⟩ := h; rw [e]; exact h
  · exact h
  · exact h.elim

theorem foldI_run {P : Program} {f : Int → Int → Int} {m : Value → Value → Sem Value} (hm : ∀ k k' a b w, (m (.int k a) (.int k' b)).run P w = .ok (.int k (f a b)) w) :
    ∀ (r : List Value) (v : Value) (K : Value → Prop), foldI f v r K → ∃ u, K u ∧ ∀ w, (r.foldlM m v).run P w = .ok u w := by
  intro r
  induction r with
  | nil => intro v K h; exact ⟨v, by simpa [foldI] using h, fun w => rfl⟩
  | cons x r ih =>
    intro v K h
    cases v <;> cases x <;> first
      | (simp only [foldI] at h; done)
      | (exact h.elim)
      | (simp only [foldI] at h
         obtain ⟨u, hk, hr⟩ := ih _ _ h
         exact ⟨u, hk, fun w => by simp [List.foldlM_cons, hm, hr]⟩)

theorem lenP_run {P : Program} {t ty : TypeId} {x : Value} {h : H} {K : Value → Prop} (hb : lenP P t x h K) :
    ∃ r, K r ∧ ∀ w, (Builtin.len_ #[t] ty #[x]).run P w = .ok r w := by
  unfold lenP at hb
  split at hb
  · rename_i e hu
    obtain ⟨a, l, c, e1, hk⟩ := slcP_spec hb
    subst e1
    exact ⟨_, hk, fun w => by simp [Builtin.len_, run_underlying hu, goInt]⟩
  · rename_i hu
    split at hb
    · exact ⟨_, hb, fun w => by simp [Builtin.len_, run_underlying hu, goInt]⟩
    · exact hb.elim
  · rename_i n e hu
    refine ⟨_, hb, fun w => ?_⟩
    cases x <;> simp [Builtin.len_, run_underlying hu, goInt]
  · exact hb.elim

theorem builtinP_run {P : Program} {b : Builtin} {ts : List TypeId} {ty : TypeId} {cs : Array Bool} {args : List Value} {h : H} {K : Value → H → Prop}
    (hb : builtinP P b ts args h K) (w : World) (hs : Sub h w) :
    ∃ r h' w', K r h' ∧ (builtin b ⟨ts⟩ ty cs ⟨args⟩).run P w = .ok (.value r) w' ∧ Sub h' w' ∧ Stp h w h' w' := by
  unfold builtinP at hb
  split at hb
  · obtain ⟨r, hk, hr⟩ := lenP_run (ty := ty) hb
    exact ⟨r, h, w, hk, by simp [builtin, hr w], hs, Stp.refl h w⟩
  · obtain ⟨r, h', w', hk, hr, hs', hm⟩ := appendP_run (ty := ty) hb w hs
    exact ⟨r, h', w', hk, by simp [builtin, hr], hs', hm⟩
  · obtain ⟨r, h', w', hk, hr, hs', hm⟩ := clearP_run (ty := ty) hb w hs
    exact ⟨r, h', w', hk, by simp [builtin, hr], hs', hm⟩
  · obtain ⟨r, hk, hr⟩ := foldI_run (P := P) (m := Builtin.min2) (fun k k' a b w => by simp [Builtin.min2]) _ _ _ hb
    exact ⟨r, h, w, hk, by simp [builtin, Builtin.min_, hr w], hs, Stp.refl h w⟩
  · obtain ⟨r, hk, hr⟩ := foldI_run (P := P) (m := Builtin.max2) (fun k k' a b w => by simp [Builtin.max2]) _ _ _ hb
    exact ⟨r, h, w, hk, by simp [builtin, Builtin.max_, hr w], hs, Stp.refl h w⟩
  · exact hb.elim

theorem mkIfcP_run {P : Program} {t : TypeId} {x : Value} {K : Value → Prop} (hb : mkIfcP P t x K) :
    ∃ r, K r ∧ ∀ w, (Instr.makeInterface t x).run P w = .ok r w := by
  unfold mkIfcP at hb
  split at hb
  · exact hb.elim
  · rename_i d hd hu
    refine ⟨_, hb, fun w => ?_⟩
    cases d <;> first
      | (simp [Instr.makeInterface, run_underlying hu]; done)
      | (exact (hd _ rfl).elim)
  · exact hb.elim

theorem funP_spec {P : Program} {f : Value} {args : List Value} {K : FuncId → List Value → Prop} (h : funP P f args K) :
    ∃ fid first cap, f = .func (.func fid) ⟨first⟩ ⟨cap⟩ ∧ K fid (first ++ (args ++ cap)) := by
  unfold funP at h
  split at h
  · exact ⟨_, _, _, rfl, h⟩
  · exact h.elim

theorem methP_spec {P : Program} {h : H} {v : Value} {name : String} {K : FuncId → Value → Prop} (hm : methP P h v name K) :
    ∃ t u, v = .iface t u ∧ ∃ f rv, (∀ w, Sub h w → (method (P.types.size + Made.depth) t u name).run P w = .ok (f, rv) w) ∧ K f rv := by
  unfold methP at hm
  split at hm
  · exact ⟨_, _, rfl, hm⟩
  · exact hm.elim

theorem panP_spec {v : Value} {X : Value → Prop} (h : panP v X) : ∃ t u, v = .iface t u ∧ X (.iface t u) := by
  unfold panP at h
  split at h
  · exact ⟨_, _, rfl, h⟩
  · exact h.elim

theorem run_callFunc {P : Program} {f : FuncId} (hf : ∃ fn, P.funcs[f]? = some fn ∧ fn.body.isNone = false ∧ (fn.name == "runtime.NumGoroutine") = false) (args : Array Value) (w : World) :
    (callFunc f args).run P w = .ok (.enter f args) w := by
  obtain ⟨fn, h1, h2, h3⟩ := hf
  simp only [callFunc, Sem.run_bind, run_program, Result.andThen_ok, h1, h3, Bool.false_eq_true, if_false, h2, Sem.run_pure]

/-- A call: what 'T' says, in the words of the walk. -/
theorem T_wp {P : Program} {o : Oper} {f : FuncId} {args : List Value} {h : H} {K X : Value → H → Prop} {a : Act} {w : World} {next : Act → World → Prop} {Q : Exit → Act → World → Prop}
    (ht : T P f args h (onRet P o.type K X)) (hs : Sub h w) (hrun : (execOp a.eval o).run P w = .ok (.enter f ⟨args⟩) w)
    (hK : ∀ v h' w', K v h' → Sub h' w' → Stp h w h' w' → next (a.put o.dst v) w')
    (hX : ∀ v h' w', X v h' → Sub h' w' → Stp h w h' w' → Q (.panic [⟨v, false, false⟩]) a w') : o.wp P a w next Q := by
  unfold Oper.wp
  rw [hrun, Oper.upon_enter]
  refine (ht.2 w hs).mono ?_
  rintro e w' ⟨h', hs', hm, hq⟩
  split at hq
  · exact hK _ _ _ (tyV_spec (show tyV P o.type _ (fun v => K v h') from hq)) hs' hm
  · exact hX _ _ _ hq hs' hm
  · exact hq.elim

theorem val_wp {P : Program} {o : Oper} {h h' : H} {K : Value → H → Prop} {r : Value} {a : Act} {w w' : World} {next : Act → World → Prop} {Q : Exit → Act → World → Prop}
    (hrun : (execOp a.eval o).run P w = .ok (.value r) w') (hk : K r h') (hs' : Sub h' w') (hm : Stp h w h' w')
    (hK : ∀ v h' w', K v h' → Sub h' w' → Stp h w h' w' → next (a.put o.dst v) w') : o.wp P a w next Q := by
  unfold Oper.wp
  rw [hrun, Oper.upon_value]
  exact hK _ _ _ hk hs' hm

theorem args_map {fr : Fr} {a : Act} (hf : FrOK fr a) {l : Array Operand} {vs : List Value} (h : evalL fr l.toList = some vs) : l.map a.eval = ⟨vs⟩ := by
  apply Array.ext'
  rw [Array.toList_map, hf.evalL h]

theorem parts_map {fr : Fr} {a : Act} (hf : FrOK fr a) {l : Array (Nat × Operand)} {vs : List (Nat × Value)} (h : zipE fr l.toList = some vs) :
    (l.map fun (i, x) => (i, a.eval x)) = ⟨vs⟩ := by
  apply Array.ext'
  rw [Array.toList_map, ← hf.zipE h]

theorem opt_sound {P : Program} {o : Oper} {fr : Fr} {h : H} {K X : Value → H → Prop} {a : Act} {w : World} {next : Act → World → Prop} {Q : Exit → Act → World → Prop}
    (ho : opt P o fr h K X) (hf : FrOK fr a) (hs : Sub h w)
    (hK : ∀ v h' w', K v h' → Sub h' w' → Stp h w h' w' → next (a.put o.dst v) w')
    (hX : ∀ v h' w', X v h' → Sub h' w' → Stp h w h' w' → Q (.panic [⟨v, false, false⟩]) a w') : o.wp P a w next Q := by
  unfold opt at ho
  have pur : ∀ r, K r h → (execOp a.eval o).run P w = .ok (.value r) w → o.wp P a w next Q := fun r hk hr => val_wp hr hk hs (Stp.refl h w) hK
  split at ho
  · rename_i x hop
    obtain ⟨v, hv, hk⟩ := on_spec ho
    exact pur v hk (by simp [execOp, hop, hf.evalO hv])
  · rename_i x hop
    obtain ⟨v, hv, hk⟩ := on_spec ho
    exact pur v hk (by simp [execOp, hop, hf.evalO hv])
  · rename_i c x y hop
    obtain ⟨v, hv, ho⟩ := on_spec ho
    obtain ⟨b, e, ho⟩ := boolP_spec ho
    subst e
    cases b with
    | true => obtain ⟨v, hv2, hk⟩ := on_spec ho; exact pur v hk (by simp [execOp, hop, hf.evalO hv, hf.evalO hv2, asBool])
    | false => obtain ⟨v, hv2, hk⟩ := on_spec ho; exact pur v hk (by simp [execOp, hop, hf.evalO hv, hf.evalO hv2, asBool])
  · rename_i e hop
    obtain ⟨r, h', w', hk, hr, hs', hm⟩ := allocP_run ho w hs
    exact val_wp (by simp [execOp, hop, hr]) hk hs' hm hK
  · rename_i e x hop
    obtain ⟨v, hv, ho⟩ := on_spec ho
    obtain ⟨r, h', w', hk, hr, hs', hm⟩ := boxP_run (P := P) ho w hs
    exact val_wp (by simp [execOp, hop, hf.evalO hv, hr]) hk hs' hm hK
  · rename_i t parts hop
    obtain ⟨ps, hv, ho⟩ := on_spec ho
    obtain ⟨r, hk, hr⟩ := buildP_run ho
    exact pur r hk (by simp only [execOp, hop, parts_map hf hv, Sem.run_bind, hr w, Result.andThen_ok, Sem.run_pure])
  · rename_i t n parts hop
    obtain ⟨ps, hv, ho⟩ := on_spec ho
    obtain ⟨r, h', w', hk, hr, hs', hm⟩ := buildSliceP_run ho w hs
    exact val_wp (by simp only [execOp, hop, parts_map hf hv, Sem.run_bind, hr, Result.andThen_ok, Sem.run_pure]) hk hs' hm hK
  · rename_i t x hop
    obtain ⟨v, hv, ho⟩ := on_spec ho
    obtain ⟨r, hk, hr⟩ := loadP_run ho
    exact pur r hk (by simp [execOp, hop, hf.evalO hv, hr w hs])
  · rename_i t x y hop
    obtain ⟨v, hv, ho⟩ := on_spec ho
    obtain ⟨u, hu, ho⟩ := on_spec ho
    obtain ⟨h', hk, hr⟩ := storeP_run ho
    obtain ⟨w', hr, hs', hm⟩ := hr w hs
    unfold Oper.wp
    rw [show (execOp a.eval o).run P w = .ok .skip w' by simp [execOp, hop, hf.evalO hv, hf.evalO hu, hr], Oper.upon_skip]
    exact hK _ _ _ hk hs' hm
  · rename_i x hop
    obtain ⟨v, hv, ho⟩ := on_spec ho
    obtain ⟨p, e, hk⟩ := ptrP_spec ho
    subst e
    exact pur _ hk (by simp [execOp, hop, hf.evalO hv])
  · rename_i op t x y yt hop
    obtain ⟨v, hv, ho⟩ := on_spec ho
    obtain ⟨u, hu, ho⟩ := on_spec ho
    obtain ⟨r, hk, hr⟩ := binP_run ho
    have hr' := hr w hs
    simp only [Sem.run_bind] at hr'
    exact pur r hk (by simp only [execOp, hop, hf.evalO hv, hf.evalO hu, Sem.run_bind, hr', Result.andThen_ok, Sem.run_pure])
  · rename_i op t x hop
    obtain ⟨v, hv, ho⟩ := on_spec ho
    obtain ⟨r, hk, hr⟩ := unP_run ho
    exact pur r hk (by simp [execOp, hop, hf.evalO hv, hr w hs])
  · rename_i s d x hop
    obtain ⟨v, hv, ho⟩ := on_spec ho
    obtain ⟨r, hk, hr⟩ := convP_run ho
    exact pur r hk (by simp [execOp, hop, hf.evalO hv, hr w hs])
  · rename_i t x hop
    obtain ⟨v, hv, ho⟩ := on_spec ho
    obtain ⟨r, hk, hr⟩ := mkIfcP_run ho
    exact pur r hk (by simp [execOp, hop, hf.evalO hv, hr w])
  · rename_i fn first cap hop
    obtain ⟨vf, hv, ho⟩ := on_spec ho
    obtain ⟨vc, hu, hk⟩ := on_spec ho
    exact pur _ hk (by simp [execOp, hop, args_map hf hv, args_map hf hu, Instr.makeFunc])
  · rename_i t l c hop
    obtain ⟨v, hv, ho⟩ := on_spec ho
    obtain ⟨u, hu, ho⟩ := on_spec ho
    obtain ⟨r, h', w', hk, hr, hs', hm⟩ := makeSliceP_run ho w hs
    exact val_wp (by simp [execOp, hop, hf.evalO hv, hf.evalO hu, hr]) hk hs' hm hK
  · rename_i t x lo hi mx hop
    obtain ⟨v, hv, ho⟩ := on_spec ho
    obtain ⟨l, hl, ho⟩ := on_spec ho
    obtain ⟨hi', hh, ho⟩ := on_spec ho
    obtain ⟨m, hm, ho⟩ := on_spec ho
    obtain ⟨r, hk, hr⟩ := sliceP_run ho
    exact pur r hk (by simp only [execOp, hop, hf.evalO hv, hf.optE hl, hf.optE hh, hf.optE hm, Sem.run_bind, hr w hs, Result.andThen_ok, Sem.run_pure])
  · rename_i t x f hop
    obtain ⟨v, hv, ho⟩ := on_spec ho
    obtain ⟨r, hk, hr⟩ := fieldAddrP_run ho
    exact pur r hk (by simp [execOp, hop, hf.evalO hv, hr w])
  · rename_i t x f hop
    obtain ⟨v, hv, ho⟩ := on_spec ho
    obtain ⟨r, hk, hr⟩ := fieldP_run ho
    exact pur r hk (by simp [execOp, hop, hf.evalO hv, hr w])
  · rename_i t x ix hop
    obtain ⟨v, hv, ho⟩ := on_spec ho
    obtain ⟨u, hu, ho⟩ := on_spec ho
    obtain ⟨r, hk, hr⟩ := idxAddrP_run ho
    exact pur r hk (by simp [execOp, hop, hf.evalO hv, hf.evalO hu, hr w])
  · rename_i t x ix hop
    obtain ⟨v, hv, ho⟩ := on_spec ho
    obtain ⟨u, hu, ho⟩ := on_spec ho
    obtain ⟨r, hk, hr⟩ := indexP_run ho
    exact pur r hk (by simp [execOp, hop, hf.evalO hv, hf.evalO hu, hr w hs])
  · rename_i x ix hop
    obtain ⟨v, hv, ho⟩ := on_spec ho
    obtain ⟨vs, e, ho⟩ := tupP_spec ho
    obtain ⟨u, hu, hk⟩ := on_spec ho
    subst e
    exact pur u hk (by simp [execOp, hop, hf.evalO hv, Instr.extract, hu])
  · rename_i x t as ok hop
    obtain ⟨v, hv, ho⟩ := on_spec ho
    obtain ⟨r, hr, hk⟩ := ho
    exact pur r hk (by simp [execOp, hop, hf.evalO hv, hr w hs])
  · rename_i c hop
    obtain ⟨args, hargs, ho⟩ := on_spec ho
    have ham := args_map hf hargs
    split at ho
    · rename_i b hcal
      obtain ⟨r, h', w', hk, hr, hs', hm⟩ := builtinP_run (ty := o.type) (cs := c.args.map fun | .const _ => true | _ => false) ho w hs
      refine val_wp ?_ hk hs' hm hK
      simp only [execOp, hop, resolve, hcal, ham, pure_bind, invoke]
      exact hr
    · rename_i f hcal
      obtain ⟨v, hv, ho⟩ := on_spec ho
      obtain ⟨fid, first, cap, e, ht⟩ := funP_spec ho
      subst e
      have ea : (⟨first⟩ : Array Value) ++ (⟨args⟩ : Array Value) ++ (⟨cap⟩ : Array Value) = ⟨first ++ (args ++ cap)⟩ := by
        apply Array.ext'
        simp
      refine ht.case (fun hx => ?_) fun ht => ?_
      · obtain ⟨r, hr, hk⟩ := hx
        refine val_wp (h' := h) (r := r) (w' := w) ?_ (tyV_spec (show tyV P o.type _ (fun v => K v h) from hk)) hs (Stp.refl h w) hK
        simp only [execOp, hop, resolve, hcal, ham, hf.evalO hv, Deferred.ofValue, pure_bind, invoke]
        first
          | (rw [ea]; exact hr w hs)
          | (have := hr w hs; simpa using this)
      refine T_wp ht hs ?_ hK hX
      simp only [execOp, hop, resolve, hcal, ham, hf.evalO hv, Deferred.ofValue, pure_bind, invoke]
      rw [run_callFunc ht.1]
      congr 2
    · rename_i r name hcal
      obtain ⟨v, hv, ho⟩ := on_spec ho
      obtain ⟨t, u, e, f, rv, hmeth, ht⟩ := methP_spec ho
      subst e
      refine T_wp ht hs ?_ hK hX
      have hx : (#[Value.iface t u] ++ (⟨args⟩ : Array Value)).extract 1 (#[Value.iface t u] ++ (⟨args⟩ : Array Value)).size = ⟨args⟩ := by
        apply Array.ext'
        simp
      have h0 : (#[Value.iface t u] ++ (⟨args⟩ : Array Value))[0]? = some (Value.iface t u) := by simp
      simp only [execOp, hop, resolve, hcal, ham, hf.evalO hv, pure_bind, invoke, h0, hx, callMethod, Sem.run_bind, run_program, Result.andThen_ok, hmeth w hs]
      rw [run_callFunc ht.1]
      congr 2
      apply Array.ext'
      simp
  · rename_i x hop
    obtain ⟨v, hv, ho⟩ := on_spec ho
    obtain ⟨t, u, e, ho⟩ := panP_spec ho
    subst e
    unfold Oper.wp
    rw [show (execOp a.eval o).run P w = .halt (.panic (.iface t u)) w by simp [execOp, hop, hf.evalO hv, Instr.panic], Oper.upon_panic]
    exact hX _ _ _ ho hs (Stp.refl h w)
  · exact ho.elim

end Go.Proofs.YtjlojokockfapaaGreatDoor

namespace Go.Proofs.YtjlojokockfapaaGreatDoor
open Go
set_option linter.unusedVariables false
set_option linter.unusedSimpArgs false

def LinR (R : H → H → Prop) (F : H → (Value → Prop) → Prop) : Prop := ∀ h K, F h K → ∃ v, K v ∧ ∀ h' K', R h h' → K' v → F h' K'

def Ext (h h' : H) : Prop := ∀ b o, h b = some o → h' b = some o
def Any (_ _ : H) : Prop := True

theorem Ext.refl (h : H) : Ext h h := fun _ _ e => e
theorem Ext.put {h : H} {b : Nat} (hb : h b = none) (o : Obj) : Ext h (hput h b o) := fun k ok hk => by
  unfold hput
  split
  · rename_i e; subst e; rw [hb] at hk; cases hk
  · exact hk
theorem Ext.cell {h h' : H} (he : Ext h h') {a : Addr} {v : Value} (hc : hcell h a = some v) : hcell h' a = some v := by
  unfold hcell at hc ⊢
  split at hc
  · rename_i c e f hb
    rw [he _ _ hb]; exact hc
  · cases hc
theorem Ext.sub {h h' : H} (he : Ext h h') {w : World} (hs : Sub h' w) : Sub h w := fun b o hb => hs b o (he b o hb)

section
variable {R : H → H → Prop}
theorem lin_pure (v : Value) : LinR R (fun _ K => K v) := fun h K hk => ⟨v, hk, fun _ _ _ hk' => hk'⟩
theorem lin_false : LinR R (fun _ _ => False) := fun _ _ hk => hk.elim
theorem lin_and (c : Prop) {F : H → (Value → Prop) → Prop} (hF : LinR R F) : LinR R (fun h K => c ∧ F h K) := fun h K hk =>
  let ⟨v, h1, h2⟩ := hF h K hk.2; ⟨v, h1, fun h' K' r k => ⟨hk.1, h2 h' K' r k⟩⟩
theorem lin_on {α : Type} (o : Option α) {F : α → H → (Value → Prop) → Prop} (hF : ∀ a, LinR R (F a)) : LinR R (fun h K => on o fun a => F a h K) := by
  cases o with
  | none => exact lin_false
  | some a => exact hF a
theorem lin_bif (b : Bool) {F G : H → (Value → Prop) → Prop} (hF : LinR R F) (hG : LinR R G) : LinR R (fun h K => bif b then F h K else G h K) := by
  cases b
  · exact hG
  · exact hF
theorem lin_ifP (b : Bool) {F G : H → (Value → Prop) → Prop} (hF : LinR R F) (hG : LinR R G) : LinR R (fun h K => ifP b (F h K) (G h K)) := by
  cases b
  · exact hG
  · exact hF
theorem lin_ptrP (v : Value) {F : Addr → H → (Value → Prop) → Prop} (hF : ∀ a, LinR R (F a)) : LinR R (fun h K => ptrP v fun a => F a h K) := fun h K hk => by
  obtain ⟨a, rfl, hk'⟩ := ptrP_spec hk
  exact hF a h K hk'
theorem lin_ptrO (v : Value) {F : Option Addr → H → (Value → Prop) → Prop} (hF : ∀ a, LinR R (F a)) : LinR R (fun h K => ptrO v fun a => F a h K) := fun h K hk => by
  obtain ⟨a, rfl, hk'⟩ := ptrO_spec hk
  exact hF a h K hk'
theorem lin_slcP (v : Value) {F : Option Addr → Nat → Nat → H → (Value → Prop) → Prop} (hF : ∀ a l c, LinR R (F a l c)) : LinR R (fun h K => slcP v fun a l c => F a l c h K) := fun h K hk => by
  obtain ⟨a, l, c, rfl, hk'⟩ := slcP_spec hk
  exact hF a l c h K hk'
theorem lin_intP (v : Value) {F : Int → H → (Value → Prop) → Prop} (hF : ∀ a, LinR R (F a)) : LinR R (fun h K => intP v fun a => F a h K) := fun h K hk => by
  obtain ⟨k, a, rfl, hk'⟩ := intP_spec hk
  exact hF a h K hk'
theorem lin_boolP (v : Value) {F : Bool → H → (Value → Prop) → Prop} (hF : ∀ a, LinR R (F a)) : LinR R (fun h K => boolP v fun a => F a h K) := fun h K hk => by
  obtain ⟨a, rfl, hk'⟩ := boolP_spec hk
  exact hF a h K hk'
theorem lin_aggP (v : Value) {F : List Value → H → (Value → Prop) → Prop} (hF : ∀ a, LinR R (F a)) : LinR R (fun h K => aggP v fun a => F a h K) := fun h K hk => by
  obtain ⟨a, rfl, hk'⟩ := aggP_spec hk
  exact hF a h K hk'
theorem lin_tupP (v : Value) {F : List Value → H → (Value → Prop) → Prop} (hF : ∀ a, LinR R (F a)) : LinR R (fun h K => tupP v fun a => F a h K) := fun h K hk => by
  obtain ⟨a, rfl, hk'⟩ := tupP_spec hk
  exact hF a h K hk'
theorem lin_ex {α : Type} (c : H → α → Prop) (hc : ∀ h h' a, R h h' → c h a → c h' a) {F : α → H → (Value → Prop) → Prop} (hF : ∀ a, LinR R (F a)) :
    LinR R (fun h K => ∃ a, c h a ∧ F a h K) := fun h K ⟨a, h1, h2⟩ =>
  let ⟨v, k, r⟩ := hF a h K h2; ⟨v, k, fun h' K' hr hk => ⟨a, hc _ _ _ hr h1, r h' K' hr hk⟩⟩
theorem lin_ixS (x : Value) (i : Int) (sz : Nat) {F : Addr → H → (Value → Prop) → Prop} (hF : ∀ a, LinR R (F a)) : LinR R (fun h K => ixS x i sz fun a => F a h K) := fun h K hk => by
  obtain ⟨a, l, c, rfl, h0, h1, hk'⟩ := ixS_spec hk
  obtain ⟨v, k, r⟩ := hF _ h K hk'
  exact ⟨v, k, fun h' K' hr hk => ⟨h0, h1, r h' K' hr hk⟩⟩
theorem lin_ixA (a : Addr) (n : Nat) (i : Int) (sz : Nat) {F : Addr → H → (Value → Prop) → Prop} (hF : ∀ a, LinR R (F a)) : LinR R (fun h K => ixA a n i sz fun a => F a h K) := fun h K hk => by
  obtain ⟨h0, h1, hk'⟩ := hk
  obtain ⟨v, k, r⟩ := hF _ h K hk'
  exact ⟨v, k, fun h' K' hr hk => ⟨h0, h1, r h' K' hr hk⟩⟩
theorem lin_bndP (v : Option Value) (d : Int) {F : Int → H → (Value → Prop) → Prop} (hF : ∀ a, LinR R (F a)) : LinR R (fun h K => bndP v d fun a => F a h K) := fun h K hk => by
  rcases bndP_spec hk with ⟨rfl, hk'⟩ | ⟨k, i, rfl, hk'⟩
  · exact hF _ h K hk'
  · exact hF _ h K hk'

theorem lin_intBin (op : BinOp) (k : IntKind) (a b : Int) : LinR R (fun _ K => intBin op k a b K) := by
  cases op <;> first
    | exact lin_pure _
    | exact lin_and _ (lin_pure _)

theorem lin_partP (P : Program) (t : TypeId) (cs : List Value) (off : Nat) : LinR R (fun _ K => partP P t cs off K) := by
  unfold partP
  rcases P.underlying t with _ | d
  · exact lin_false
  · cases d <;> first
      | exact lin_pure _
      | exact lin_ex (fun _ n => cs[off]? = some (.int _ n)) (fun _ _ _ _ h => h) fun n => lin_pure _
      | exact lin_ex (fun _ n => cs[off]? = some (.bool n)) (fun _ _ _ _ h => h) fun n => lin_pure _
      | exact lin_ex (fun _ n => cs[off]? = some n) (fun _ _ _ _ h => h) fun n => lin_pure _

theorem lin_idxAddrP (P : Program) (t : TypeId) (x ix : Value) : LinR R (fun _ K => idxAddrP P t x ix K) := by
  unfold idxAddrP
  rcases P.underlying t with _ | d
  · exact lin_false
  · cases d <;> first
      | exact lin_false
      | exact lin_bif _ lin_false (lin_intP _ fun i => lin_ixS _ _ _ fun a => lin_pure _)
      | exact lin_bif _ lin_false (lin_intP _ fun i => lin_ptrP _ fun a => lin_ixA _ _ _ _ fun a => lin_pure _)

theorem lin_fieldP (P : Program) (t : TypeId) (x : Value) (f : Nat) : LinR R (fun _ K => fieldP P t x f K) := by
  unfold fieldP
  rcases P.underlying t with _ | d
  · exact lin_false
  · cases d <;> first
      | exact lin_false
      | exact lin_on _ fun fd => lin_aggP _ fun cs => lin_partP P _ _ _

theorem lin_fieldAddrP (P : Program) (t : TypeId) (x : Value) (f : Nat) : LinR R (fun _ K => fieldAddrP P t x f K) := by
  unfold fieldAddrP
  rcases P.underlying t with _ | d
  · exact lin_false
  · cases d <;> first
      | exact lin_false
      | exact lin_on _ fun fd => lin_bif _ lin_false (lin_ptrP _ fun a => lin_pure _)

theorem lin_mkIfcP (P : Program) (t : TypeId) (x : Value) : LinR R (fun _ K => mkIfcP P t x K) := by
  unfold mkIfcP
  rcases P.underlying t with _ | d
  · exact lin_false
  · cases d <;> first
      | exact lin_pure _
      | exact lin_false

theorem lin_lenP (P : Program) (t : TypeId) (x : Value) (h0 : H) : LinR R (fun _ K => lenP P t x h0 K) := by
  unfold lenP
  rcases P.underlying t with _ | d
  · exact lin_false
  · cases d <;> first
      | exact lin_false
      | exact lin_slcP _ fun a l c => lin_pure _
      | exact lin_pure _
      | (cases x <;> first
          | exact lin_pure _
          | exact lin_false)

theorem lin_foldI (f : Int → Int → Int) : ∀ (r : List Value) (v : Value), LinR R (fun _ K => foldI f v r K) := by
  intro r
  induction r with
  | nil => intro v; cases v <;> exact lin_pure _
  | cons x r ih =>
    intro v
    cases v <;> cases x <;> first
      | exact lin_false
      | exact ih _

/-- 'fillP' lays what it lays. -/
theorem fillP_det {P : Program} {len : Nat} {place : Nat → Option (Nat × TypeId)} : ∀ (parts : List (Nat × Value)) (cells : List Value),
    ∃ (W : Prop) (cs : List Value), ∀ K, fillP P len place parts cells K ↔ W ∧ K cs := by
  intro parts
  induction parts with
  | nil => intro cells; exact ⟨True, cells, fun K => by simp [fillP]⟩
  | cons p r ih =>
    obtain ⟨i, v⟩ := p
    intro cells
    have no : ∀ {A : (List Value → Prop) → Prop}, (∀ K, ¬ A K) → ∃ (W : Prop) (cs : List Value), ∀ K, A K ↔ W ∧ K cs :=
      fun hA => ⟨False, [], fun K => ⟨fun h => (hA K h).elim, fun h => h.1.elim⟩⟩
    simp only [fillP]
    cases place i with
    | none => exact no fun K h => h
    | some ot =>
      simp only [on]
      cases Nat.ble (ot.1 + P.cellsOf ot.2) len with
      | false => exact no fun K h => h
      | true =>
        simp only [cond_true]
        have agg : ∃ (W : Prop) (cs : List Value), ∀ K, (aggP v fun vs => vs.length = P.cellsOf ot.2 ∧ fillP P len place r (cells.take ot.1 ++ vs ++ cells.drop (ot.1 + P.cellsOf ot.2)) K) ↔ W ∧ K cs := by
          cases v <;> first
            | (rename_i cs
               obtain ⟨W, c, hW⟩ := ih (cells.take ot.1 ++ cs.toList ++ cells.drop (ot.1 + P.cellsOf ot.2))
               refine ⟨cs.toList.length = P.cellsOf ot.2 ∧ W, c, fun K => ?_⟩
               show (cs.toList.length = P.cellsOf ot.2 ∧ fillP P len place r (cells.take ot.1 ++ cs.toList ++ cells.drop (ot.1 + P.cellsOf ot.2)) K) ↔ _
               rw [hW K, and_assoc])
            | exact no fun K h => h
        have one : ∃ (W : Prop) (cs : List Value), ∀ K, (bif Nat.beq (P.cellsOf ot.2) 1 then oneP v (fillP P len place r (cells.take ot.1 ++ [v] ++ cells.drop (ot.1 + 1)) K) else False) ↔ W ∧ K cs := by
          cases Nat.beq (P.cellsOf ot.2) 1 with
          | false => exact no fun K h => h
          | true =>
            simp only [cond_true]
            cases v <;> first
              | exact ih _
              | exact no fun K h => h
        rcases P.underlying ot.2 with _ | d
        · exact no fun K h => h
        · cases d <;> first
            | exact agg
            | exact one

theorem lin_fillP (P : Program) (len : Nat) (place : Nat → Option (Nat × TypeId)) (parts : List (Nat × Value)) (cells : List Value) :
    LinR R (fun _ K => fillP P len place parts cells fun cs => K (.agg ⟨cs⟩)) := by
  obtain ⟨W, cs, hW⟩ := fillP_det (P := P) (len := len) (place := place) parts cells
  intro h K hk
  rw [hW] at hk
  exact ⟨_, hk.2, fun h' K' _ hk' => (hW _).2 ⟨hk.1, hk'⟩⟩

theorem lin_buildP (P : Program) (t : TypeId) (parts : List (Nat × Value)) : LinR R (fun _ K => buildP P t parts K) := by
  unfold buildP
  refine lin_on _ fun z => ?_
  rcases P.underlying t with _ | d
  · exact lin_false
  · cases d <;> first
      | exact lin_false
      | exact lin_bif _ (lin_fillP P _ _ _ _) lin_false

theorem lin_runP (P : Program) (s : Sem Value) : LinR Ext (fun h K => runP P h s K) := fun h K ⟨r, h1, h2⟩ =>
  ⟨r, h2, fun h' K' he hk => ⟨r, fun w hs => h1 w (he.sub hs), hk⟩⟩

theorem lin_unP (P : Program) (op : UnOp) (x : Value) : LinR Ext (fun h K => unP P op x h K) := by
  cases op <;> first
    | exact lin_boolP _ fun b => lin_pure _
    | (cases x <;> first
        | exact lin_pure _
        | exact lin_runP P _)

theorem lin_convP (P : Program) (s d : TypeId) (x : Value) : LinR Ext (fun h K => convP P s d x h K) := by
  unfold convP
  rcases P.underlying s with _ | d1
  · exact lin_runP P _
  · cases d1 <;> first
      | exact lin_runP P _
      | (rcases P.underlying d with _ | d2
         · exact lin_runP P _
         · cases d2 <;> first
             | exact lin_runP P _
             | exact lin_intP _ fun n => lin_pure _)

theorem lin_indexP (P : Program) (t : TypeId) (x ix : Value) : LinR Ext (fun h K => indexP P t x ix h K) := by
  unfold indexP
  rcases P.underlying t with _ | d
  · exact lin_runP P _
  · cases d <;> first
      | exact lin_runP P _
      | exact lin_intP _ fun i => lin_aggP _ fun cs => lin_and _ (lin_and _ (lin_partP P _ _ _))

theorem lin_sliceP (P : Program) (t : TypeId) (x : Value) (lo hi mx : Option Value) : LinR Ext (fun h K => sliceP P t x lo hi mx h K) := by
  unfold sliceP
  rcases P.underlying t with _ | d
  · exact lin_runP P _
  · cases d <;> first
      | exact lin_runP P _
      | (cases mx <;> first
          | exact lin_runP P _
          | exact lin_bif _ lin_false (lin_slcP _ fun a l c => lin_bndP _ _ fun hi => lin_and _ (lin_and _ (lin_bndP _ _ fun lo => lin_and _ (lin_and _ (lin_pure _))))))

theorem lin_binP (P : Program) (op : BinOp) (t : TypeId) (ox oy : Operand) (x y : Value) : LinR Ext (fun h K => binP P op t ox oy x y h K) := by
  unfold binP
  rcases P.underlying t with _ | d
  · exact lin_runP P _
  · cases d <;> first
      | exact lin_runP P _
      | (cases x <;> cases y <;> first
          | exact lin_false
          | exact lin_bif _ (lin_intBin _ _ _ _) lin_false)
      | (cases x <;> cases y <;> first
          | exact lin_false
          | (cases op <;> first
              | exact lin_pure _
              | exact lin_false))
      | (cases y <;> first
          | exact lin_runP P _
          | (rename_i a; cases a <;> first
              | exact lin_runP P _
              | exact lin_ptrO _ fun q => lin_bif _ (lin_pure _) lin_false))
      | (cases y <;> first
          | exact lin_runP P _
          | (rename_i a l c; cases a <;> first
              | exact lin_runP P _
              | exact lin_slcP _ fun q _ _ => lin_bif _ (lin_pure _) lin_false))

theorem lin_not (P : Program) (x : Value) : LinR R (fun h K => unP P .not x h K) := lin_boolP _ fun b => lin_pure _
theorem lin_convP0 (P : Program) (s d : TypeId) (x : Value) {k1 k2 : IntKind} (h1 : P.underlying s = some (.int k1)) (h2 : P.underlying d = some (.int k2)) : LinR R (fun h K => convP P s d x h K) := by
  unfold convP
  rw [h1, h2]
  exact lin_intP _ fun n => lin_pure _
theorem lin_indexP0 (P : Program) (t : TypeId) (x ix : Value) {n e : Nat} (h1 : P.underlying t = some (.array n e)) : LinR R (fun h K => indexP P t x ix h K) := by
  unfold indexP
  rw [h1]
  exact lin_intP _ fun i => lin_aggP _ fun cs => lin_and _ (lin_and _ (lin_partP P _ _ _))
theorem lin_sliceP0 (P : Program) (t : TypeId) (x : Value) (lo hi : Option Value) {e : Nat} (h1 : P.underlying t = some (.slice e)) : LinR R (fun h K => sliceP P t x lo hi none h K) := by
  unfold sliceP
  rw [h1]
  exact lin_bif _ lin_false (lin_slcP _ fun a l c => lin_bndP _ _ fun hi => lin_and _ (lin_and _ (lin_bndP _ _ fun lo => lin_and _ (lin_and _ (lin_pure _)))))

theorem lin_binP0 (P : Program) (op : BinOp) (t : TypeId) (ox oy : Operand) (x y : Value)
    (hc : (∃ k, P.underlying t = some (.int k)) ∨ P.underlying t = some .bool ∨ (∃ e, P.underlying t = some (.pointer e) ∧ y = .pointer none) ∨ (∃ e l c, P.underlying t = some (.slice e) ∧ y = .slice none l c)) :
    LinR R (fun h K => binP P op t ox oy x y h K) := by
  unfold binP
  rcases hc with ⟨k, hu⟩ | hu | ⟨e, hu, rfl⟩ | ⟨e, l, c, hu, rfl⟩
  · rw [hu]
    cases x <;> cases y <;> first
      | exact lin_false
      | exact lin_bif _ (lin_intBin _ _ _ _) lin_false
  · rw [hu]
    cases x <;> cases y <;> first
      | exact lin_false
      | (cases op <;> first
          | exact lin_pure _
          | exact lin_false)
  · rw [hu]; exact lin_ptrO _ fun q => lin_bif _ (lin_pure _) lin_false
  · rw [hu]; exact lin_slcP _ fun q _ _ => lin_bif _ (lin_pure _) lin_false

theorem lin_loadP (P : Program) (t : TypeId) (va : Value) (hst : ∀ a, va = .pointer (some a) → ∀ h h', R h h' → ∀ i, i < P.cellsOf t + 1 → ∀ v, hcell h (a.add i) = some v → hcell h' (a.add i) = some v) :
    LinR R (fun h K => loadP P t va h K) := by
  intro h K hk
  unfold loadP at hk
  obtain ⟨a, rfl, hk'⟩ := ptrP_spec hk
  clear hk
  have hst := hst a rfl
  have h0 : ∀ h h', R h h' → ∀ v, hcell h a = some v → hcell h' a = some v := fun h h' r v hv => by
    have := hst h h' r 0 (by omega) v; rw [add_zero'] at this; exact this hv
  have hN : LinR R (fun h K => ldN h a (P.cellsOf t) fun vs => K (.agg ⟨vs⟩)) := by
    rintro h K ⟨vs, h1, h2, h3⟩
    exact ⟨_, h3, fun h' K' hr hk => ⟨vs, h1, fun i v hv => hst h h' hr i (by have := (List.getElem?_eq_some_iff.1 hv).1; omega) v (h2 i v hv), hk⟩⟩
  have main : LinR R (fun h K => match P.underlying t with
    | some (.int k) => ldI h a k fun n => K (.int k n)
    | some .bool => ldB h a fun b => K (.bool b)
    | some (.struct _) => ldN h a (P.cellsOf t) fun vs => K (.agg ⟨vs⟩)
    | some (.array _ _) => ldN h a (P.cellsOf t) fun vs => K (.agg ⟨vs⟩)
    | some _ => ldV h a K
    | none => False) := by
    rcases P.underlying t with _ | d
    · exact lin_false
    · cases d <;> first
        | exact hN
        | exact lin_ex (fun h n => hcell h a = some (.int _ n)) (fun h h' n r hv => h0 h h' r _ hv) fun n => lin_pure _
        | exact lin_ex (fun h n => hcell h a = some (.bool n)) (fun h h' n r hv => h0 h h' r _ hv) fun n => lin_pure _
        | exact lin_ex (fun h n => hcell h a = some n) (fun h h' n r hv => h0 h h' r _ hv) fun n => lin_pure _
  exact main h K hk'
end

end Go.Proofs.YtjlojokockfapaaGreatDoor

namespace Go.Proofs.YtjlojokockfapaaGreatDoor
open Go
set_option linter.unusedVariables false
set_option linter.unusedSimpArgs false

theorem evalL_eq {fr fr' : Fr} : ∀ {l : List Operand}, (∀ x ∈ l, evalO fr x = evalO fr' x) → evalL fr l = evalL fr' l := by
  intro l
  induction l with
  | nil => intro _; rfl
  | cons x r ih => intro h; simp only [evalL]; rw [h x (by simp), ih fun y hy => h y (by simp [hy])]

theorem zipE_eq {fr fr' : Fr} : ∀ {l : List (Nat × Operand)}, (∀ p ∈ l, evalO fr p.2 = evalO fr' p.2) → zipE fr l = zipE fr' l := by
  intro l
  induction l with
  | nil => intro _; rfl
  | cons x r ih => intro h; obtain ⟨i, x⟩ := x; simp only [zipE]; rw [h (i, x) (by simp), ih fun y hy => h y (by simp [hy])]

theorem optE_eq {fr fr' : Fr} {o : Option Operand} (h : ∀ x ∈ o, evalO fr x = evalO fr' x) : optE fr o = optE fr' o := by
  cases o with
  | none => rfl
  | some x => simp only [optE]; rw [h x (by simp)]

theorem opt_fr {P : Program} {o : Oper} {fr fr' : Fr} (hag : ∀ x ∈ o.op.operands.toList, evalO fr x = evalO fr' x) (h : H) (K X : Value → H → Prop) :
    opt P o fr h K X = opt P o fr' h K X := by
  unfold opt
  cases hop : o.op <;> rw [hop] at hag <;> simp only [Op.operands] at hag <;> try rfl
  case move x => simp only; rw [hag x (by simp)]
  case assign x => simp only; rw [hag x (by simp)]
  case pick c a b => simp only; rw [hag c (by simp), hag a (by simp), hag b (by simp)]
  case box e x => simp only; rw [hag x (by simp)]
  case build t ps => simp only; rw [zipE_eq fun p hp => hag p.2 (by simp; exact ⟨p.1, by simpa using hp⟩)]
  case buildSlice t n ps => simp only; rw [zipE_eq fun p hp => hag p.2 (by simp; exact ⟨p.1, by simpa using hp⟩)]
  case load t a => simp only; rw [hag a (by simp)]
  case store t a v => simp only; rw [hag a (by simp), hag v (by simp)]
  case nilCheck x => simp only; rw [hag x (by simp)]
  case binOp op t x y yt => simp only; rw [hag x (by simp), hag y (by simp)]
  case unOp op t x => simp only; rw [hag x (by simp)]
  case convert s d x => simp only; rw [hag x (by simp)]
  case makeInterface t x => simp only; rw [hag x (by simp)]
  case makeFunc fn first cap => simp only; rw [evalL_eq fun x hx => hag x (by simp at hx ⊢; exact .inl hx), evalL_eq (l := cap.toList) fun x hx => hag x (by simp at hx ⊢; exact .inr hx)]
  case makeSlice t l c => simp only; rw [hag l (by simp), hag c (by simp)]
  case slice t x lo hi mx =>
    simp only
    rw [hag x (by simp), optE_eq (o := lo) fun y hy => hag y (by simp at hy ⊢; simp [hy]), optE_eq (o := hi) fun y hy => hag y (by simp at hy ⊢; simp [hy]), optE_eq (o := mx) fun y hy => hag y (by simp at hy ⊢; simp [hy])]
  case fieldAddr t x f => simp only; rw [hag x (by simp)]
  case field t x f => simp only; rw [hag x (by simp)]
  case indexAddr t x i => simp only; rw [hag x (by simp), hag i (by simp)]
  case index t x i => simp only; rw [hag x (by simp), hag i (by simp)]
  case extract x i => simp only; rw [hag x (by simp)]
  case typeAssert x t a ok => simp only; rw [hag x (by simp)]
  case call c =>
    simp only [Call.operands] at hag ⊢
    rw [evalL_eq fun x hx => hag x (by simp at hx ⊢; exact .inr hx)]
    cases hc : c.callee <;> rw [hc] at hag <;> simp only
    case value f => rw [hag f (by simp)]
    case invoke r n => rw [hag r (by simp)]
  case panic x => simp only; rw [hag x (by simp)]

theorem ldAddr_fr {o : Oper} {fr fr' : Fr} (hag : ∀ x ∈ o.op.operands.toList, evalO fr x = evalO fr' x) : ldAddr fr o = ldAddr fr' o := by
  unfold ldAddr
  cases hop : o.op <;> rw [hop] at hag <;> simp only [Op.operands] at hag <;> try rfl
  case load t a => simp only; rw [hag a (by simp)]

theorem opt_lin0 {P : Program} {o : Oper} (hc : clsOf P o = 0) {fr : Fr} {h : H} {K X : Value → H → Prop} (ho : opt P o fr h K X) :
    ∃ v, K v h ∧ ∀ h' K' X', K' v h' → opt P o fr h' K' X' := by
  unfold opt at ho ⊢
  unfold clsOf at hc
  cases hop : o.op <;> rw [hop] at hc ho <;> simp only at hc ho ⊢ <;> try (first | exact ho.elim | (exfalso; omega))
  case move x => obtain ⟨v, hv, hk⟩ := on_spec ho; exact ⟨v, hk, fun h' K' X' hk' => by rw [hv]; exact hk'⟩
  case assign x => obtain ⟨v, hv, hk⟩ := on_spec ho; exact ⟨v, hk, fun h' K' X' hk' => by rw [hv]; exact hk'⟩
  case pick c a b =>
    obtain ⟨v, hk, hr⟩ := (lin_on (R := Any) (evalO fr c) fun vc => lin_boolP vc fun bc => lin_ifP bc (lin_on (evalO fr a) fun v => lin_pure v) (lin_on (evalO fr b) fun v => lin_pure v)) h (fun v => K v h) ho
    exact ⟨v, hk, fun h' K' X' hk' => hr h' (fun v => K' v h') trivial hk'⟩
  case build t ps =>
    obtain ⟨v, hk, hr⟩ := (lin_on (R := Any) (zipE fr ps.toList) fun ps => lin_buildP P t ps) h (fun v => K v h) ho
    exact ⟨v, hk, fun h' K' X' hk' => hr h' (fun v => K' v h') trivial hk'⟩
  case nilCheck x =>
    obtain ⟨v, hk, hr⟩ := (lin_on (R := Any) (evalO fr x) fun v => lin_ptrP v fun a => lin_pure (.pointer (some a))) h (fun v => K v h) ho
    exact ⟨v, hk, fun h' K' X' hk' => hr h' (fun v => K' v h') trivial hk'⟩
  case makeInterface t x =>
    obtain ⟨v, hk, hr⟩ := (lin_on (R := Any) (evalO fr x) fun v => lin_mkIfcP P t v) h (fun v => K v h) ho
    exact ⟨v, hk, fun h' K' X' hk' => hr h' (fun v => K' v h') trivial hk'⟩
  case makeFunc fn first cap =>
    obtain ⟨v, hk, hr⟩ := (lin_on (R := Any) (evalL fr first.toList) fun vf => lin_on (evalL fr cap.toList) fun vc => lin_pure (.func fn ⟨vf⟩ ⟨vc⟩)) h (fun v => K v h) ho
    exact ⟨v, hk, fun h' K' X' hk' => hr h' (fun v => K' v h') trivial hk'⟩
  case fieldAddr t x f =>
    obtain ⟨v, hk, hr⟩ := (lin_on (R := Any) (evalO fr x) fun v => lin_fieldAddrP P t v f) h (fun v => K v h) ho
    exact ⟨v, hk, fun h' K' X' hk' => hr h' (fun v => K' v h') trivial hk'⟩
  case field t x f =>
    obtain ⟨v, hk, hr⟩ := (lin_on (R := Any) (evalO fr x) fun v => lin_fieldP P t v f) h (fun v => K v h) ho
    exact ⟨v, hk, fun h' K' X' hk' => hr h' (fun v => K' v h') trivial hk'⟩
  case indexAddr t x i =>
    obtain ⟨v, hk, hr⟩ := (lin_on (R := Any) (evalO fr x) fun v => lin_on (evalO fr i) fun vi => lin_idxAddrP P t v vi) h (fun v => K v h) ho
    exact ⟨v, hk, fun h' K' X' hk' => hr h' (fun v => K' v h') trivial hk'⟩
  case extract x i =>
    obtain ⟨v, hk, hr⟩ := (lin_on (R := Any) (evalO fr x) fun v => lin_tupP v fun vs => lin_on (vs[i]?) fun v => lin_pure v) h (fun v => K v h) ho
    exact ⟨v, hk, fun h' K' X' hk' => hr h' (fun v => K' v h') trivial hk'⟩
  case unOp op t x =>
    cases op <;> simp only at hc <;> try (exfalso; omega)
    obtain ⟨v, hk, hr⟩ := (lin_on (R := Any) (evalO fr x) fun v => lin_not P v) h (fun v => K v h) ho
    exact ⟨v, hk, fun h' K' X' hk' => hr h' (fun v => K' v h') trivial hk'⟩
  case convert s d x =>
    split at hc
    · rename_i h1 h2
      obtain ⟨v, hk, hr⟩ := (lin_on (R := Any) (evalO fr x) fun v => lin_convP0 P s d v h1 h2) h (fun v => K v h) ho
      exact ⟨v, hk, fun h' K' X' hk' => hr h' (fun v => K' v h') trivial hk'⟩
    · exfalso; omega
  case slice t x lo hi mx =>
    split at hc
    · rename_i e h1
      cases mx with
      | some m => simp at hc
      | none =>
        obtain ⟨v, hk, hr⟩ := (lin_on (R := Any) (evalO fr x) fun v => lin_on (optE fr lo) fun lo => lin_on (optE fr hi) fun hi => lin_sliceP0 P t v lo hi h1) h (fun v => K v h) ho
        exact ⟨v, hk, fun h' K' X' hk' => hr h' (fun v => K' v h') trivial hk'⟩
    · exfalso; omega
  case index t x i =>
    split at hc
    · rename_i n e h1
      obtain ⟨v, hk, hr⟩ := (lin_on (R := Any) (evalO fr x) fun v => lin_on (evalO fr i) fun vi => lin_indexP0 P t v vi h1) h (fun v => K v h) ho
      exact ⟨v, hk, fun h' K' X' hk' => hr h' (fun v => K' v h') trivial hk'⟩
    · exfalso; omega
  case binOp op t x y yt =>
    obtain ⟨vx, hvx, ho⟩ := on_spec ho
    obtain ⟨vy, hvy, ho⟩ := on_spec ho
    have hcase : (∃ k, P.underlying t = some (.int k)) ∨ P.underlying t = some .bool ∨ (∃ e, P.underlying t = some (.pointer e) ∧ vy = .pointer none) ∨ (∃ e l c, P.underlying t = some (.slice e) ∧ vy = .slice none l c) := by
      rcases hu : P.underlying t with _ | d
      · rw [hu] at hc; cases hc
      · rw [hu] at hc
        cases d <;> simp only at hc <;> try (exfalso; omega)
        · exact .inr (.inl rfl)
        · exact .inl ⟨_, rfl⟩
        · split at hc
          · rename_i e
            simp only [evalO, Option.some.injEq] at hvy
            exact .inr (.inr (.inl ⟨_, rfl, hvy.symm⟩))
          · cases hc
        · split at hc
          · rename_i e
            simp only [evalO, Option.some.injEq] at hvy
            exact .inr (.inr (.inr ⟨_, _, _, rfl, hvy.symm⟩))
          · cases hc
    obtain ⟨v, hk, hr⟩ := (lin_binP0 (R := Any) P op t x y vx vy hcase) h (fun v => K v h) ho
    exact ⟨v, hk, fun h' K' X' hk' => by rw [hvx, hvy]; exact hr h' (fun v => K' v h') trivial hk'⟩
  case call c =>
    obtain ⟨args, hargs, ho⟩ := on_spec ho
    cases hcal : c.callee <;> rw [hcal] at hc ho <;> simp only at hc ho <;> try (exfalso; omega)
    rename_i b
    have key : ∃ v, K v h ∧ ∀ h' K', K' v h' → builtinP P b c.argTypes.toList args h' K' := by
      cases b <;> simp only at hc <;> try (exfalso; omega)
      · unfold builtinP at ho ⊢
        split at ho <;> try (first | exact ho.elim | contradiction)
        rename_i t x hb ht
        obtain ⟨v, hk, hr⟩ := (lin_lenP (R := Any) P t x h) h (fun v => K v h) ho
        exact ⟨v, hk, fun h' K' hk' => by first | exact hr h' (fun v => K' v h') trivial hk' | (rw [ht]; exact hr h' (fun v => K' v h') trivial hk')⟩
      · unfold builtinP at ho ⊢
        split at ho <;> try (first | exact ho.elim | contradiction)
        rename_i v0 r hb
        obtain ⟨v, hk, hr⟩ := (lin_foldI (R := Any) (fun a b => if a < b then b else a) r v0) h (fun v => K v h) ho
        exact ⟨v, hk, fun h' K' hk' => by first | exact hr h' (fun v => K' v h') trivial hk' | (rw [ht]; exact hr h' (fun v => K' v h') trivial hk')⟩
      · unfold builtinP at ho ⊢
        split at ho <;> try (first | exact ho.elim | contradiction)
        rename_i v0 r hb
        obtain ⟨v, hk, hr⟩ := (lin_foldI (R := Any) (fun a b => if b < a then b else a) r v0) h (fun v => K v h) ho
        exact ⟨v, hk, fun h' K' hk' => hr h' (fun v => K' v h') trivial hk'⟩
    obtain ⟨v, hk, hr⟩ := key
    exact ⟨v, hk, fun h' K' X' hk' => by rw [hargs]; simp only [on]; exact hr h' K' hk'⟩

end Go.Proofs.YtjlojokockfapaaGreatDoor

namespace Go.Proofs.YtjlojokockfapaaGreatDoor
open Go
set_option linter.unusedVariables false
set_option linter.unusedSimpArgs false

def isRead (P : Program) (o : Oper) : Prop := clsOf P o = 0 ∨ clsOf P o = 1 ∨ clsOf P o = 5

theorem opt_linE {P : Program} {o : Oper} (hc : isRead P o) {fr : Fr} {h : H} {K X : Value → H → Prop} (ho : opt P o fr h K X) :
    ∃ v, K v h ∧ ∀ h' K' X', Ext h h' → K' v h' → opt P o fr h' K' X' := by
  rcases hc with hc | hc
  · obtain ⟨v, hk, hr⟩ := opt_lin0 hc ho; exact ⟨v, hk, fun h' K' X' _ hk' => hr h' K' X' hk'⟩
  unfold clsOf at hc
  cases hop : o.op <;> rw [hop] at hc <;> simp only at hc <;> try (exfalso; omega)
  all_goals (unfold opt at ho ⊢; rw [hop] at ho; simp only at ho; simp only [hop])
  case load t a =>
    obtain ⟨va, hva, ho⟩ := on_spec ho
    obtain ⟨v, hk, hr⟩ := (lin_loadP (R := Ext) P t va fun a _ h h' he i _ v hv => he.cell hv) h (fun v => K v h) ho
    exact ⟨v, hk, fun h' K' X' he hk' => by rw [hva]; exact hr h' (fun v => K' v h') he hk'⟩
  case binOp op t x y yt =>
    obtain ⟨vx, hvx, ho⟩ := on_spec ho
    obtain ⟨vy, hvy, ho⟩ := on_spec ho
    obtain ⟨v, hk, hr⟩ := (lin_binP P op t x y vx vy) h (fun v => K v h) ho
    exact ⟨v, hk, fun h' K' X' he hk' => by rw [hvx, hvy]; exact hr h' (fun v => K' v h') he hk'⟩
  case unOp op t x =>
    obtain ⟨v, hk, hr⟩ := (lin_on (R := Ext) (evalO fr x) fun v => lin_unP P op v) h (fun v => K v h) ho
    exact ⟨v, hk, fun h' K' X' he hk' => hr h' (fun v => K' v h') he hk'⟩
  case convert s d x =>
    obtain ⟨v, hk, hr⟩ := (lin_on (R := Ext) (evalO fr x) fun v => lin_convP P s d v) h (fun v => K v h) ho
    exact ⟨v, hk, fun h' K' X' he hk' => hr h' (fun v => K' v h') he hk'⟩
  case slice t x lo hi mx =>
    obtain ⟨v, hk, hr⟩ := (lin_on (R := Ext) (evalO fr x) fun v => lin_on (optE fr lo) fun lo => lin_on (optE fr hi) fun hi => lin_on (optE fr mx) fun mx => lin_sliceP P t v lo hi mx) h (fun v => K v h) ho
    exact ⟨v, hk, fun h' K' X' he hk' => hr h' (fun v => K' v h') he hk'⟩
  case index t x i =>
    obtain ⟨v, hk, hr⟩ := (lin_on (R := Ext) (evalO fr x) fun v => lin_on (evalO fr i) fun vi => lin_indexP P t v vi) h (fun v => K v h) ho
    exact ⟨v, hk, fun h' K' X' he hk' => hr h' (fun v => K' v h') he hk'⟩
  case typeAssert x t a ok =>
    obtain ⟨v, hk, hr⟩ := (lin_on (R := Ext) (evalO fr x) fun v => lin_runP P (Instr.typeAssert v t a ok)) h (fun v => K v h) ho
    exact ⟨v, hk, fun h' K' X' he hk' => hr h' (fun v => K' v h') he hk'⟩
  case call c =>
    exfalso
    cases hcal : c.callee <;> rw [hcal] at hc <;> (try simp only at hc) <;> try omega
    rename_i b
    cases b <;> first | (simp at hc; done) | omega | (dsimp only at hc; omega)

/-- a load, over a heap in which its place reads the same -/
theorem opt_linL {P : Program} {o : Oper} (hc : clsOf P o = 1) {fr : Fr} {h : H} {K X : Value → H → Prop} (ho : opt P o fr h K X) :
    ∃ v, K v h ∧ ∀ h' K' X', rdSame P o (ldAddr fr o) h h' → K' v h' → opt P o fr h' K' X' := by
  unfold clsOf at hc
  cases hop : o.op <;> rw [hop] at hc <;> simp only at hc <;> try (exfalso; omega)
  all_goals (unfold opt at ho ⊢; rw [hop] at ho; simp only at ho; simp only [hop])
  case load t a =>
    obtain ⟨va, hva, ho⟩ := on_spec ho
    have hrd : ∀ h h', rdSame P o (ldAddr fr o) h h' → ∀ p, va = .pointer (some p) → ∀ i, i < P.cellsOf t + 1 → hcell h' (p.add i) = hcell h (p.add i) := by
      intro h h' hr p hp i hi
      unfold rdSame ldAddr at hr
      rw [hop] at hr
      simp only [hva] at hr
      subst hp
      exact hr i hi
    obtain ⟨v, hk, hr⟩ := (lin_loadP (R := fun h h' => rdSame P o (ldAddr fr o) h h') P t va fun a ha h h' he i hi v hv => by rw [hrd h h' he a ha i hi]; exact hv) h (fun v => K v h) ho
    exact ⟨v, hk, fun h' K' X' he hk' => by rw [hva]; exact hr h' (fun v => K' v h') he hk'⟩
  case unOp op t x => exfalso; split at hc <;> omega
  case convert s d x => exfalso; split at hc <;> omega
  case slice t x lo hi mx => exfalso; (repeat' split at hc) <;> omega
  case index t x i => exfalso; split at hc <;> omega
  case binOp op t x y yt =>
    exfalso
    rcases hu : P.underlying t with _ | d
    · rw [hu] at hc; cases hc
    · rw [hu] at hc
      cases d <;> simp only at hc <;> try omega
      all_goals (split at hc <;> omega)
  case call c =>
    exfalso
    cases hcal : c.callee <;> rw [hcal] at hc <;> (try simp only at hc) <;> try omega
    rename_i b
    cases b <;> first | (simp at hc; done) | omega | (dsimp only at hc; omega)

/-- a new block: what lies in it, and what is told of it -/
theorem opt_new {P : Program} {o : Oper} (hc : clsOf P o = 2) (fr : Fr) :
    ∃ (W : Prop) (obj : Obj) (vf : Nat → Value), ∀ h K X, opt P o fr h K X ↔ W ∧ newP h obj fun b h' => K (vf b) h' := by
  have no : ∀ {A : H → (Value → H → Prop) → (Value → H → Prop) → Prop}, (∀ h K X, ¬ A h K X) → ∃ (W : Prop) (obj : Obj) (vf : Nat → Value), ∀ h K X, A h K X ↔ W ∧ newP h obj fun b h' => K (vf b) h' :=
    fun hA => ⟨False, .cells #[] 0, fun _ => undef, fun h K X => ⟨fun a => (hA h K X a).elim, fun a => a.1.elim⟩⟩
  unfold clsOf at hc
  cases hop : o.op <;> rw [hop] at hc <;> simp only at hc <;> try (exfalso; omega)
  all_goals (unfold opt; simp only [hop])
  case alloc e =>
    unfold allocP
    cases zeroOf P e with
    | none => exact no fun h K X a => a
    | some z => exact ⟨True, _, _, fun h K X => by simp only [on, true_and]; exact Iff.rfl⟩
  case box e x =>
    unfold boxP
    cases evalO fr x with
    | none => exact no fun h K X a => a
    | some v => exact ⟨True, _, _, fun h K X => by simp only [on, true_and]; exact Iff.rfl⟩
  case buildSlice t n parts =>
    cases zipE fr parts.toList with
    | none => exact no fun h K X a => a
    | some ps =>
      simp only [on]
      unfold buildSliceP
      rcases P.underlying t with _ | d
      · exact no fun h K X a => a
      · cases d <;> try exact no fun h K X a => a
        rename_i e
        dsimp only
        cases zeroOf P e with
        | none => exact no fun h K X a => a
        | some z =>
          dsimp only [on]
          cases (Nat.beq z.length (P.cellsOf e) && Nat.ble (n * P.cellsOf e) (2 ^ 24)) with
          | false => exact no fun h K X a => a
          | true =>
            obtain ⟨W, cs, hW⟩ := fillP_det (P := P) (len := n * P.cellsOf e) (place := fun i => some (i * P.cellsOf e, e)) ps (zrep z n)
            exact ⟨W, .cells ⟨cs⟩ e (0, 0), fun b => .slice (some ⟨b, 0, none⟩) n n, fun h K X => by simp only [cond_true]; exact hW _⟩
  case makeSlice t l c =>
    cases evalO fr l with
    | none => exact no fun h K X a => a
    | some vl =>
    cases evalO fr c with
    | none => exact no fun h K X a => a
    | some vc =>
      simp only [on]
      unfold makeSliceP
      rcases P.underlying t with _ | d
      · exact no fun h K X a => a
      · cases d <;> try exact no fun h K X a => a
        rename_i e
        dsimp only
        cases zeroOf P e with
        | none => exact no fun h K X a => a
        | some z =>
          dsimp only [on]
          cases (Nat.beq z.length (P.cellsOf e)) with
          | false => exact no fun h K X a => a
          | true =>
            cases vl <;> try exact no fun h K X a => a
            cases vc <;> try exact no fun h K X a => a
            rename_i k1 l' k2 c'
            refine ⟨0 ≤ l' ∧ l' ≤ c' ∧ c' * P.bytesOf e ≤ 2 ^ 48 ∧ c' ≤ 2 ^ 48, .cells ⟨zrep z c'.toNat⟩ e (0, 0), fun b => .slice (some ⟨b, 0, none⟩) l'.toNat c'.toNat, fun h K X => ?_⟩
            simp only [cond_true, intP]
            constructor
            · rintro ⟨a, b, c, d, e⟩; exact ⟨⟨a, b, c, d⟩, e⟩
            · rintro ⟨⟨a, b, c, d⟩, e⟩; exact ⟨a, b, c, d, e⟩
  case unOp op t x => exfalso; split at hc <;> omega
  case convert s d x => exfalso; split at hc <;> omega
  case slice t x lo hi mx => exfalso; (repeat' split at hc) <;> omega
  case index t x i => exfalso; split at hc <;> omega
  case binOp op t x y yt =>
    exfalso
    rcases hu : P.underlying t with _ | d
    · rw [hu] at hc; cases hc
    · rw [hu] at hc
      cases d <;> simp only at hc <;> try omega
      all_goals (split at hc <;> omega)
  case call c =>
    exfalso
    cases hcal : c.callee <;> rw [hcal] at hc <;> (try simp only at hc) <;> try omega
    rename_i b
    cases b <;> first | (simp at hc; done) | omega | (dsimp only at hc; omega)

theorem ty1_mono {P : Program} {t : TypeId} {K K' : Value → Prop} (hk : ∀ v, K v → K' v) (h : ty1 P t K) : ty1 P t K' := by
  unfold ty1 at h ⊢
  revert h
  rcases P.underlying t with _ | d
  · rintro ⟨v, h⟩; exact ⟨v, hk _ h⟩
  · cases d <;> first
      | (rintro ⟨v, h⟩; exact ⟨v, hk _ h⟩)
      | (rintro ⟨v, h1, h⟩; exact ⟨v, h1, hk _ h⟩)

theorem tyL_mono {P : Program} : ∀ {ts : List TypeId} {K K' : List Value → Prop}, (∀ v, K v → K' v) → tyL P ts K → tyL P ts K' := by
  intro ts
  induction ts with
  | nil => intro K K' hk h; exact hk _ h
  | cons t r ih => intro K K' hk h; exact ty1_mono (fun v h => ih (fun vs h => hk _ h) h) h

theorem tyV_mono {P : Program} {t : TypeId} {v : Value} {K K' : Value → Prop} (hk : ∀ v, K v → K' v) (h : tyV P t v K) : tyV P t v K' := by
  unfold tyV at h ⊢
  revert h
  rcases P.underlying t with _ | d
  · exact id
  · cases d <;> first
      | (exact tyL_mono (fun vs h => ⟨h.1, hk _ h.2⟩))
      | (rintro ⟨n, e, h⟩; exact ⟨n, e, hk _ h⟩)
      | (rintro ⟨n, l, e, h⟩; exact ⟨n, l, e, hk _ h⟩)
      | exact hk _

/-- There are blocks left. -/
def Fin' (h : H) : Prop := ∃ N, ∀ b, N ≤ b → h b = none
theorem Sub.fin {h : H} {w : World} (hs : Sub h w) : Fin' h := ⟨w.heap.size, fun b hb => by
  cases e : h b with
  | none => rfl
  | some o => have := hs _ _ e; rw [Array.getElem?_eq_none hb] at this; cases this⟩
theorem Fin'.fresh {h : H} (hf : Fin' h) : ∃ b, h b = none := let ⟨N, hN⟩ := hf; ⟨N, hN N (Nat.le_refl N)⟩
theorem Fin'.put {h : H} (hf : Fin' h) (b : Nat) (o : Obj) : Fin' (hput h b o) := let ⟨N, hN⟩ := hf; ⟨max N (b + 1), fun k hk => by
  unfold hput
  rw [if_neg (by omega)]
  exact hN k (by omega)⟩
theorem Fin'.set {h : H} (hf : Fin' h) (a : Addr) (vs : List Value) : Fin' (hset h a vs) := let ⟨N, hN⟩ := hf; ⟨N, fun k hk => by
  unfold hset
  split
  · rw [hN k hk]; rfl
  · exact hN k hk⟩

theorem T.monoF {P : Program} {f : FuncId} {args : List Value} {h : H} {R R' : Res → H → Prop} (t : T P f args h R)
    (hr : ∀ r h', Fin' h' → R r h' → R' r h') : T P f args h R' := by
  refine ⟨t.1, fun w hw => (t.2 w hw).mono ?_⟩
  rintro e w' ⟨h', hs, hm, hq⟩
  refine ⟨h', hs, hm, ?_⟩
  split at hq
  · exact hr _ _ hs.fin hq
  · exact hr _ _ hs.fin hq
  · exact hq.elim

theorem T.frame {P : Program} {f : FuncId} {args : List Value} {h : H} {R : Res → H → Prop} (t : T P f args h R) {b : Nat} (hb : h b = none) (o : Obj) :
    T P f args (hput h b o) fun r h2 => ∃ h1, h1 b = none ∧ h2 = hput h1 b o ∧ R r h1 := by
  refine ⟨t.1, fun w hw => ?_⟩
  have hwb : w.heap[b]? = some o := hw b o (by simp [hput])
  have hlt : b < w.heap.size := (Array.getElem?_eq_some_iff.1 hwb).1
  have hs : Sub h w := fun k ob hk => hw k ob (by unfold hput; split; · rename_i e; subst e; rw [hb] at hk; cases hk
                                                  · exact hk)
  refine (t.2 w hs).mono ?_
  rintro e w' ⟨h', hs', hm, hq⟩
  obtain ⟨e1, n1⟩ := hm.frame b hlt hb
  refine ⟨hput h' b o, fun k ob hk => ?_, ⟨hm.same, hm.size, fun k hk hn => ?_⟩, ?_⟩
  · unfold hput at hk
    split at hk
    · rename_i e2; subst e2; cases hk; rw [e1]; exact hwb
    · exact hs' k ob hk
  · unfold hput at hn
    split at hn
    · cases hn
    · rename_i hne
      obtain ⟨e2, n2⟩ := hm.frame k hk hn
      exact ⟨e2, by unfold hput; rw [if_neg hne]; exact n2⟩
  · split at hq
    · exact ⟨h', n1, rfl, hq⟩
    · exact ⟨h', n1, rfl, hq⟩
    · exact hq.elim

theorem onRet_monoF {P : Program} {t : TypeId} {K K' X X' : Value → H → Prop} {h : H} (hf : Fin' h) (hk : ∀ v h, Fin' h → K v h → K' v h) (hx : ∀ v h, X v h → X' v h) (r : Res)
    (hr : onRet P t K X r h) : onRet P t K' X' r h := by
  cases r with
  | ret v => exact tyV_mono (fun v => hk v h hf) (show tyV P t v (fun v => K v h) from hr)
  | pan v => exact hx v h hr

theorem opt_mono {P : Program} {o : Oper} {fr : Fr} {h : H} {K K' X X' : Value → H → Prop} (hf : Fin' h) (hk : ∀ v h, Fin' h → K v h → K' v h) (hx : ∀ v h, X v h → X' v h)
    (ho : opt P o fr h K X) : opt P o fr h K' X' := by
  by_cases h5 : isRead P o
  · obtain ⟨v, hv, hr⟩ := opt_linE h5 ho; exact hr h K' X' (Ext.refl h) (hk _ _ hf hv)
  by_cases h2 : clsOf P o = 2
  · obtain ⟨W, obj, vf, hW⟩ := opt_new h2 fr
    rw [hW] at ho ⊢
    exact ⟨ho.1, fun b hb => hk _ _ (hf.put _ _) (ho.2 b hb)⟩
  unfold isRead clsOf at h5
  unfold clsOf at h2
  cases hop : o.op <;> rw [hop] at h2 h5 <;> simp only at h2 h5 <;> try (exfalso; omega)
  all_goals try (exfalso; first | (simp at h5; done) | (simp at h2; done))
  case unOp op t x => exfalso; apply h5; split <;> simp
  case convert s d x => exfalso; apply h5; split <;> simp
  case slice t x lo hi mx => exfalso; apply h5; (repeat' split) <;> simp
  case index t x i => exfalso; apply h5; split <;> simp
  case binOp op t x y yt =>
    obtain ⟨vx, hvx, ho2⟩ := on_spec (show on (evalO fr x) (fun vx => on (evalO fr y) fun vy => binP P op t x y vx vy h fun v => K v h) by unfold opt at ho; rw [hop] at ho; exact ho)
    obtain ⟨vy, hvy, ho3⟩ := on_spec ho2
    obtain ⟨v, hk1, hr⟩ := (lin_binP P op t x y vx vy) h (fun v => K v h) ho3
    unfold opt
    rw [hop]
    dsimp only
    rw [hvx, hvy]
    exact hr h (fun v => K' v h) (Ext.refl h) (hk _ _ hf hk1)
  all_goals (unfold opt at ho ⊢; rw [hop] at ho ⊢)
  all_goals try exact ho.elim
  all_goals dsimp only at ho ⊢
  case store t a v =>
    obtain ⟨va, hva, ho⟩ := on_spec ho
    obtain ⟨vv, hvv, ho⟩ := on_spec ho
    rw [hva, hvv]
    simp only [on]
    unfold storeP at ho ⊢
    obtain ⟨p, rfl, ho2⟩ := ptrP_spec ho
    show (match P.underlying t with | some (.struct _) => aggP vv fun vs => stN h p vs (P.cellsOf t) fun h' => K' undef h' | some (.array _ _) => aggP vv fun vs => stN h p vs (P.cellsOf t) fun h' => K' undef h' | some _ => bif Nat.beq (P.cellsOf t) 1 then oneP vv (stC h p vv fun h' => K' undef h') else False | none => False)
    revert ho2
    have agg : (aggP vv fun vs => stN h p vs (P.cellsOf t) fun h' => K undef h') → (aggP vv fun vs => stN h p vs (P.cellsOf t) fun h' => K' undef h') := by
      intro hh
      obtain ⟨cs, rfl, h1, h2, h3, h4⟩ := aggP_spec hh
      exact ⟨h1, h2, h3, hk _ _ (hf.set _ _) h4⟩
    have one : (bif Nat.beq (P.cellsOf t) 1 then oneP vv (stC h p vv fun h' => K undef h') else False) → (bif Nat.beq (P.cellsOf t) 1 then oneP vv (stC h p vv fun h' => K' undef h') else False) := by
      cases Nat.beq (P.cellsOf t) 1 with
      | false => exact id
      | true =>
        simp only [cond_true]
        intro hh
        cases vv <;> first
          | exact hh.elim
          | exact ⟨hh.1, hk _ _ (hf.set _ _) hh.2⟩
    rcases P.underlying t with _ | d
    · exact id
    · cases d <;> first
        | exact agg
        | exact one
  case call c =>
    obtain ⟨args, hargs, ho⟩ := on_spec ho
    rw [hargs]
    simp only [on]
    cases hcal : c.callee <;> rw [hcal] at ho h2 h5 <;> simp only at ho h2 h5 ⊢
    case builtin b =>
      cases b <;> simp only at h2 h5 <;> try (exfalso; omega)
      all_goals (unfold builtinP at ho ⊢; split at ho <;> try (first | exact ho.elim | contradiction))
      rotate_left
      · rename_i t x hb ht
        unfold clearP at ho ⊢
        revert ho
        rcases P.underlying t with _ | d1
        · exact id
        · cases d1 <;> try exact id
          rename_i e
          dsimp only
          intro ho
          obtain ⟨z, hz, ho⟩ := on_spec ho
          rw [hz]
          simp only [on]
          revert ho
          cases Nat.beq z.length (P.cellsOf e) with
          | false => exact id
          | true =>
            simp only [cond_true]
            intro ho
            obtain ⟨a, n, c, rfl, ho⟩ := slcP_spec ho
            cases a with
            | none => exact hk _ _ hf ho
            | some a => exact ⟨ho.1, ho.2.1, hk _ _ (hf.set _ _) ho.2.2⟩
      rename_i ts tx s x hb ht
      unfold appendP at ho ⊢
      revert ho
      rcases P.underlying ts with _ | d1
      · exact id
      · cases d1 <;> try exact id
        rename_i e
        rcases P.underlying tx with _ | d2
        · exact id
        · cases d2 <;> try exact id
          dsimp only
          intro ho
          obtain ⟨z, hz, ho⟩ := on_spec ho
          rw [hz]
          simp only [on]
          revert ho
          cases (Nat.beq z.length (P.cellsOf e) && !Nat.beq (P.bytesOf e) 0 && !Nat.beq (P.cellsOf e) 0) with
          | false => exact id
          | true =>
            simp only [cond_true]
            intro ho
            obtain ⟨base, sl, sc, rfl, ho2⟩ := slcP_spec ho
            obtain ⟨xa, n, xc, rfl, new, h1, h2, h3⟩ := slcP_spec ho2
            refine ⟨new, h1, fun hr => ?_, fun hr => ?_⟩
            · have := h2 hr
              cases base with
              | none => exact ⟨this.1, hk _ _ hf this.2⟩
              | some a => exact ⟨this.1, this.2.1, hk _ _ (hf.set _ _) this.2.2⟩
            · obtain ⟨h4, old, h5, h6⟩ := h3 hr
              exact ⟨h4, old, h5, fun cap hc b hb => hk _ _ (hf.put _ _) (h6 cap hc b hb)⟩
    case value f =>
      obtain ⟨vf, hvf, ho⟩ := on_spec ho
      rw [hvf]
      obtain ⟨fid, first, cap, rfl, ht⟩ := funP_spec ho
      exact ht.map (fun t => t.mono fun v => onRet_monoF hf hk hx (.ret v)) fun t => t.monoF fun r h' hf' => onRet_monoF hf' hk hx r
    case invoke r name =>
      obtain ⟨vf, hvf, ho⟩ := on_spec ho
      rw [hvf]
      obtain ⟨t, u, rfl, f, rv, hm, ht⟩ := methP_spec ho
      exact ⟨f, rv, hm, ht.monoF fun r h' hf' => onRet_monoF hf' hk hx r⟩
  case panic x =>
    obtain ⟨v, hv, ho⟩ := on_spec ho
    rw [hv]
    obtain ⟨t, u, rfl, ho2⟩ := panP_spec ho
    exact hx _ _ ho2

end Go.Proofs.YtjlojokockfapaaGreatDoor

namespace Go.Proofs.YtjlojokockfapaaGreatDoor
open Go
set_option linter.unusedVariables false
set_option linter.unusedSimpArgs false

def Fr.le (fr fr' : Fr) : Prop := ∀ t v, Fr.get fr t = some v → Fr.get fr' t = some v
theorem Fr.le.refl (fr : Fr) : Fr.le fr fr := fun _ _ h => h
theorem Fr.le.trans {a b c : Fr} (h : Fr.le a b) (k : Fr.le b c) : Fr.le a c := fun t v e => k t v (h t v e)

theorem beq_self (d : Nat) : Nat.beq d d = true := Nat.beq_refl d
theorem beq_ne {d t : Nat} (h : d ≠ t) : Nat.beq d t = false := by
  cases hb : Nat.beq d t with
  | false => rfl
  | true => exact absurd (Nat.eq_of_beq_eq_true hb) h

theorem get_cons_self (d : Nat) (v : Value) (fr : Fr) : Fr.get ((d, v) :: fr) d = some v := by simp [Fr.get, beq_self]
theorem get_cons_ne {d t : Nat} (h : d ≠ t) (v : Value) (fr : Fr) : Fr.get ((d, v) :: fr) t = Fr.get fr t := by simp [Fr.get, beq_ne h]

theorem Fr.le.put {fr fr' : Fr} (h : Fr.le fr fr') (d : Option Nat) (v : Value) : Fr.le (Fr.put fr d v) (Fr.put fr' d v) := by
  cases d with
  | none => exact h
  | some d =>
    intro t u hu
    simp only [Fr.put] at hu ⊢
    by_cases e : d = t
    · subst e; rw [get_cons_self] at hu ⊢; exact hu
    · rw [get_cons_ne e] at hu ⊢; exact h t u hu

theorem le_cons_self {fr : Fr} {d : Nat} {v : Value} (h : Fr.get fr d = some v) : Fr.le fr ((d, v) :: fr) := fun t u hu => by
  by_cases e : d = t
  · subst e; rw [get_cons_self, ← h]; exact hu
  · rw [get_cons_ne e]; exact hu
theorem cons_self_le {fr : Fr} {d : Nat} {v : Value} (h : Fr.get fr d = some v) : Fr.le ((d, v) :: fr) fr := fun t u hu => by
  by_cases e : d = t
  · subst e; rw [get_cons_self] at hu; rw [h]; exact hu
  · rw [get_cons_ne e] at hu; exact hu

theorem put_swap {fr : Fr} {d e : Option Nat} (h : ∀ a b, d = some a → e = some b → a ≠ b) (v u : Value) :
    Fr.le (Fr.put (Fr.put fr d v) e u) (Fr.put (Fr.put fr e u) d v) := by
  cases d with
  | none => exact Fr.le.refl _
  | some a =>
    cases e with
    | none => exact Fr.le.refl _
    | some b =>
      have hne := h a b rfl rfl
      intro t x hx
      simp only [Fr.put] at hx ⊢
      by_cases ea : a = t
      · subst ea
        rw [get_cons_ne (Ne.symm hne), get_cons_self] at hx
        rw [get_cons_self]; exact hx
      · rw [get_cons_ne ea]
        by_cases eb : b = t
        · subst eb; rw [get_cons_self] at hx ⊢; exact hx
        · rw [get_cons_ne eb] at hx ⊢; rw [get_cons_ne ea] at hx; exact hx

theorem evalO_le {fr fr' : Fr} (hl : Fr.le fr fr') {x : Operand} {v : Value} (h : evalO fr x = some v) : evalO fr' x = some v := by
  cases x with
  | tmp t => exact hl t v h
  | const u => exact h
  | global g => exact h
  | func f => exact h

theorem evalL_le {fr fr' : Fr} (hl : Fr.le fr fr') : ∀ {l : List Operand} {vs : List Value}, evalL fr l = some vs → evalL fr' l = some vs := by
  intro l
  induction l with
  | nil => intro vs h; exact h
  | cons x r ih =>
    intro vs h
    simp only [evalL] at h ⊢
    cases hx : evalO fr x with
    | none => simp [hx] at h
    | some v =>
      cases hr : evalL fr r with
      | none => simp [hx, hr] at h
      | some us => simp only [hx, hr] at h; simp only [evalO_le hl hx, ih hr]; exact h

theorem zipE_le {fr fr' : Fr} (hl : Fr.le fr fr') : ∀ {l : List (Nat × Operand)} {vs : List (Nat × Value)}, zipE fr l = some vs → zipE fr' l = some vs := by
  intro l
  induction l with
  | nil => intro vs h; exact h
  | cons x r ih =>
    obtain ⟨i, x⟩ := x
    intro vs h
    simp only [zipE] at h ⊢
    cases hx : evalO fr x with
    | none => simp [hx] at h
    | some v =>
      cases hr : zipE fr r with
      | none => simp [hx, hr] at h
      | some us => simp only [hx, hr] at h; simp only [evalO_le hl hx, ih hr]; exact h

theorem optE_le {fr fr' : Fr} (hl : Fr.le fr fr') {o : Option Operand} {v : Option Value} (h : optE fr o = some v) : optE fr' o = some v := by
  cases o with
  | none => exact h
  | some x =>
    simp only [optE] at h ⊢
    cases hx : evalO fr x with
    | none => simp [hx] at h
    | some u => simp only [hx] at h; simp only [evalO_le hl hx]; exact h

theorem on_le {α : Type} {o o' : Option α} {F G : α → Prop} (ho : ∀ a, o = some a → o' = some a) (hf : ∀ a, F a → G a) (h : on o F) : on o' G := by
  obtain ⟨a, ha, h⟩ := on_spec h
  rw [ho a ha]; exact hf a h

theorem opt_le {P : Program} {o : Oper} {fr fr' : Fr} (hl : Fr.le fr fr') {h : H} {K X : Value → H → Prop} (ho : opt P o fr h K X) : opt P o fr' h K X := by
  have eO : ∀ x v, evalO fr x = some v → evalO fr' x = some v := fun x v e => evalO_le hl e
  have eL : ∀ l vs, evalL fr l = some vs → evalL fr' l = some vs := fun l vs e => evalL_le hl e
  have eZ : ∀ l vs, zipE fr l = some vs → zipE fr' l = some vs := fun l vs e => zipE_le hl e
  have eE : ∀ l vs, optE fr l = some vs → optE fr' l = some vs := fun l vs e => optE_le hl e
  unfold opt at ho ⊢
  cases hop : o.op <;> rw [hop] at ho <;> dsimp only at ho ⊢ <;> try (first | exact ho | exact on_le (eO _) (fun _ h => h) ho | exact on_le (eO _) (fun _ => on_le (eO _) fun _ h => h) ho | exact on_le (eZ _) (fun _ h => h) ho | exact on_le (eL _) (fun _ => on_le (eL _) fun _ h => h) ho)
  case pick c a b =>
    refine on_le (eO _) (fun vc h => ?_) ho
    obtain ⟨bc, rfl, h⟩ := boolP_spec h
    cases bc
    · exact on_le (eO _) (fun _ h => h) h
    · exact on_le (eO _) (fun _ h => h) h
  case slice t x lo hi mx => exact on_le (eO _) (fun _ => on_le (eE _) fun _ => on_le (eE _) fun _ => on_le (eE _) fun _ h => h) ho
  case call c =>
    refine on_le (eL _) (fun args h => ?_) ho
    cases hc : c.callee <;> rw [hc] at h <;> dsimp only at h ⊢
    · exact on_le (eO _) (fun _ h => h) h
    · exact on_le (eO _) (fun _ h => h) h
    · exact h

theorem ldAddr_le {P : Program} {o : Oper} {fr fr' : Fr} (hl : Fr.le fr fr') {h : H} {K X : Value → H → Prop} (ho : opt P o fr h K X) : ldAddr fr' o = ldAddr fr o := by
  unfold opt at ho
  unfold ldAddr
  cases hop : o.op <;> try rfl
  rw [hop] at ho
  obtain ⟨v, hv, _⟩ := on_spec ho
  simp only [hv, evalO_le hl hv]

theorem oblP_iff {P : Program} {ops : List Oper} {h h' : H} {K : Prop} : ∀ {L : List (Nat × Option Value)}, oblP P ops h h' L K ↔ (∀ p ∈ L, on (ops[p.1]?) fun o => rdSame P o p.2 h h') ∧ K := by
  intro L
  induction L with
  | nil => simp [oblP]
  | cons p r ih => simp only [oblP, ih, List.mem_cons, forall_eq_or_imp, and_assoc]

theorem mem_both {pd : List Nat} {p : Nat × Option Value} : ∀ {ex : List (Nat × Option Value)}, p ∈ both pd ex ↔ p ∈ ex ∧ has p.1 pd = true := by
  intro ex
  induction ex with
  | nil => simp [both]
  | cons q r ih =>
    simp only [both]
    cases hq : has q.1 pd with
    | true =>
      simp only [cond_true, List.mem_cons, ih]
      constructor
      · rintro (rfl | h)
        · exact ⟨.inl rfl, hq⟩
        · exact ⟨.inr h.1, h.2⟩
      · rintro ⟨rfl | h, h2⟩
        · exact .inl rfl
        · exact .inr ⟨h, h2⟩
    | false =>
      simp only [cond_false, List.mem_cons, ih]
      constructor
      · rintro ⟨h, h2⟩; exact ⟨.inr h, h2⟩
      · rintro ⟨rfl | h, h2⟩
        · rw [hq] at h2; cases h2
        · exact ⟨h, h2⟩

theorem oblP_weak {P : Program} {ops : List Oper} {h h' : H} {K K' : Prop} {pd : List Nat} {ex ex' : List (Nat × Option Value)} (hsub : ∀ p ∈ ex', p ∈ ex) (hk : K → K')
    (ho : oblP P ops h h' (both pd ex) K) : oblP P ops h h' (both pd ex') K' := by
  rw [oblP_iff] at ho ⊢
  refine ⟨fun p hp => ?_, hk ho.2⟩
  rw [mem_both] at hp
  exact ho.1 p (mem_both.2 ⟨hsub p hp.1, hp.2⟩)

theorem gdP_le {ops : List Oper} {g : Option (Nat × Bool)} {fr fr' : Fr} {A A' B B' : Fr → Prop} (hl : Fr.le fr fr')
    (hA : ∀ f f', Fr.le f f' → A f → A' f') (hB : ∀ f f', Fr.le f f' → B f → B' f') (hg : gdP ops g fr A B) : gdP ops g fr' A' B' := by
  unfold gdP at hg ⊢
  cases g with
  | none => exact hA _ _ hl hg
  | some jw =>
    obtain ⟨j, w⟩ := jw
    refine on_le (fun _ e => e) (fun oj => on_le (fun _ e => e) fun d hd => ?_) hg
    revert hd
    cases hget : Fr.get fr d with
    | none => exact fun hd => hd.elim
    | some v =>
      rw [hl d v hget]
      intro hd
      cases v <;> try exact hd.elim
      · rename_i b
        have hc : Fr.le ((d, .bool b) :: fr) ((d, .bool b) :: fr') := hl.put (some d) (.bool b)
        cases b <;> cases w <;> first
          | exact hA _ _ hc hd
          | exact hB _ _ hc hd
      · exact hB _ _ hl hd

theorem rpt_gen {P : Program} {ops : List Oper} {pd : Nat → List Nat} {X : Value → H → Prop} : ∀ (L : List Nat) {ex ex' : List (Nat × Option Value)} {fr fr' : Fr} {h : H} {K K' : Fr → H → Prop},
    Fin' h → (∀ f f' h, Fin' h → Fr.le f f' → K f h → K' f' h) → (∀ p ∈ ex', p ∈ ex) → Fr.le fr fr' → rpt P ops pd ex L fr h K X → rpt P ops pd ex' L fr' h K' X := by
  intro L
  induction L with
  | nil => intro ex ex' fr fr' h K K' hf hk _ hl hr; exact hk _ _ _ hf hl hr
  | cons i L ih =>
    intro ex ex' fr fr' h K K' hf hk hsub hl hr
    simp only [rpt] at hr ⊢
    refine on_le (fun _ e => e) (fun o => gdP_le hl (fun f f' hl ho => ?_) (fun f f' hl ho => ?_)) hr
    · have ha := ldAddr_le hl ho
      refine opt_le hl (opt_mono hf (fun v h' hf' => oblP_weak hsub (fun hr => ?_)) (fun _ _ x => x) ho)
      rw [ha]
      exact ih hf' hk (fun p hp => by
        simp only [List.mem_cons] at hp ⊢
        exact hp.imp id (hsub p)) (hl.put _ _) hr
    · exact ih hf hk (fun p hp => by
        simp only [List.mem_cons] at hp ⊢
        exact hp.imp id (hsub p)) (hl.put _ _) ho

theorem gdP_mono {ops : List Oper} {g : Option (Nat × Bool)} {fr : Fr} {A A' B B' : Fr → Prop} (hA : ∀ f, A f → A' f) (hB : ∀ f, B f → B' f) (hg : gdP ops g fr A B) : gdP ops g fr A' B' := by
  unfold gdP at hg ⊢
  cases g with
  | none => exact hA _ hg
  | some jw =>
    obtain ⟨j, w⟩ := jw
    refine on_le (fun _ e => e) (fun oj => on_le (fun _ e => e) fun d hd => ?_) hg
    revert hd
    cases Fr.get fr d with
    | none => exact id
    | some v =>
      cases v <;> try exact id
      · rename_i b
        cases b <;> cases w <;> first
          | exact hA _
          | exact hB _
      · exact hB _

theorem rpt_monoX {P : Program} {ops : List Oper} {pd : Nat → List Nat} {X X' : Value → H → Prop} {K : Fr → H → Prop} : ∀ (L : List Nat) {ex : List (Nat × Option Value)} {fr : Fr} {h : H},
    Fin' h → (∀ v h, X v h → X' v h) → rpt P ops pd ex L fr h K X → rpt P ops pd ex L fr h K X' := by
  intro L
  induction L with
  | nil => intro ex fr h hf hx hr; exact hr
  | cons i L ih =>
    intro ex fr h hf hx hr
    simp only [rpt] at hr ⊢
    refine on_le (fun _ e => e) (fun o => gdP_mono (fun f ho => ?_) (fun f ho => ih hf hx ho)) hr
    exact opt_mono hf (fun v h' hf' => oblP_weak (fun _ p => p) (ih hf' hx)) hx ho

end Go.Proofs.YtjlojokockfapaaGreatDoor

namespace Go.Proofs.YtjlojokockfapaaGreatDoor
open Go
set_option linter.unusedVariables false
set_option linter.unusedSimpArgs false

def wantF (ops : List Oper) (g : Option (Nat × Bool)) (fr : Fr) : Option Bool := match g with
  | none => some true
  | some (j, w) => match ops[j]? with
    | some oj => match oj.dst with
      | some d => match Fr.get fr d with
        | some (.bool b) => some (b == w)
        | some (.tuple _) => some false
        | _ => none
      | none => none
    | none => none

theorem gd_iff {ops : List Oper} {g : Option (Nat × Bool)} {fr : Fr} {A B : Fr → Prop} (hA : ∀ f f', Fr.le f f' → A f → A f') (hB : ∀ f f', Fr.le f f' → B f → B f') :
    gdP ops g fr A B ↔ (wantF ops g fr = some true ∧ A fr) ∨ (wantF ops g fr = some false ∧ B fr) := by
  unfold gdP wantF
  cases g with
  | none => simp
  | some jw =>
    obtain ⟨j, w⟩ := jw
    dsimp only
    cases ops[j]? with
    | none => simp [on]
    | some oj =>
      dsimp only [on]
      cases oj.dst with
      | none => simp
      | some d =>
        dsimp only [on]
        cases hget : Fr.get fr d with
        | none => simp
        | some v =>
          have up := fun b (e : v = .bool b) => le_cons_self (fr := fr) (d := d) (v := .bool b) (by rw [hget, e])
          have dn := fun b (e : v = .bool b) => cons_self_le (fr := fr) (d := d) (v := .bool b) (by rw [hget, e])
          cases v <;> try (simp; done)
          rename_i b
          have up := up b rfl
          have dn := dn b rfl
          cases b <;> cases w <;> simp
          · exact ⟨hA _ _ dn, hA _ _ up⟩
          · exact ⟨hB _ _ dn, hB _ _ up⟩
          · exact ⟨hB _ _ dn, hB _ _ up⟩
          · exact ⟨hA _ _ dn, hA _ _ up⟩

def UpX (X : Value → H → Prop) : Prop := ∀ v h h', Ext h h' → X v h → X v h'
def UpK (K : Fr → H → Prop) : Prop := ∀ f f' h, Fin' h → Fr.le f f' → K f h → K f' h

theorem rpt_step {P : Program} {ops : List Oper} {pd : Nat → List Nat} {X : Value → H → Prop} {ex : List (Nat × Option Value)} {i : Nat} {L : List Nat} {fr : Fr} {h : H} {K : Fr → H → Prop} (hK : UpK K) (hf : Fin' h) :
    rpt P ops pd ex (i :: L) fr h K X ↔ ∃ o, ops[i]? = some o ∧
      ((wantF ops o.guard fr = some true ∧ opt P o fr h (fun v h' => oblP P ops h h' (both (pd i) ex) (rpt P ops pd ((i, ldAddr fr o) :: ex) L (Fr.put fr o.dst v) h' K X)) X) ∨
       (wantF ops o.guard fr = some false ∧ rpt P ops pd ((i, none) :: ex) L (Fr.put fr o.dst undef) h K X)) := by
  simp only [rpt]
  cases ops[i]? with
  | none => simp [on]
  | some o =>
    simp only [on, Option.some.injEq, exists_eq_left']
    refine gd_iff (fun f f' hl ho => ?_) (fun f f' hl ho => ?_)
    · have ha := ldAddr_le hl ho
      refine opt_le hl (opt_mono hf (fun v h' hf' => oblP_weak (fun _ p => p) (fun hr => ?_)) (fun _ _ x => x) ho)
      rw [ha]
      exact rpt_gen L hf' hK (fun _ p => p) (hl.put _ _) hr
    · exact rpt_gen L hf hK (fun _ p => p) (hl.put _ _) ho

theorem has_iff {i : Nat} : ∀ {l : List Nat}, has i l = true ↔ i ∈ l := by
  intro l
  induction l with
  | nil => simp [has]
  | cons j r ih =>
    simp only [has]
    by_cases e : i = j
    · subst e; simp [beq_self]
    · rw [beq_ne e]; simp [e, ih]

theorem mem_tmpsOf {t : Nat} : ∀ {l : List Operand}, t ∈ tmpsOf l ↔ Operand.tmp t ∈ l := by
  intro l
  induction l with
  | nil => simp [tmpsOf]
  | cons x r ih => cases x <;> simp [tmpsOf, ih]

theorem not_dstIn {d : Option Nat} {l : List Nat} (h : dstIn d l = false) : ∀ t ∈ l, d ≠ some t := by
  intro t ht e
  subst e
  have : has t l = true := has_iff.2 ht
  rw [show dstIn (some t) l = has t l from rfl] at h
  rw [h] at this; cases this

theorem get_put_ne {fr : Fr} {d : Option Nat} {v : Value} {t : Nat} (h : d ≠ some t) : Fr.get (Fr.put fr d v) t = Fr.get fr t := by
  cases d with
  | none => rfl
  | some d => exact get_cons_ne (fun e => h (by rw [e])) v fr

theorem agr {ops : List Oper} {o : Oper} {d : Option Nat} (h : dstIn d (looks ops o) = false) (fr : Fr) (v : Value) :
    ∀ x ∈ o.op.operands.toList, evalO (Fr.put fr d v) x = evalO fr x := by
  intro x hx
  cases x with
  | tmp t => exact get_put_ne (not_dstIn h t (by unfold looks; exact List.mem_append_left _ (mem_tmpsOf.2 hx)))
  | const u => rfl
  | global g => rfl
  | func f => rfl

theorem want_put {ops : List Oper} {o : Oper} {d : Option Nat} (h : dstIn d (looks ops o) = false) (fr : Fr) (v : Value) :
    wantF ops o.guard (Fr.put fr d v) = wantF ops o.guard fr := by
  unfold wantF
  cases hg : o.guard with
  | none => rfl
  | some jw =>
    obtain ⟨j, w⟩ := jw
    dsimp only
    cases hj : ops[j]? with
    | none => rfl
    | some oj =>
      dsimp only
      cases hd : oj.dst with
      | none => rfl
      | some e =>
        dsimp only
        rw [get_put_ne (not_dstIn h e (by unfold looks; rw [hg]; simp [hj, hd]))]

theorem hput_comm {h : H} {b c : Nat} (hne : b ≠ c) (o p : Obj) : hput (hput h b o) c p = hput (hput h c p) b o := by
  funext k
  unfold hput
  by_cases e1 : k = c
  · subst e1; rw [if_pos rfl, if_neg (fun e => hne e.symm), if_pos rfl]
  · rw [if_neg e1]
    by_cases e2 : k = b
    · rw [if_pos e2, if_pos e2]
    · rw [if_neg e2, if_neg e2, if_neg e1]

theorem hput_hset {h : H} {b : Nat} (o : Obj) {a : Addr} {vs : List Value} (hne : b ≠ a.block) : hset (hput h b o) a vs = hput (hset h a vs) b o := by
  funext k
  simp only [hset, hput]
  by_cases e1 : k = a.block
  · have e2 : k ≠ b := fun e => hne (e.symm.trans e1)
    simp only [e1, if_true]
    rw [if_neg (fun e => hne e.symm), if_neg (fun e => hne e.symm)]
  · simp only [e1, if_false]

theorem hwr_put {h : H} {b : Nat} (hb : h b = none) (o : Obj) {a : Addr} {n : Nat} (hw : hwr h a n) : b ≠ a.block ∧ hwr (hput h b o) a n := by
  obtain ⟨c, e, h1, h2, h3⟩ := hw
  have hne : b ≠ a.block := fun e => by rw [← e, hb] at h1; cases h1
  exact ⟨hne, c, e, by unfold hput; rw [if_neg (fun e => hne e.symm)]; exact h1, h2, h3⟩

theorem hcell_hput {h h1 : H} {b : Nat} (o : Obj) {a : Addr} (he : hcell h1 a = hcell h a) : hcell (hput h1 b o) a = hcell (hput h b o) a := by
  unfold hcell hput
  by_cases e : a.block = b
  · rw [if_pos e, if_pos e]
  · rw [if_neg e, if_neg e]; exact he

theorem hset_none {h : H} {b : Nat} (hb : h b = none) (a : Addr) (vs : List Value) : hset h a vs b = none := by
  unfold hset
  split
  · rw [hb]; rfl
  · exact hb

/-- What acts over a heap with one block more acts as over the heap. -/
theorem opt_frame {P : Program} {o : Oper} (hc : clsOf P o = 3 ∨ clsOf P o = 4) {fr : Fr} {h : H} {K X : Value → H → Prop} (ho : opt P o fr h K X) {b : Nat} (hb : h b = none) (ob : Obj) :
    opt P o fr (hput h b ob) (fun v h2 => ∃ h1, h1 b = none ∧ h2 = hput h1 b ob ∧ K v h1) (fun v h2 => ∃ h1, h1 b = none ∧ h2 = hput h1 b ob ∧ X v h1) := by
  unfold clsOf at hc
  have ret : ∀ r h2, (∃ h1, h1 b = none ∧ h2 = hput h1 b ob ∧ onRet P o.type K X r h1) →
      onRet P o.type (fun v h2 => ∃ h1, h1 b = none ∧ h2 = hput h1 b ob ∧ K v h1) (fun v h2 => ∃ h1, h1 b = none ∧ h2 = hput h1 b ob ∧ X v h1) r h2 := by
    rintro r h2 ⟨h1, n1, e1, hr⟩
    cases r with
    | ret v =>
      show tyV P o.type v (fun v => ∃ h1, h1 b = none ∧ h2 = hput h1 b ob ∧ K v h1)
      exact tyV_mono (fun v hk => ⟨h1, n1, e1, hk⟩) (show tyV P o.type v (fun v => K v h1) from hr)
    | pan v => exact ⟨h1, n1, e1, hr⟩
  cases hop : o.op <;> rw [hop] at hc <;> (try simp only at hc) <;> try (exfalso; omega)
  all_goals (unfold opt at ho ⊢; rw [hop] at ho ⊢)
  all_goals try exact ho.elim
  all_goals dsimp only at ho ⊢
  case store t a v =>
    obtain ⟨va, hva, ho⟩ := on_spec ho
    obtain ⟨vv, hvv, ho⟩ := on_spec ho
    rw [hva, hvv]
    simp only [on]
    unfold storeP at ho ⊢
    obtain ⟨p, rfl, ho2⟩ := ptrP_spec ho
    revert ho2
    have agg : (aggP vv fun vs => stN h p vs (P.cellsOf t) fun h' => K undef h') → (aggP vv fun vs => stN (hput h b ob) p vs (P.cellsOf t) fun h2 => ∃ h1, h1 b = none ∧ h2 = hput h1 b ob ∧ K undef h1) := by
      intro hh
      obtain ⟨cs, rfl, h1, h2, h3, h4⟩ := aggP_spec hh
      obtain ⟨hne, hw⟩ := hwr_put hb ob h3
      exact ⟨h1, h2, hw, _, hset_none hb p cs, hput_hset ob hne, h4⟩
    have one : (bif Nat.beq (P.cellsOf t) 1 then oneP vv (stC h p vv fun h' => K undef h') else False) → (bif Nat.beq (P.cellsOf t) 1 then oneP vv (stC (hput h b ob) p vv fun h2 => ∃ h1, h1 b = none ∧ h2 = hput h1 b ob ∧ K undef h1) else False) := by
      cases Nat.beq (P.cellsOf t) 1 with
      | false => exact id
      | true =>
        simp only [cond_true]
        intro hh
        cases vv <;> first
          | exact hh.elim
          | exact ⟨(hwr_put hb ob hh.1).2, _, hset_none hb p _, hput_hset ob (hwr_put hb ob hh.1).1, hh.2⟩
    rcases P.underlying t with _ | d
    · exact id
    · cases d <;> first
        | exact agg
        | exact one
  case call c =>
    obtain ⟨args, hargs, ho⟩ := on_spec ho
    rw [hargs]
    simp only [on]
    cases hcal : c.callee <;> rw [hcal] at ho hc <;> dsimp only at ho hc ⊢
    case builtin bi =>
      have hsc : ∀ {a : Option Addr} {n : Nat} {new : List Value}, srcP h a n new → srcP (hput h b ob) a n new := by
        intro a n new hs
        refine ⟨hs.1, ?_⟩
        cases a with
        | none => exact hs.2
        | some p => exact fun i v hv => (Ext.put hb ob).cell (hs.2 i v hv)
      cases bi <;> (try simp only at hc) <;> try (exfalso; omega)
      all_goals (unfold builtinP at ho ⊢; split at ho <;> try (first | exact ho.elim | contradiction))
      rotate_left
      · rename_i t x hbb ht
        unfold clearP at ho ⊢
        revert ho
        rcases P.underlying t with _ | d1
        · exact id
        · cases d1 <;> try exact id
          rename_i e
          dsimp only
          intro ho
          obtain ⟨z, hz, ho⟩ := on_spec ho
          rw [hz]
          simp only [on]
          revert ho
          cases Nat.beq z.length (P.cellsOf e) with
          | false => exact id
          | true =>
            simp only [cond_true]
            intro ho
            obtain ⟨a, n, c, rfl, ho⟩ := slcP_spec ho
            cases a with
            | none => exact ⟨h, hb, rfl, ho⟩
            | some a =>
              obtain ⟨hne, hw⟩ := hwr_put hb ob ho.1
              exact ⟨hw, ho.2.1, _, hset_none hb _ _, hput_hset ob hne, ho.2.2⟩
      rename_i ts tx s x hbb ht
      unfold appendP at ho ⊢
      revert ho
      rcases P.underlying ts with _ | d1
      · exact id
      · cases d1 <;> try exact id
        rename_i e
        rcases P.underlying tx with _ | d2
        · exact id
        · cases d2 <;> try exact id
          dsimp only
          intro ho
          obtain ⟨z, hz, ho⟩ := on_spec ho
          rw [hz]
          simp only [on]
          revert ho
          cases (Nat.beq z.length (P.cellsOf e) && !Nat.beq (P.bytesOf e) 0 && !Nat.beq (P.cellsOf e) 0) with
          | false => exact id
          | true =>
            simp only [cond_true]
            intro ho
            obtain ⟨base, sl, sc, rfl, ho2⟩ := slcP_spec ho
            obtain ⟨xa, n, xc, rfl, new, h1, h2, h3⟩ := slcP_spec ho2
            refine ⟨new, hsc h1, fun hr => ?_, fun hr => ?_⟩
            · have := h2 hr
              cases base with
              | none => exact ⟨this.1, h, hb, rfl, this.2⟩
              | some a =>
                by_cases hnew : new = []
                · subst hnew
                  refine ⟨fun hh => absurd rfl hh, this.2.1, hset h (a.add (sl * P.cellsOf e)) [], hset_none hb _ _, ?_, this.2.2⟩
                  have hid : ∀ (g : H) (a : Addr), hset g a [] = g := by
                    intro g a
                    funext k
                    unfold hset
                    split
                    · cases g k with
                      | none => rfl
                      | some o => cases o <;> rfl
                    · rfl
                  rw [hid, hid]
                · obtain ⟨hne, hw⟩ := hwr_put hb ob (this.1 hnew)
                  exact ⟨fun _ => hw, this.2.1, _, hset_none hb _ _, hput_hset ob hne, this.2.2⟩
            · obtain ⟨h4, old, h5, h6⟩ := h3 hr
              refine ⟨h4, old, hsc h5, fun cap hc b2 hb2 => ?_⟩
              have hne : b2 ≠ b := fun e => by rw [e] at hb2; simp [hput] at hb2
              have hb2' : h b2 = none := by unfold hput at hb2; rw [if_neg hne] at hb2; exact hb2
              exact ⟨_, by unfold hput; rw [if_neg (fun e => hne e.symm)]; exact hb, hput_comm (fun e => hne e.symm) _ _, h6 cap hc b2 hb2'⟩
    case value f =>
      obtain ⟨vf, hvf, ho⟩ := on_spec ho
      rw [hvf]
      obtain ⟨fid, first, cap, rfl, ht⟩ := funP_spec ho
      exact ht.map (fun ⟨v, hv, k⟩ => ⟨v, fun w hw => hv w ((Ext.put hb ob).sub hw), ret _ _ ⟨h, hb, rfl, k⟩⟩) fun ht => (ht.frame hb ob).mono fun r h2 ⟨h1, n1, e1, hr⟩ => ret r h2 ⟨h1, n1, e1, hr⟩
    case invoke r name =>
      obtain ⟨vf, hvf, ho⟩ := on_spec ho
      rw [hvf]
      obtain ⟨t, u, rfl, f, rv, hm, ht⟩ := methP_spec ho
      refine ⟨f, rv, fun w hw => hm w ((Ext.put hb ob).sub hw), (ht.frame hb ob).mono fun r h2 ⟨h1, n1, e1, hr⟩ => ret r h2 ⟨h1, n1, e1, hr⟩⟩
  case panic x =>
    obtain ⟨v, hv, ho⟩ := on_spec ho
    rw [hv]
    obtain ⟨t, u, rfl, ho2⟩ := panP_spec ho
    exact ⟨h, hb, rfl, ho2⟩
  all_goals (exfalso; first | (split at hc <;> omega) | ((repeat' split at hc) <;> omega))

theorem opt_store_some {P : Program} {o : Oper} (hc : clsOf P o = 3) {fr : Fr} {h : H} (hf : Fin' h) {K X : Value → H → Prop} (ho : opt P o fr h K X) : ∃ v h1, Fin' h1 ∧ K v h1 := by
  unfold clsOf at hc
  cases hop : o.op <;> rw [hop] at hc <;> (try simp only at hc) <;> try (exfalso; omega)
  case store t a v =>
    unfold opt at ho
    rw [hop] at ho
    obtain ⟨va, hva, ho⟩ := on_spec ho
    obtain ⟨vv, hvv, ho⟩ := on_spec ho
    unfold storeP at ho
    obtain ⟨p, rfl, ho2⟩ := ptrP_spec ho
    revert ho2
    have agg : (aggP vv fun vs => stN h p vs (P.cellsOf t) fun h' => K undef h') → ∃ v h1, Fin' h1 ∧ K v h1 := by
      intro hh
      obtain ⟨cs, rfl, h1, h2, h3, h4⟩ := aggP_spec hh
      exact ⟨_, _, hf.set _ _, h4⟩
    have one : (bif Nat.beq (P.cellsOf t) 1 then oneP vv (stC h p vv fun h' => K undef h') else False) → ∃ v h1, Fin' h1 ∧ K v h1 := by
      cases Nat.beq (P.cellsOf t) 1 with
      | false => exact fun h => h.elim
      | true =>
        simp only [cond_true]
        intro hh
        obtain ⟨_, _, hk⟩ := oneP_spec hh
        exact ⟨_, _, hf.set _ _, hk⟩
    rcases P.underlying t with _ | d
    · exact fun h => h.elim
    · cases d <;> first
        | exact agg
        | exact one
  all_goals (exfalso; first | (split at hc <;> omega) | ((repeat' split at hc) <;> omega))

theorem opt_app_some {P : Program} {o : Oper} (hc : appB o = true) {fr : Fr} {h : H} (hf : Fin' h) {K X : Value → H → Prop} (ho : opt P o fr h K X) : ∃ v h1, Fin' h1 ∧ K v h1 := by
  unfold appB at hc
  split at hc
  case h_2 => cases hc
  rename_i c hop
  split at hc
  case h_2 => cases hc
  rename_i hcal
  unfold opt at ho
  rw [hop] at ho
  dsimp only at ho
  obtain ⟨args, hargs, ho⟩ := on_spec ho
  rw [hcal] at ho
  dsimp only at ho
  unfold builtinP at ho
  split at ho <;> try (first | exact ho.elim | contradiction)
  rename_i ts tx s x hb ht
  unfold appendP at ho
  split at ho
  case h_2 => exact ho.elim
  rename_i e e2 hu hu2
  obtain ⟨z, hz, ho⟩ := on_spec ho
  revert ho
  cases (Nat.beq z.length (P.cellsOf e) && !Nat.beq (P.bytesOf e) 0 && !Nat.beq (P.cellsOf e) 0) with
  | false => exact fun h => h.elim
  | true =>
    simp only [cond_true]
    intro ho
    obtain ⟨base, sl, sc, rfl, ho2⟩ := slcP_spec ho
    obtain ⟨xa, n, xc, rfl, new, h1, h2, h3⟩ := slcP_spec ho2
    by_cases hr : sl + n ≤ sc
    · have := h2 hr
      cases base with
      | none => exact ⟨_, h, hf, this.2⟩
      | some a => exact ⟨_, _, hf.set _ _, this.2.2⟩
    · obtain ⟨_, old, _, hk⟩ := h3 (by omega)
      obtain ⟨N, hN⟩ := hf
      exact ⟨_, _, Fin'.put ⟨N, hN⟩ N _, hk _ (Nat.le_refl _) N (hN N (Nat.le_refl _))⟩

theorem rdSame_self {P : Program} {o : Oper} (hc : clsOf P o = 1) {fr : Fr} {h : H} {K X : Value → H → Prop} (ho : opt P o fr h K X) : rdSame P o (ldAddr fr o) h h := by
  unfold rdSame ldAddr
  unfold opt at ho
  cases hop : o.op <;> try trivial
  rw [hop] at ho
  obtain ⟨v, hv, ho⟩ := on_spec ho
  unfold loadP at ho
  obtain ⟨a, rfl, _⟩ := ptrP_spec ho
  simp only [hv]
  first | exact fun i _ => rfl | exact fun i _ => trivial | trivial

set_option maxHeartbeats 2000000 in
theorem swap {P : Program} {ops : List Oper} {pd : Nat → List Nat} {X : Value → H → Prop} {ex : List (Nat × Option Value)} {l x : Nat} {M : List Nat} {fr : Fr} {h : H} {K : Fr → H → Prop} (hK : UpK K) (hUX : UpX X) (hf : Fin' h)
    (hok : okPair P ops pd l x = true) (hr : rpt P ops pd ex (l :: x :: M) fr h K X) : rpt P ops pd ex (x :: l :: M) fr h K X := by
  rw [rpt_step hK hf] at hr ⊢
  obtain ⟨ol, hl, hr⟩ := hr
  unfold okPair at hok
  rw [hl] at hok
  cases hx : ops[x]? with
  | none => rw [hx] at hok; cases hok
  | some ox =>
  rw [hx] at hok
  simp only [Bool.and_eq_true] at hok
  obtain ⟨⟨⟨hap, hpd⟩, hpx⟩, hcl⟩ := hok
  have hpd : pd l = [] ∨ clsOf P ol = 3 ∨ clsOf P ol = 4 := by
    simp only [Bool.or_eq_true] at hpd
    rcases hpd with (h | h) | h
    · exact .inl (by simpa using h)
    · exact .inr (.inl (Nat.eq_of_beq_eq_true h))
    · exact .inr (.inr (Nat.eq_of_beq_eq_true h))
  have hpx : pd x = [] ∨ clsOf P ox = 3 ∨ clsOf P ox = 4 := by
    simp only [Bool.or_eq_true] at hpx
    rcases hpx with (h | h) | h
    · exact .inl (by simpa using h)
    · exact .inr (.inl (Nat.eq_of_beq_eq_true h))
    · exact .inr (.inr (Nat.eq_of_beq_eq_true h))
  unfold apartB at hap
  simp only [Bool.and_eq_true, Bool.not_eq_true'] at hap
  obtain ⟨⟨hlx, hxl⟩, hne⟩ := hap
  have hne' : ∀ a b, ol.dst = some a → ox.dst = some b → a ≠ b := by
    intro a b ha hb e
    rw [ha, hb] at hne
    subst e
    simp [beq_self] at hne
  -- 'x' behind 'l'
  have atX : ∀ v al h1, Fin' h1 → rpt P ops pd ((l, al) :: ex) (x :: M) (Fr.put fr ol.dst v) h1 K X →
      (wantF ops ox.guard fr = some true ∧ opt P ox fr h1 (fun u h2 => oblP P ops h1 h2 (both (pd x) ((l, al) :: ex)) (rpt P ops pd ((x, ldAddr fr ox) :: (l, al) :: ex) M (Fr.put (Fr.put fr ol.dst v) ox.dst u) h2 K X)) X) ∨
      (wantF ops ox.guard fr = some false ∧ rpt P ops pd ((x, none) :: (l, al) :: ex) M (Fr.put (Fr.put fr ol.dst v) ox.dst undef) h1 K X) := by
    intro v al h1 hf1 hh
    rw [rpt_step hK hf1] at hh
    obtain ⟨ox', hox, hh⟩ := hh
    rw [hx] at hox; cases hox
    rw [want_put hlx] at hh
    refine hh.imp (fun a => ⟨a.1, ?_⟩) id
    have a2 := a.2
    rw [opt_fr (agr hlx fr v), ldAddr_fr (agr hlx fr v)] at a2
    exact a2
  -- 'l' behind 'x'
  have behind : ∀ u ax h2 v al', Fin' h2 → rpt P ops pd ((x, ax) :: (l, al') :: ex) M (Fr.put (Fr.put fr ol.dst v) ox.dst u) h2 K X →
      rpt P ops pd ((l, al') :: (x, ax) :: ex) M (Fr.put (Fr.put fr ox.dst u) ol.dst v) h2 K X := by
    intro u ax h2 v al' hf2 hh
    refine rpt_gen M hf2 hK (fun p hp => ?_) (put_swap hne' v u) hh
    simp only [List.mem_cons] at hp ⊢
    rcases hp with h | h | h
    · exact .inr (.inl h)
    · exact .inl h
    · exact .inr (.inr h)
  have lastW : pd l = [] → ∀ u ax h2, Fin' h2 → wantF ops ol.guard fr = some true → opt P ol fr h2 (fun v h3 => rpt P ops pd ((x, ax) :: (l, ldAddr fr ol) :: ex) M (Fr.put (Fr.put fr ol.dst v) ox.dst u) h3 K X) X →
      rpt P ops pd ((x, ax) :: ex) (l :: M) (Fr.put fr ox.dst u) h2 K X := by
    intro hpd u ax h2 hf2 hw ho
    rw [rpt_step hK hf2]
    refine ⟨ol, hl, .inl ⟨by rw [want_put hxl]; exact hw, ?_⟩⟩
    rw [opt_fr (agr hxl fr u), ldAddr_fr (agr hxl fr u)]
    refine opt_mono hf2 (fun v h3 hf3 hh => ?_) (fun _ _ x => x) ho
    rw [hpd, oblP_iff]
    exact ⟨fun p hp => by rw [mem_both] at hp; simp [has] at hp, behind u ax h3 v _ hf3 hh⟩
  refine ⟨ox, rfl, ?_⟩
  rcases hr with ⟨hwl, hol⟩ | ⟨hwl, hr⟩
  · -- 'l' runs
    by_cases c34 : clsOf P ol = 3 ∨ clsOf P ol = 4
    · -- what acts, ahead of a plain new variable
      have hcx : clsOf P ox = 2 := by
        rcases c34 with c34 | c34 <;> rw [c34] at hcl <;> split at hcl <;> first
          | (exfalso; omega)
          | assumption
          | (exact absurd hcl (by simp))
      have hgx : ox.guard = none := by
        rcases c34 with c34 | c34 <;> rw [c34, hcx] at hcl <;> simp only at hcl
        · simpa using hcl
        · rcases Bool.or_eq_true_iff.1 hcl with hcl | hcl
          · unfold allocB at hcl
            split at hcl
            · simp only [Bool.and_eq_true] at hcl; simpa using hcl.2
            · cases hcl
          · simp only [Bool.and_eq_true] at hcl; simpa using hcl.2
      have hww : wantF ops ox.guard fr = some true := by rw [hgx]; rfl
      obtain ⟨W2, obj2, vf2, hW2⟩ := opt_new hcx fr
      have hw2 : W2 := by
        rcases c34 with c3 | c4
        · obtain ⟨v, h1, hf1, hk⟩ := opt_store_some c3 hf hol
          rcases atX v _ h1 hf1 (oblP_iff.1 hk).2 with ⟨_, ho⟩ | ⟨hw, _⟩
          · exact ((hW2 _ _ _).1 ho).1
          · rw [hww] at hw; cases hw
        · rw [c4, hcx] at hcl
          simp only at hcl
          rcases Bool.or_eq_true_iff.1 hcl with hcl | hcl
          rotate_left
          · simp only [Bool.and_eq_true] at hcl
            obtain ⟨v, h1, hf1, hk⟩ := opt_app_some hcl.1 hf hol
            rcases atX v _ h1 hf1 (oblP_iff.1 hk).2 with ⟨_, ho⟩ | ⟨hw, _⟩
            · exact ((hW2 _ _ _).1 ho).1
            · rw [hww] at hw; cases hw
          unfold allocB at hcl
          split at hcl
          · rename_i et hopx
            simp only [Bool.and_eq_true] at hcl
            obtain ⟨z, hz⟩ := Option.isSome_iff_exists.1 hcl.1
            refine ((hW2 h (fun _ _ => True) X).1 ?_).1
            unfold opt
            rw [hopx]
            dsimp only
            unfold allocP
            rw [hz]
            exact fun _ _ => trivial
          · cases hcl
      have hpx0 : pd x = [] := hpx.resolve_right (by omega)
      refine .inl ⟨hww, (hW2 _ _ _).2 ⟨hw2, fun b hb => ?_⟩⟩
      refine oblP_iff.2 ⟨fun p hp => (by have := (mem_both.1 hp).2; rw [hpx0] at this; cases this), ?_⟩
      rw [rpt_step hK (hf.put _ _)]
      refine ⟨ol, hl, .inl ⟨by rw [want_put hxl]; exact hwl, ?_⟩⟩
      rw [opt_fr (agr hxl fr _), ldAddr_fr (agr hxl fr _)]
      refine opt_mono (hf.put _ _) (fun v h2 hf2 hh => ?_) (fun v h2 ⟨h1, n1, e1, hx1⟩ => by rw [e1]; exact hUX _ _ _ (Ext.put n1 _) hx1) (opt_frame c34 hol hb _)
      obtain ⟨h1, n1, e1, hk⟩ := hh
      subst e1
      obtain ⟨hob, hr⟩ := oblP_iff.1 hk
      have hf1 : Fin' h1 := by
        obtain ⟨N, hN⟩ := hf2
        exact ⟨max N (b + 1), fun k hk => by have := hN k (by omega); unfold hput at this; rw [if_neg (by omega)] at this; exact this⟩
      refine oblP_iff.2 ⟨fun p hp => ?_, ?_⟩
      · obtain ⟨hp1, hp2⟩ := mem_both.1 hp
        simp only [List.mem_cons] at hp1
        rcases hp1 with rfl | hp1
        · -- the new variable is no load
          dsimp only
          rw [hx]
          show rdSame P ox (ldAddr fr ox) _ _
          unfold clsOf at hcx
          unfold rdSame
          cases hopx : ox.op <;> try trivial
          rw [hopx] at hcx
          simp at hcx
        · have := hob p (mem_both.2 ⟨hp1, hp2⟩)
          revert this
          cases ops[p.1]? with
          | none => exact id
          | some o =>
            intro this
            revert this
            show rdSame P o p.2 h h1 → rdSame P o p.2 (hput h b _) (hput h1 b _)
            unfold rdSame
            cases o.op <;> try exact id
            cases p.2 with
            | none => exact id
            | some va =>
              dsimp only
              intro hh
              obtain ⟨a, rfl, hh⟩ := ptrP_spec hh
              intro i hi
              exact hcell_hput _ (hh i hi)
      · rcases atX v _ h1 hf1 hr with ⟨_, ho⟩ | ⟨hw2, _⟩
        · have := ((hW2 _ _ _).1 ho).2 b n1
          exact behind _ _ _ v _ hf2 (oblP_iff.1 this).2
        · rw [hww] at hw2; cases hw2
    have hpd : pd l = [] := hpd.resolve_right c34
    have lastW := lastW hpd
    have hol : opt P ol fr h (fun v h1 => rpt P ops pd ((l, ldAddr fr ol) :: ex) (x :: M) (Fr.put fr ol.dst v) h1 K X) X :=
      opt_mono hf (fun v h1 _ hh => (oblP_iff.1 hh).2) (fun _ _ x => x) hol
    -- what 'l' yields is had again where its place reads the same
    have fin : ∀ v, (wantF ops ox.guard fr = some true ∧ opt P ox fr h (fun u h2 => (∀ K', K' v h2 → opt P ol fr h2 K' X) ∧
          oblP P ops h h2 (both (pd x) ((l, ldAddr fr ol) :: ex)) (rpt P ops pd ((x, ldAddr fr ox) :: (l, ldAddr fr ol) :: ex) M (Fr.put (Fr.put fr ol.dst v) ox.dst u) h2 K X)) X) ∨
        (wantF ops ox.guard fr = some false ∧ (∀ K', K' v h → opt P ol fr h K' X) ∧ rpt P ops pd ((x, none) :: (l, ldAddr fr ol) :: ex) M (Fr.put (Fr.put fr ol.dst v) ox.dst undef) h K X) →
        (wantF ops ox.guard fr = some true ∧ opt P ox fr h (fun v h' => oblP P ops h h' (both (pd x) ex) (rpt P ops pd ((x, ldAddr fr ox) :: ex) (l :: M) (Fr.put fr ox.dst v) h' K X)) X) ∨
        (wantF ops ox.guard fr = some false ∧ rpt P ops pd ((x, none) :: ex) (l :: M) (Fr.put fr ox.dst undef) h K X) := by
      intro v hh
      rcases hh with ⟨hw, ho⟩ | ⟨hw, hre, hr⟩
      · refine .inl ⟨hw, opt_mono hf (fun u h2 hf2 hh => ?_) (fun _ _ x => x) ho⟩
        exact oblP_weak (fun p hp => List.mem_cons_of_mem _ hp) (fun hr => lastW u _ h2 hf2 hwl (hh.1 (fun v h3 => rpt P ops pd ((x, ldAddr fr ox) :: (l, ldAddr fr ol) :: ex) M (Fr.put (Fr.put fr ol.dst v) ox.dst u) h3 K X) hr)) hh.2
      · exact .inr ⟨hw, lastW undef _ h hf hwl (hre (fun v h3 => rpt P ops pd ((x, none) :: (l, ldAddr fr ol) :: ex) M (Fr.put (Fr.put fr ol.dst v) ox.dst undef) h3 K X) hr)⟩
    -- by kinds
    by_cases c0 : clsOf P ol = 0
    · obtain ⟨v, hv, hre⟩ := opt_lin0 c0 hol
      refine fin v ?_
      rcases atX v _ h hf hv with ⟨hw, ho⟩ | ⟨hw, hr⟩
      · exact .inl ⟨hw, opt_mono hf (fun u h2 _ hh => ⟨fun K' hk => hre h2 K' X hk, hh⟩) (fun _ _ x => x) ho⟩
      · exact .inr ⟨hw, fun K' hk => hre h K' X hk, hr⟩
    by_cases c2 : clsOf P ol = 2
    · have hcx : clsOf P ox = 2 ∧ ox.guard = none := by
        rw [c2] at hcl
        split at hcl <;> first | (exfalso; omega) | skip
        all_goals first
          | (exact ⟨by assumption, by simpa using hcl⟩)
          | (exact absurd hcl (by simp))
      have hww : wantF ops ox.guard fr = some true := by rw [hcx.2]; rfl
      obtain ⟨W, obj, vf, hW⟩ := opt_new c2 fr
      obtain ⟨W2, obj2, vf2, hW2⟩ := opt_new hcx.1 fr
      rw [hW] at hol
      have hin : ∀ b, h b = none → opt P ox fr (hput h b obj) (fun u h2 => rpt P ops pd ((x, ldAddr fr ox) :: (l, ldAddr fr ol) :: ex) M (Fr.put (Fr.put fr ol.dst (vf b)) ox.dst u) h2 K X) X := by
        intro b hb
        rcases atX (vf b) _ _ (hf.put _ _) (hol.2 b hb) with ⟨hw, ho⟩ | ⟨hw, hr⟩
        · exact opt_mono (hf.put _ _) (fun v h1 _ hh => (oblP_iff.1 hh).2) (fun _ _ x => x) ho
        · rw [hww] at hw; cases hw
      obtain ⟨b0, hb0⟩ := hf.fresh
      have hw2 : W2 := ((hW2 _ _ _).1 (hin b0 hb0)).1
      refine .inl ⟨hww, (hW2 _ _ _).2 ⟨hw2, fun b2 hb2 => ?_⟩⟩
      have hpx0 : pd x = [] := hpx.resolve_right (by omega)
      refine oblP_iff.2 ⟨fun p hp => ?_, lastW _ _ _ (hf.put _ _) hwl ((hW _ _ _).2 ⟨hol.1, fun b hb => ?_⟩)⟩
      · have := (mem_both.1 hp).2
        rw [hpx0] at this
        cases this
      · unfold hput at hb
        split at hb
        · cases hb
        · rename_i hne2
          have := ((hW2 _ _ _).1 (hin b hb)).2 b2 (by unfold hput; rw [if_neg (fun e => hne2 e.symm)]; exact hb2)
          have hcomm : hput (hput h b obj) b2 obj2 = hput (hput h b2 obj2) b obj := hput_comm hne2 _ _
          rw [hcomm] at this
          exact this
    have c15 : clsOf P ol = 1 ∨ clsOf P ol = 5 := by
      split at hcl <;> first
        | (exfalso; omega)
        | (left; assumption)
        | (right; assumption)
        | (exact absurd hcl (by simp))
    obtain ⟨v, hv, hre⟩ := opt_linE (.inr c15) hol
    by_cases cx : isRead P ox
    · refine fin v ?_
      rcases atX v _ h hf hv with ⟨hw, ho⟩ | ⟨hw, hr⟩
      · obtain ⟨u, hu, hrx⟩ := opt_linE cx ho
        exact .inl ⟨hw, hrx h _ X (Ext.refl h) ⟨fun K' hk => hre h K' X (Ext.refl h) hk, hu⟩⟩
      · exact .inr ⟨hw, fun K' hk => hre h K' X (Ext.refl h) hk, hr⟩
    by_cases cx2 : clsOf P ox = 2
    · refine fin v ?_
      rcases atX v _ h hf hv with ⟨hw, ho⟩ | ⟨hw, hr⟩
      · obtain ⟨W2, obj2, vf2, hW2⟩ := opt_new cx2 fr
        rw [hW2] at ho
        exact .inl ⟨hw, (hW2 _ _ _).2 ⟨ho.1, fun b hb => ⟨fun K' hk => hre _ K' X (Ext.put hb obj2) hk, ho.2 b hb⟩⟩⟩
      · exact .inr ⟨hw, fun K' hk => hre h K' X (Ext.refl h) hk, hr⟩
    -- a load ahead of what acts
    have hcc : clsOf P ol = 1 ∧ has l (pd x) = true := by
      unfold isRead at cx
      split at hcl <;> first
        | (exfalso; omega)
        | exact ⟨by assumption, hcl⟩
        | (exact absurd hcl (by simp))
    obtain ⟨v, hv, hreL⟩ := opt_linL hcc.1 hol
    have hself := rdSame_self hcc.1 hol
    refine fin v ?_
    rcases atX v _ h hf hv with ⟨hw, ho⟩ | ⟨hw, hr⟩
    · refine .inl ⟨hw, opt_mono hf (fun u h2 _ hh => ⟨fun K' hk => ?_, hh⟩) (fun _ _ x => x) ho⟩
      have := (oblP_iff.1 hh).1 (l, ldAddr fr ol) (mem_both.2 ⟨List.mem_cons_self, hcc.2⟩)
      dsimp only at this
      rw [hl] at this
      exact hreL h2 K' X this hk
    · exact .inr ⟨hw, fun K' hk => hreL h K' X hself hk, hr⟩
  · -- 'l' does not run
    rcases atX undef none h hf hr with ⟨hw, ho⟩ | ⟨hw, hr⟩
    · refine .inl ⟨hw, opt_mono hf (fun u h2 hf2 hh => ?_) (fun _ _ x => x) ho⟩
      refine oblP_weak (fun p hp => List.mem_cons_of_mem _ hp) (fun hr => ?_) hh
      rw [rpt_step hK hf2]
      exact ⟨ol, hl, .inr ⟨by rw [want_put hxl]; exact hwl, behind u _ h2 undef _ hf2 hr⟩⟩
    · refine .inr ⟨hw, ?_⟩
      rw [rpt_step hK hf]
      exact ⟨ol, hl, .inr ⟨by rw [want_put hxl]; exact hwl, behind undef _ h undef _ hf hr⟩⟩

end Go.Proofs.YtjlojokockfapaaGreatDoor

namespace Go.Proofs.YtjlojokockfapaaGreatDoor
open Go
set_option linter.unusedVariables false
set_option linter.unusedSimpArgs false

theorem FrOK.le {fr fr' : Fr} {a : Act} (hf : FrOK fr a) (hl : Fr.le fr' fr) : FrOK fr' a := fun t v h => hf t v (hl t v h)

theorem FrOK.put {fr : Fr} {a : Act} (hf : FrOK fr a) {d : Option Nat} (hd : ∀ t, d = some t → t < a.tmps.size) (v : Value) : FrOK (Fr.put fr d v) (a.put d v) := by
  cases d with
  | none => exact hf
  | some d =>
    intro t u hu
    have hlt := hd d rfl
    simp only [Fr.put] at hu
    simp only [Act.put]
    by_cases e : d = t
    · subst e
      rw [get_cons_self] at hu
      cases hu
      simp [hlt]
    · rw [get_cons_ne e] at hu
      rw [Array.getElem?_setIfInBounds_ne e]
      exact hf t u hu

theorem size_put (a : Act) (d : Option Nat) (v : Value) : (a.put d v).tmps.size = a.tmps.size := by cases d <;> simp [Act.put]
theorem defers_put (a : Act) (d : Option Nat) (v : Value) : (a.put d v).defers = a.defers := by cases d <;> rfl

theorem want_spec {ops : Array Oper} {o : Oper} {fr : Fr} {a : Act} (hf : FrOK fr a) {b : Bool} (h : wantF ops.toList o.guard fr = some b) :
    Region.wanted o (yielded ops a.tmps) = b := by
  unfold wantF at h
  unfold Region.wanted
  cases hg : o.guard with
  | none => rw [hg] at h; simp at h; simp [h]
  | some jw =>
    obtain ⟨j, w⟩ := jw
    rw [hg] at h
    dsimp only at h ⊢
    cases hj : ops.toList[j]? with
    | none => rw [hj] at h; cases h
    | some oj =>
      have hj' : ops[j]? = some oj := by rw [← hj, Array.getElem?_toList]
      rw [hj] at h
      dsimp only at h
      cases hd : oj.dst with
      | none => rw [hd] at h; cases h
      | some d =>
        rw [hd] at h
        dsimp only at h
        have hy : yielded ops a.tmps j = match a.tmps[d]? with | some (.bool b) => some b | _ => none := by
          simp only [yielded, hj', Option.bind_some, hd]
          rfl
        cases hget : Fr.get fr d with
        | none => rw [hget] at h; cases h
        | some v =>
          rw [hget] at h
          rw [hy, hf d v hget]
          cases v <;> simp only at h <;> try (cases h; done)
          · simp only [Option.some.injEq] at h
            rw [← h]
            rename_i c
            cases c <;> cases w <;> rfl
          · simp only [Option.some.injEq] at h
            rw [← h]; rfl

structure Rel (n : Nat) (ds : List Deferred) (h0 : H) (w0 : World) (W : List Nat) (a0 : Act) (fr : Fr) (h : H) (a : Act) (w : World) : Prop where
  fr : FrOK fr a
  sub : Sub h w
  same : Stp h0 w0 h w
  size : a.tmps.size = n
  defers : a.defers = ds
  keep : ∀ t, has t W = false → a.tmps[t]? = a0.tmps[t]?

theorem keep_put {W : List Nat} {a a0 : Act} (hk : ∀ t, has t W = false → a.tmps[t]? = a0.tmps[t]?) {d : Option Nat} (hd : ∀ t, d = some t → has t W = true) (v : Value) :
    ∀ t, has t W = false → (a.put d v).tmps[t]? = a0.tmps[t]? := by
  intro t ht
  cases d with
  | none => exact hk t ht
  | some d =>
    have hne : d ≠ t := fun e => by rw [← e, hd d rfl] at ht; cases ht
    simp only [Act.put]
    rw [Array.getElem?_setIfInBounds_ne hne]
    exact hk t ht

/-- one operation of a region -/
theorem step_sound {P : Program} {ops : Array Oper} {n : Nat} {ds : List Deferred} {h0 : H} {w0 : World} {W : List Nat} {a0 : Act} {Q : Exit → Act → World → Prop} {pd : Nat → List Nat} {ex : List (Nat × Option Value)} {i : Nat} {L : List Nat}
    {fr : Fr} {h : H} {K : Fr → H → Prop} {X : Value → H → Prop} {a : Act} {w : World} (hK : UpK K)
    (hd : ∀ o ∈ ops.toList, ∀ d, o.dst = some d → d < n ∧ has d W = true)
    (hX : ∀ v h' a' w', X v h' → Rel n ds h0 w0 W a0 [] h' a' w' → Q (.panic [⟨v, false, false⟩]) a' w')
    (hr : rpt P ops.toList pd ex (i :: L) fr h K X) (rel : Rel n ds h0 w0 W a0 fr h a w) {next : Act → World → Prop}
    (hn : ∀ ex' fr' h' a' w', rpt P ops.toList pd ex' L fr' h' K X → Rel n ds h0 w0 W a0 fr' h' a' w' → next a' w') : wpOp P ops Q i next a w := by
  rw [rpt_step hK rel.sub.fin] at hr
  obtain ⟨o, ho, hr⟩ := hr
  have ho' : ops[i]? = some o := by rw [← ho, Array.getElem?_toList]
  have hdo : ∀ t, o.dst = some t → t < a.tmps.size := fun t ht => by rw [rel.size]; exact (hd o (List.mem_of_getElem? ho) t ht).1
  have hdw : ∀ t, o.dst = some t → has t W = true := fun t ht => (hd o (List.mem_of_getElem? ho) t ht).2
  unfold wpOp
  rw [ho']
  dsimp only
  rcases hr with ⟨hw, hopt⟩ | ⟨hw, hr⟩
  · rw [want_spec rel.fr hw, if_pos rfl]
    left
    refine opt_sound hopt rel.fr rel.sub (fun v h' w' hk hs' hm => ?_) (fun v h' w' hx hs' hm => hX v h' a w' hx ⟨FrOK.nil a, hs', rel.same.trans hm, rel.size, rel.defers, rel.keep⟩)
    exact hn _ _ _ _ _ (oblP_iff.1 hk).2 ⟨rel.fr.put hdo v, hs', rel.same.trans hm, by rw [size_put, rel.size], by rw [defers_put, rel.defers], keep_put rel.keep hdw _⟩
  · rw [want_spec rel.fr hw, if_neg (by simp)]
    exact hn _ _ _ _ _ hr ⟨rel.fr.put hdo undef, rel.sub, rel.same, by rw [size_put, rel.size], by rw [defers_put, rel.defers], keep_put rel.keep hdw _⟩

/-- the operations in a given order -/
theorem list_sound {P : Program} {ops : Array Oper} {n : Nat} {ds : List Deferred} {h0 : H} {w0 : World} {W : List Nat} {a0 : Act} {Q : Exit → Act → World → Prop} {pd : Nat → List Nat} {K : Fr → H → Prop} {X : Value → H → Prop} (hK : UpK K)
    (hd : ∀ o ∈ ops.toList, ∀ d, o.dst = some d → d < n ∧ has d W = true)
    (hX : ∀ v h' a' w', X v h' → Rel n ds h0 w0 W a0 [] h' a' w' → Q (.panic [⟨v, false, false⟩]) a' w')
    (hN : ∀ fr' h' a' w', K fr' h' → Rel n ds h0 w0 W a0 fr' h' a' w' → Q .normal a' w') :
    ∀ (L : List Nat) (ex : List (Nat × Option Value)) (fr : Fr) (h : H) (a : Act) (w : World), rpt P ops.toList pd ex L fr h K X → Rel n ds h0 w0 W a0 fr h a w → wpOps P ops Q L a w := by
  intro L
  induction L with
  | nil => intro ex fr h a w hr rel; exact hN fr h a w hr rel
  | cons i L ih =>
    intro ex fr h a w hr rel
    rw [wpOps_cons]
    exact step_sound hK hd hX hr rel fun ex' fr' h' a' w' hr' rel' => ih ex' fr' h' a' w' hr' rel'

theorem front {P : Program} {ops : List Oper} {pd : Nat → List Nat} {X : Value → H → Prop} {x : Nat} {L2 : List Nat} {K : Fr → H → Prop} (hK : UpK K) (hUX : UpX X) :
    ∀ (L1 : List Nat) (ex : List (Nat × Option Value)) (fr : Fr) (h : H), Fin' h → (∀ l ∈ L1, okPair P ops pd l x = true) → rpt P ops pd ex (L1 ++ x :: L2) fr h K X → rpt P ops pd ex (x :: (L1 ++ L2)) fr h K X := by
  intro L1
  induction L1 with
  | nil => intro ex fr h _ _ hr; exact hr
  | cons l L1 ih =>
    intro ex fr h hf hok hr
    refine swap hK hUX hf (hok l (by simp)) ?_
    rw [List.cons_append, rpt_step hK hf] at hr
    rw [rpt_step hK hf]
    obtain ⟨o, ho, hr⟩ := hr
    refine ⟨o, ho, hr.imp (fun a => ⟨a.1, ?_⟩) (fun a => ⟨a.1, ih _ _ _ hf (fun l hl => hok l (by simp [hl])) a.2⟩)⟩
    exact opt_mono hf (fun v h' hf' => oblP_weak (fun _ p => p) (ih _ _ _ hf' (fun l hl => hok l (by simp [hl])))) (fun _ _ x => x) a.2

theorem edgeBits_spec {acc : List Nat} {l : Nat} : ∀ (es : List Edge) (s : Nat), (es.foldl (fun s e => bif Region.binds .any e then s ||| 2 ^ e.on ||| acc.getD e.on 0 else s) s).testBit l = true →
    s.testBit l = true ∨ ∃ e ∈ es, Region.binds .any e = true ∧ (e.on = l ∨ (acc.getD e.on 0).testBit l = true) := by
  intro es
  induction es with
  | nil => intro s h; exact .inl h
  | cons e es ih =>
    intro s h
    rw [List.foldl_cons] at h
    rcases ih _ h with h | ⟨e', he', hb⟩
    · cases hb : Region.binds .any e with
      | false => rw [hb, cond_false] at h; exact .inl h
      | true =>
        rw [hb, cond_true] at h
        simp only [Nat.testBit_or, Bool.or_eq_true, Nat.testBit_two_pow, decide_eq_true_eq] at h
        rcases h with (h | h) | h
        · exact .inl h
        · exact .inr ⟨e, by simp, hb, .inl h⟩
        · exact .inr ⟨e, by simp, hb, .inr h⟩
    · exact .inr ⟨e', by simp [he'], hb⟩

theorem ancs_prefix : ∀ (L : List Oper) (acc : List Nat), ∃ r, ancs L acc = acc ++ r ∧ r.length = L.length := by
  intro L
  induction L with
  | nil => intro acc; exact ⟨[], by simp [ancs], rfl⟩
  | cons o L ih =>
    intro acc
    obtain ⟨r, h1, h2⟩ := ih (acc ++ [edgeBits acc o.after.toList])
    exact ⟨edgeBits acc o.after.toList :: r, by simp [ancs, h1], by simp [h2]⟩

theorem ancs_spec : ∀ (L : List Oper) (acc : List Nat) (k : Nat) (o : Oper) (l : Nat), L[k]? = some o → ((ancs L acc).getD (acc.length + k) 0).testBit l = true →
    ∃ e ∈ o.after.toList, Region.binds .any e = true ∧ (e.on = l ∨ ((ancs L acc).getD e.on 0).testBit l = true) := by
  intro L
  induction L with
  | nil => intro acc k o l h; simp at h
  | cons o' L ih =>
    intro acc k o l hk hb
    cases k with
    | zero =>
      simp only [List.getElem?_cons_zero, Option.some.injEq] at hk
      subst hk
      obtain ⟨r, h1, h2⟩ := ancs_prefix L (acc ++ [edgeBits acc o'.after.toList])
      simp only [ancs] at hb ⊢
      rw [h1] at hb ⊢
      have hval : (acc ++ [edgeBits acc o'.after.toList] ++ r).getD (acc.length + 0) 0 = edgeBits acc o'.after.toList := by simp [List.getD]
      rw [hval] at hb
      rcases edgeBits_spec _ _ hb with h | ⟨e, he, hbe, h⟩
      · simp at h
      · refine ⟨e, he, hbe, h.imp id fun h => ?_⟩
        have hlt : e.on < acc.length := by
          rcases Nat.lt_or_ge e.on acc.length with hlt | hge
          · exact hlt
          · rw [List.getD, List.getElem?_eq_none hge] at h; simp at h
        have : (acc ++ [edgeBits acc o'.after.toList] ++ r).getD e.on 0 = acc.getD e.on 0 := by
          simp only [List.getD, List.append_assoc]
          rw [List.getElem?_append_left hlt]
        rw [this]; exact h
    | succ k =>
      simp only [List.getElem?_cons_succ] at hk
      simp only [ancs] at hb ⊢
      exact ih (acc ++ [edgeBits acc o'.after.toList]) k o l hk (by simpa [Nat.add_assoc, Nat.add_comm 1 k] using hb)

theorem edgesOK_spec : ∀ (L : List Oper) (i k : Nat) (o : Oper), edgesOK i L = true → L[k]? = some o → ∀ e ∈ o.after.toList, Region.binds .any e = true → e.on < i + k := by
  intro L
  induction L with
  | nil => intro i k o _ h; simp at h
  | cons o' L ih =>
    intro i k o hok hk e he hb
    simp only [edgesOK, Bool.and_eq_true] at hok
    cases k with
    | zero =>
      simp only [List.getElem?_cons_zero, Option.some.injEq] at hk
      subst hk
      have := List.all_eq_true.1 hok.1 e he
      rw [hb] at this
      simpa [Nat.blt_eq] using this
    | succ k =>
      simp only [List.getElem?_cons_succ] at hk
      have := ih (i + 1) k o hok.2 hk e he hb
      omega

theorem pairsOK_mid {P : Program} {ops : List Oper} {pd : Nat → List Nat} {as : List Nat} {x : Nat} {L2 : List Nat} : ∀ (L1 : List Nat), pairsOK P ops pd as (L1 ++ x :: L2) = true →
    (∀ l ∈ L1, (as.getD x 0).testBit l = true ∨ okPair P ops pd l x = true) ∧ pairsOK P ops pd as (L1 ++ L2) = true := by
  intro L1
  induction L1 with
  | nil =>
    intro h
    simp only [List.nil_append, pairsOK, Bool.and_eq_true] at h
    exact ⟨by simp, h.2⟩
  | cons l L1 ih =>
    intro h
    simp only [List.cons_append, pairsOK, Bool.and_eq_true] at h
    obtain ⟨h1, h2⟩ := ih h.2
    refine ⟨fun l' hl' => ?_, ?_⟩
    · simp only [List.mem_cons] at hl'
      rcases hl' with rfl | hl'
      · have := List.all_eq_true.1 h.1 x (by simp)
        simp only [Bool.and_eq_true, Bool.or_eq_true] at this
        exact this.2
      · exact h1 l' hl'
    · simp only [List.cons_append, pairsOK, Bool.and_eq_true]
      refine ⟨List.all_eq_true.2 fun y hy => List.all_eq_true.1 h.1 y ?_, h2⟩
      simp only [List.mem_append, List.mem_cons] at hy ⊢
      exact hy.imp id .inr

/-- in every order -/
theorem any_sound {P : Program} {ops : Array Oper} {n : Nat} {ds : List Deferred} {h0 : H} {w0 : World} {W : List Nat} {a0 : Act} {Q : Exit → Act → World → Prop} {pd : Nat → List Nat} {K : Fr → H → Prop} {X : Value → H → Prop} (hK : UpK K) (hUX : UpX X)
    (hd : ∀ o ∈ ops.toList, ∀ d, o.dst = some d → d < n ∧ has d W = true)
    (hX : ∀ v h' a' w', X v h' → Rel n ds h0 w0 W a0 [] h' a' w' → Q (.panic [⟨v, false, false⟩]) a' w')
    (hN : ∀ fr' h' a' w', K fr' h' → Rel n ds h0 w0 W a0 fr' h' a' w' → Q .normal a' w') (hedge : edgesOK 0 ops.toList = true) :
    ∀ (fuel : Nat) (listed : Array Bool) (L : List Nat), L.length ≤ fuel → L.Nodup → (∀ i, i ∈ L ↔ i < ops.size ∧ listed.getD i true = false) → listed.size = ops.size →
      pairsOK P ops.toList pd (ancs ops.toList []) L = true → (∀ j, j < ops.size → j ∉ L → ∀ l ∈ L, ((ancs ops.toList []).getD j 0).testBit l = false) →
      ∀ (ex : List (Nat × Option Value)) (fr : Fr) (h : H) (a : Act) (w : World), rpt P ops.toList pd ex L fr h K X → Rel n ds h0 w0 W a0 fr h a w → wpAny P .any ops Q fuel listed a w := by
  intro fuel
  have ready_mem : ∀ (listed : Array Bool) (L : List Nat), (∀ i, i ∈ L ↔ i < ops.size ∧ listed.getD i true = false) → ∀ i ∈ Region.ready .any ops listed, i ∈ L := by
    intro listed L hL i hi
    obtain ⟨h0, o, ho, _⟩ := mem_ready.1 hi
    exact (hL i).2 ⟨(Array.getElem?_eq_some_iff.1 ho).1, h0⟩
  have none_ready : ∀ (listed : Array Bool) (L : List Nat), (∀ i, i ∈ L ↔ i < ops.size ∧ listed.getD i true = false) → listed.size = ops.size → Region.ready .any ops listed = [] → L = [] := by
    intro listed L hL hsz hr
    have least : ∀ m i, i ≤ m → i ∉ L := by
      intro m
      induction m with
      | zero =>
        intro i hi hmem
        have hi0 : i = 0 := by omega
        subst hi0
        obtain ⟨hlt, hun⟩ := (hL 0).1 hmem
        have : 0 ∈ Region.ready .any ops listed := mem_ready.2 ⟨hun, ops[0], Array.getElem?_eq_getElem hlt, fun e he hb => by
          have := edgesOK_spec ops.toList 0 0 ops[0] hedge (by simp [hlt]) e (by simpa using he) hb
          omega⟩
        rw [hr] at this; cases this
      | succ m ih =>
        intro i hi hmem
        rcases Nat.lt_or_ge i (m + 1) with hlt' | hge
        · exact ih i (by omega) hmem
        have him : i = m + 1 := by omega
        subst him
        obtain ⟨hlt, hun⟩ := (hL _).1 hmem
        have : m + 1 ∈ Region.ready .any ops listed := mem_ready.2 ⟨hun, ops[m + 1], Array.getElem?_eq_getElem hlt, fun e he hb => by
          have h1 := edgesOK_spec ops.toList 0 (m + 1) ops[m + 1] hedge (by simp [hlt]) e (by simpa using he) hb
          have h2 := ih e.on (by omega)
          have h3 : ¬ (e.on < ops.size ∧ listed.getD e.on true = false) := fun h => h2 ((hL _).2 h)
          have hlt2 : e.on < listed.size := by omega
          have h4 : listed.getD e.on true ≠ false := fun h => h3 ⟨by omega, h⟩
          simp only [Array.getD, hlt2, dite_true] at h4 ⊢
          simpa using h4⟩
        rw [hr] at this; cases this
    cases L with
    | nil => rfl
    | cons x r => exact absurd (by simp) (least x x (Nat.le_refl x))
  induction fuel with
  | zero =>
    intro listed L hlen _ hL hsz _ _ ex fr h a w hr rel
    have hL0 : L = [] := List.eq_nil_of_length_eq_zero (by omega)
    subst hL0
    refine ⟨?_, hN fr h a w hr rel⟩
    cases hrd : Region.ready .any ops listed with
    | nil => rfl
    | cons i r => exact absurd (ready_mem listed [] hL i (by rw [hrd]; simp)) (by simp)
  | succ fuel ih =>
    intro listed L hlen hnd hL hsz hpairs hdown ex fr h a w hr rel
    refine ⟨fun hrd => ?_, fun i hi => ?_⟩
    · have hL0 := none_ready listed L hL hsz hrd
      subst hL0
      exact hN fr h a w hr rel
    · have hiL := ready_mem listed L hL i hi
      obtain ⟨L1, L2, rfl⟩ := List.append_of_mem hiL
      obtain ⟨hun, oi, hoi, hall⟩ := mem_ready.1 hi
      have hilt : i < ops.size := (Array.getElem?_eq_some_iff.1 hoi).1
      have hnob : ∀ l ∈ L1 ++ i :: L2, ((ancs ops.toList []).getD i 0).testBit l = false := by
        intro l hl
        cases hb : ((ancs ops.toList []).getD i 0).testBit l with
        | false => rfl
        | true =>
          exfalso
          obtain ⟨e, he, hbe, h⟩ := ancs_spec ops.toList [] i oi l (by rw [Array.getElem?_toList]; exact hoi) (by simpa using hb)
          have hlisted := hall e (by simpa using he) hbe
          have hnot : e.on ∉ L1 ++ i :: L2 := fun hm => by
            have := (hL e.on).1 hm
            have hlt2 : e.on < listed.size := by omega
            simp only [Array.getD, hlt2, dite_true] at this hlisted
            rw [hlisted] at this; exact absurd this.2 (by simp)
          rcases h with rfl | h
          · exact hnot hl
          · have hlt : e.on < ops.size := by
              have := edgesOK_spec ops.toList 0 i oi hedge (by rw [Array.getElem?_toList]; exact hoi) e he hbe
              omega
            rw [hdown e.on hlt hnot l hl] at h; cases h
      obtain ⟨hp1, hp2⟩ := pairsOK_mid L1 hpairs
      have hfront := front hK hUX L1 ex fr h rel.sub.fin (fun l hl => (hp1 l hl).resolve_left (by rw [hnob l (by simp [hl])]; simp)) hr
      have hnd' : (L1 ++ L2).Nodup ∧ i ∉ L1 ++ L2 := by
        have := (List.perm_middle (a := i) (l₁ := L1) (l₂ := L2)).nodup_iff.1 hnd
        rw [List.nodup_cons] at this
        exact ⟨this.2, this.1⟩
      refine step_sound hK hd hX hfront rel fun ex' fr' h' a' w' hr' rel' => ?_
      refine ih (listed.setIfInBounds i true) (L1 ++ L2) (by simp at hlen ⊢; omega) hnd'.1 (fun k => ?_) (by simp [hsz]) hp2 (fun j hj hjn l hl => ?_) ex' fr' h' a' w' hr' rel'
      · by_cases e : k = i
        · subst e
          have hlt2 : k < listed.size := by omega
          simp [hnd'.2, hlt2, Array.getD]
        · rw [getD_set_ne true (fun h => e h.symm), ← hL k]
          simp [e]
      · by_cases e : j = i
        · subst e
          exact hnob l (by simp at hl ⊢; rcases hl with h | h <;> simp [h])
        · exact hdown j hj (by simp at hjn ⊢; exact ⟨hjn.1, e, hjn.2⟩) l (by simp at hl ⊢; rcases hl with h | h <;> simp [h])

end Go.Proofs.YtjlojokockfapaaGreatDoor

namespace Go.Proofs.YtjlojokockfapaaGreatDoor
open Go
set_option linter.unusedVariables false
set_option linter.unusedSimpArgs false

def cex : Ex → Exit
  | .normal => .normal
  | .exit id => .exit id
  | .ret => .ret
  | .panic v => .panic [⟨v, false, false⟩]

theorem wp_loop_wf {P : Program} {Q : Exit → Act → World → Prop} {α : Type} {r : α → α → Prop} (wf : WellFounded r) {c : Code} (I : α → Act → World → Prop) {s : α} {a : Act} {w : World} (h₀ : I s a w)
    (round : ∀ s a w, I s a w → c.wp P (Exit.then (fun a' w' => ∃ s', r s' s ∧ I s' a' w') Q) a w) : (Code.loop c).wp P Q a w := by
  intro b k cs
  have key : ∀ s a w, I s a w → ∃ e a' w', Q e a' w' ∧ Arrives P (lone (b.at a (.code c :: .inLoop c :: k)) cs w) b k cs e a' w' := by
    intro s
    induction s using wf.induction with
    | _ s ih =>
      intro a w hI
      obtain ⟨e, a₁, w₁, hq, harr⟩ := round s a w hI b (.inLoop c :: k) cs
      cases e with
      | normal =>
        obtain ⟨s', hlt, hI₁⟩ := hq
        obtain ⟨e₂, a₂, w₂, hq₂, harr₂⟩ := ih s' hlt a₁ w₁ hI₁
        exact ⟨e₂, a₂, w₂, hq₂, .of_steps (Steps.trans harr (.one step_inLoop)) harr₂⟩
      | exit id => exact ⟨_, a₁, w₁, hq, .pass (x := .inLoop c) rfl (fun _ _ => .inl (by simp)) harr⟩
      | goto l => exact ⟨_, a₁, w₁, hq, .pass (x := .inLoop c) rfl (fun _ _ => .inl (by simp)) harr⟩
      | ret => exact ⟨_, a₁, w₁, hq, .pass (x := .inLoop c) rfl (fun _ _ => .inl (by simp)) harr⟩
      | panic ch => exact ⟨_, a₁, w₁, hq, .pass (x := .inLoop c) rfl (fun _ _ => .inl (by simp)) harr⟩
      | outgrown => exact ⟨_, a₁, w₁, hq, .pass (x := .inLoop c) rfl (fun _ _ => .inl (by simp)) harr⟩
  obtain ⟨e, a', w', hq, harr⟩ := key _ a w h₀
  exact ⟨e, a', w', hq, .of_steps (.one step_loop) harr⟩

theorem nodupB_spec : ∀ {l : List Nat}, nodupB l = true → l.Nodup := by
  intro l
  induction l with
  | nil => intro _; exact List.nodup_nil
  | cons i r ih =>
    intro h
    simp only [nodupB, Bool.and_eq_true, Bool.not_eq_true'] at h
    rw [List.nodup_cons]
    exact ⟨fun hm => by rw [has_iff.2 hm] at h; exact absurd h.1 (by simp), ih h.2⟩

theorem dstsOK_spec {n : Nat} : ∀ {l : List Oper}, dstsOK n l = true → ∀ o ∈ l, ∀ d, o.dst = some d → d < n := by
  intro l
  induction l with
  | nil => intro _ o h; cases h
  | cons x r ih =>
    intro h o ho d hd
    simp only [dstsOK, Bool.and_eq_true] at h
    simp only [List.mem_cons] at ho
    rcases ho with rfl | ho
    · rw [hd] at h
      simpa [Nat.blt_eq] using h.1
    · exact ih h.2 o ho d hd

theorem isRange_spec : ∀ {l : List Nat} {i : Nat}, isRange i l = true → l = List.range' i l.length := by
  intro l
  induction l with
  | nil => intro i _; rfl
  | cons j r ih =>
    intro i h
    simp only [isRange, Bool.and_eq_true] at h
    have hj : i = j := Nat.eq_of_beq_eq_true h.1
    subst hj
    rw [List.length_cons, List.range'_succ, ← ih h.2]

theorem decK_spec {k : SK} {v : Value} {K : k.ty → Prop} (h : decK k v K) : ∃ x, v = encK k x ∧ K x := by
  cases k with
  | int k =>
    unfold decK at h
    dsimp only at h
    split at h
    · rename_i k' x
      cases hk : sameK k k' with
      | false => rw [hk] at h; exact h.elim
      | true => rw [hk] at h; exact ⟨x, by rw [sameK_spec hk], h⟩
    · exact h.elim
  | bool =>
    unfold decK at h
    dsimp only at h
    split at h
    · exact ⟨_, rfl, h⟩
    · exact h.elim
  | val => exact ⟨v, rfl, h⟩

theorem decL_spec {fr : Fr} : ∀ {L : List (Nat × SK)} {K : SKs L → Prop}, decL fr L K → ∃ s, Fr.le (encL L s) fr ∧ K s := by
  intro L
  induction L with
  | nil => intro K h; exact ⟨(), fun t v h => by simp [encL, Fr.get] at h, h⟩
  | cons p r ih =>
    intro K h
    simp only [decL] at h
    obtain ⟨v, hv, h⟩ := on_spec h
    obtain ⟨x, e, h⟩ := decK_spec h
    obtain ⟨s, hs, h⟩ := ih h
    refine ⟨(x, s), fun t u hu => ?_, h⟩
    simp only [encL] at hu
    by_cases e2 : p.1 = t
    · subst e2; rw [get_cons_self] at hu; rw [hv, e]; exact hu
    · rw [get_cons_ne e2] at hu; exact hs t u hu

theorem allL_spec : ∀ {L : List (Nat × SK)} {P : SKs L → Prop}, allL L P → ∀ s, P s := by
  intro L
  induction L with
  | nil => intro P h s; exact h
  | cons p r ih => intro P h s; exact ih (h s.1) s.2

theorem Rel.le {n : Nat} {ds : List Deferred} {h0 : H} {w0 : World} {W : List Nat} {a0 : Act} {fr fr' : Fr} {h : H} {a : Act} {w : World} (r : Rel n ds h0 w0 W a0 fr h a w) (hl : Fr.le fr' fr) : Rel n ds h0 w0 W a0 fr' h a w :=
  ⟨r.fr.le hl, r.sub, r.same, r.size, r.defers, r.keep⟩

theorem dstsOf_mem : ∀ {l : List Oper} {o : Oper} {d : Nat}, o ∈ l → o.dst = some d → d ∈ dstsOf l := by
  intro l
  induction l with
  | nil => intro o d h; cases h
  | cons x r ih =>
    intro o d ho hd
    simp only [List.mem_cons] at ho
    simp only [dstsOf]
    rcases ho with rfl | ho
    · rw [hd]; simp
    · cases x.dst with
      | none => exact ih ho hd
      | some e => exact List.mem_cons_of_mem _ (ih ho hd)

theorem drop_ok {W : List Nat} {a a1 : Act} (hk : ∀ t, has t W = false → a.tmps[t]? = a1.tmps[t]?) : ∀ {fr : Fr}, (∀ t v, Fr.get fr t = some v → a1.tmps[t]? = some v) → FrOK (Fr.drop W fr) a := by
  intro fr hf t v hv
  have key : ∀ (fr : Fr), Fr.get (Fr.drop W fr) t = some v → has t W = false ∧ Fr.get fr t = some v := by
    intro fr
    induction fr with
    | nil => intro h; simp [Fr.drop, Fr.get] at h
    | cons p r ih =>
      obtain ⟨s, u⟩ := p
      intro h
      simp only [Fr.drop] at h
      by_cases e : s = t
      · subst e
        cases hs : has s W with
        | true =>
          rw [hs, cond_true] at h
          have := (ih h).1
          rw [hs] at this; cases this
        | false =>
          rw [hs, cond_false, get_cons_self] at h
          exact ⟨rfl, by rw [get_cons_self]; exact h⟩
      · cases hs : has s W with
        | true => rw [hs, cond_true] at h; rw [get_cons_ne e]; exact ih h
        | false => rw [hs, cond_false, get_cons_ne e] at h; rw [get_cons_ne e]; exact ih h
  obtain ⟨h1, h2⟩ := key fr hv
  rw [hk t h1]
  exact hf t v h2

theorem get_append {x y : Fr} {t : Nat} {v : Value} (h : Fr.get (x ++ y) t = some v) : Fr.get x t = some v ∨ Fr.get y t = some v := by
  induction x with
  | nil => exact .inr h
  | cons p r ih =>
    obtain ⟨s, u⟩ := p
    rw [List.cons_append] at h
    by_cases e : s = t
    · subst e; rw [get_cons_self] at h ⊢; exact .inl h
    · rw [get_cons_ne e] at h ⊢; exact ih h

theorem FrOK.append {x y : Fr} {a : Act} (hx : FrOK x a) (hy : FrOK y a) : FrOK (x ++ y) a := fun t v h => (get_append h).elim (hx t v) (hy t v)

/-- Behind a piece of code that writes W1 alone. -/
theorem Rel.behind {n : Nat} {ds : List Deferred} {h0 : H} {w0 : World} {W W1 : List Nat} {a0 a1 : Act} {fr fr' x : Fr} {h h' : H} {a : Act} {w' w1 : World} (r1 : Rel n ds h0 w0 W a0 fr h a1 w1) (r : Rel n ds h0 w0 W1 a1 fr' h' a w')
    (hW : ∀ t, has t W1 = true → has t W = true) (hx : Fr.le x fr') : Rel n ds h0 w0 W a0 (x ++ Fr.drop W1 fr) h' a w' :=
  ⟨(r.fr.le hx).append (drop_ok r.keep r1.fr), r.sub, r.same, r.size, r.defers, fun t ht => by
    have h1 : has t W1 = false := by
      cases e : has t W1 with
      | false => rfl
      | true => rw [hW t e] at ht; cases ht
    rw [r.keep t h1, r1.keep t ht]⟩

theorem Rel.back {n : Nat} {ds : List Deferred} {h0 : H} {w0 : World} {W W1 : List Nat} {a0 a1 : Act} {fr fr' : Fr} {h h' : H} {a : Act} {w' w1 : World} (r1 : Rel n ds h0 w0 W a0 fr h a1 w1) (r : Rel n ds h0 w0 W1 a1 fr' h' a w')
    (hW : ∀ t, has t W1 = true → has t W = true) : Rel n ds h0 w0 W a0 fr' h' a w' :=
  ⟨r.fr, r.sub, r.same, r.size, r.defers, fun t ht => by
    have h1 : has t W1 = false := by
      cases e : has t W1 with
      | false => rfl
      | true => rw [hW t e] at ht; cases ht
    rw [r.keep t h1, r1.keep t ht]⟩

theorem region_sound {P : Program} {n : Nat} {ra : RA} {id : Nat} {ops : Array Oper} {draw : Bool} {fr : Fr} {h : H} {K : Fr → H → Prop} {X : Value → H → Prop}
    (hok : regOK P ops.toList ra draw n = true) (hr : rpt P ops.toList ra.pd [] ra.order fr h K X) {ds : List Deferred} {h0 : H} {w0 : World} {W : List Nat} {a0 : Act} (hW : ∀ t ∈ dstsOf ops.toList, has t W = true) {a : Act} {w : World} (rel : Rel n ds h0 w0 W a0 fr h a w) {Q : Exit → Act → World → Prop}
    (hX : ∀ v h' a' w', X v h' → Rel n ds h0 w0 W a0 [] h' a' w' → Q (.panic [⟨v, false, false⟩]) a' w')
    (hN : ∀ fr' h' a' w', K fr' h' → Rel n ds h0 w0 W a0 fr' h' a' w' → Q .normal a' w') : (Code.region id ops draw).wp P Q a w := by
  have hr' : rpt P ops.toList ra.pd [] ra.order fr h (fun f h => ∃ f', Fr.le f' f ∧ K f' h) (fun v h => ∃ h1, Ext h1 h ∧ X v h1) :=
    rpt_monoX _ rel.sub.fin (fun v h hx => ⟨h, Ext.refl h, hx⟩) (rpt_gen _ rel.sub.fin (fun f f' h _ hl hk => ⟨f, hl, hk⟩) (fun _ p => p) (Fr.le.refl _) hr)
  have hUX : UpX (fun v h => ∃ h1, Ext h1 h ∧ X v h1) := fun v h h' he ⟨h1, e1, hx⟩ => ⟨h1, fun b o hb => he b o (e1 b o hb), hx⟩
  have hX : ∀ v h' a' w', (∃ h1, Ext h1 h' ∧ X v h1) → Rel n ds h0 w0 W a0 [] h' a' w' → Q (.panic [⟨v, false, false⟩]) a' w' := fun v h' a' w' ⟨h1, he, hx⟩ r =>
    hX v h1 a' w' hx ⟨FrOK.nil a', he.sub r.sub, ⟨r.same.same, r.same.size, fun b hb hn => by
      obtain ⟨e2, n2⟩ := r.same.frame b hb hn
      refine ⟨e2, ?_⟩
      cases e3 : h1 b with
      | none => rfl
      | some o => rw [he b o e3] at n2; cases n2⟩, r.size, r.defers, r.keep⟩
  have hK : UpK (fun f h => ∃ f', Fr.le f' f ∧ K f' h) := fun f f' h _ hl ⟨g, hg, hk⟩ => ⟨g, hg.trans hl, hk⟩
  have hN' : ∀ fr' h' a' w', (∃ f', Fr.le f' fr' ∧ K f' h') → Rel n ds h0 w0 W a0 fr' h' a' w' → Q .normal a' w' := fun fr' h' a' w' ⟨g, hg, hk⟩ rel => hN g h' a' w' hk (rel.le hg)
  unfold regOK at hok
  simp only [Bool.and_eq_true] at hok
  obtain ⟨⟨hd, hlen⟩, hok⟩ := hok
  have hd : ∀ o ∈ ops.toList, ∀ d, o.dst = some d → d < n ∧ has d W = true := fun o ho d hdd => ⟨dstsOK_spec hd o ho d hdd, hW d (dstsOf_mem ho hdd)⟩
  have hlen : ra.order.length = ops.size := by have := Nat.eq_of_beq_eq_true hlen; simpa using this
  cases draw with
  | false =>
    rw [cond_false] at hok
    have ho := isRange_spec hok
    rw [hlen, ← List.range_eq_range'] at ho
    rw [ho] at hr'
    exact wp_region (list_sound hK hd hX hN' _ _ _ _ _ _ hr' rel)
  | true =>
    rw [cond_true] at hok
    simp only [Bool.and_eq_true] at hok
    obtain ⟨⟨⟨hperm, hedge⟩, hmix⟩, hpairs⟩ := hok
    unfold permOK at hperm
    simp only [Bool.and_eq_true] at hperm
    obtain ⟨⟨hnd, hlt⟩, hin⟩ := hperm
    refine wp_region_any hmix ?_
    refine any_sound hK hUX hd hX hN' hedge ops.size _ ra.order (by omega) (nodupB_spec hnd) (fun i => ?_) (by simp) hpairs (fun j hj hjn => ?_) [] fr h a _ hr' ⟨rel.fr, rel.sub, ⟨rel.same.same, rel.same.size, rel.same.frame⟩, rel.size, rel.defers, rel.keep⟩
    · constructor
      · intro hi
        have := List.all_eq_true.1 hlt i hi
        have hi2 : i < ops.size := by simpa [Nat.blt_eq] using this
        exact ⟨hi2, by simp [hi2]⟩
      · rintro ⟨hi, _⟩
        exact has_iff.1 (List.all_eq_true.1 hin i (List.mem_range.2 (by simpa using hi)))
    · exact absurd (has_iff.1 (List.all_eq_true.1 hin j (List.mem_range.2 (by simpa using hj)))) hjn

theorem cpt_sound {P : Program} {n : Nat} {A : An} : ∀ (c : Code) (fr : Fr) (h : H) (Q' : Ex → Fr → H → Prop), cpt P n A c fr h Q' →
    ∀ (ds : List Deferred) (h0 : H) (w0 : World) (W : List Nat) (a0 : Act) (a : Act) (w : World) (Q : Exit → Act → World → Prop), (∀ t ∈ writesOf c, has t W = true) → Rel n ds h0 w0 W a0 fr h a w →
      (∀ e fr' h' a' w', Q' e fr' h' → Rel n ds h0 w0 W a0 fr' h' a' w' → Q (cex e) a' w') → c.wp P Q a w := by
  intro c
  induction c with
  | skip => intro fr h Q' hc ds h0 w0 W a0 a w Q hW rel hQ; exact wp_skip (hQ _ _ _ _ _ hc rel)
  | label l => intro fr h Q' hc ds h0 w0 W a0 a w Q hW rel hQ; exact wp_label (hQ _ _ _ _ _ hc rel)
  | exit id => intro fr h Q' hc ds h0 w0 W a0 a w Q hW rel hQ; exact wp_exit (hQ (.exit id) _ _ _ _ hc rel)
  | ret => intro fr h Q' hc ds h0 w0 W a0 a w Q hW rel hQ; exact wp_ret (hQ .ret _ _ _ _ hc rel)
  | goto l => intro fr h Q' hc; exact hc.elim
  | refuse why => intro fr h Q' hc; exact hc.elim
  | rangeFunc f ps x b _ _ => intro fr h Q' hc; exact hc.elim
  | region id ops draw =>
    intro fr h Q' hc ds h0 w0 W a0 a w Q hW rel hQ
    simp only [cpt] at hc
    cases hok : regOK P ops.toList (A.ra id) draw n with
    | false => rw [hok] at hc; exact hc.elim
    | true =>
      rw [hok, cond_true] at hc
      refine region_sound hok hc hW rel (fun v h' a' w' hx rel' => hQ (.panic v) [] h' a' w' hx rel') (fun fr' h' a' w' hk rel' => hQ .normal _ _ _ _ hk rel')
  | seq x y ihx ihy =>
    intro fr h Q' hc ds h0 w0 W a0 a w Q hW rel hQ
    simp only [cpt] at hc
    have hWx : ∀ t ∈ writesOf x, has t W = true := fun t ht => hW t (by simp [writesOf, ht])
    have hWy : ∀ t ∈ writesOf y, has t W = true := fun t ht => hW t (by simp [writesOf, ht])
    cases hct : A.ct (firstReg y) with
    | none =>
      rw [hct] at hc
      refine wp_seq (ihx _ _ _ hc ds h0 w0 W a0 a w _ hWx rel fun e fr' h' a' w' hq rel' => ?_)
      cases e with
      | normal => exact ihy _ _ _ hq ds h0 w0 W a0 a' w' Q hWy rel' hQ
      | exit id => exact hQ _ _ _ _ _ hq rel'
      | ret => exact hQ _ _ _ _ _ hq rel'
      | panic v => exact hQ _ _ _ _ _ hq rel'
    | some L =>
      rw [hct] at hc
      obtain ⟨J, hx, hy⟩ := hc
      have hW1 : ∀ t, has t (writesOf x) = true → has t W = true := fun t ht => hWx t (has_iff.1 ht)
      refine wp_seq (ihx _ _ _ hx ds h0 w0 (writesOf x) a a w _ (fun t ht => has_iff.2 ht) ⟨rel.fr, rel.sub, rel.same, rel.size, rel.defers, fun _ _ => rfl⟩ fun e fr' h' a' w' hq rel' => ?_)
      cases e with
      | normal =>
        obtain ⟨s, hs, hj⟩ := decL_spec hq
        exact ihy _ _ _ (allL_spec hy s h' hj) ds h0 w0 W a0 a' w' Q hWy (rel.behind rel' hW1 hs) hQ
      | exit id => exact hQ _ _ _ _ _ hq (rel.back rel' hW1)
      | ret => exact hQ _ _ _ _ _ hq (rel.back rel' hW1)
      | panic v => exact hQ _ _ _ _ _ hq (rel.back rel' hW1)
  | cond c x y ihx ihy =>
    intro fr h Q' hc ds h0 w0 W a0 a w Q hW rel hQ
    simp only [cpt] at hc
    obtain ⟨v, hv, hc⟩ := on_spec hc
    obtain ⟨b, e, hc⟩ := boolP_spec hc
    subst e
    refine wp_cond (rel.fr.evalO hv) ?_
    cases b with
    | true => exact ihx _ _ _ hc ds h0 w0 W a0 a w Q (fun t ht => hW t (by simp [writesOf, ht])) rel hQ
    | false => exact ihy _ _ _ hc ds h0 w0 W a0 a w Q (fun t ht => hW t (by simp [writesOf, ht])) rel hQ
  | block id c ih =>
    intro fr h Q' hc ds h0 w0 W a0 a w Q hW rel hQ
    simp only [cpt] at hc
    refine wp_block (ih _ _ _ hc ds h0 w0 W a0 a w _ hW rel fun e fr' h' a' w' hq rel' => ?_)
    cases e with
    | normal => exact hQ _ _ _ _ _ hq rel'
    | exit i =>
      simp only [cex, Exit.inBlock]
      by_cases hi : i = id
      · subst hi
        simp only [beq_self, cond_true] at hq
        rw [if_pos rfl]
        exact hQ .normal _ _ _ _ hq rel'
      · simp only [beq_ne hi, cond_false] at hq
        rw [if_neg hi]
        exact hQ (.exit i) _ _ _ _ hq rel'
    | ret => exact hQ _ _ _ _ _ hq rel'
    | panic v => exact hQ _ _ _ _ _ hq rel'
  | loop c ih =>
    intro fr h Q' hc ds h0 w0 W a0 a w Q hW rel hQ
    simp only [cpt] at hc
    obtain ⟨s0, hs0, I, r, wf, hi0, round⟩ := decL_spec hc
    have hW1 : ∀ t, has t (writesOf c) = true → has t W = true := fun t ht => hW t (has_iff.1 ht)
    refine wp_loop_wf wf (fun s a' w' => I s.1 s.2 ∧ Rel n ds h0 w0 (writesOf c) a (encL _ s.1) s.2 a' w') (s := (s0, h))
      ⟨hi0, rel.fr.le hs0, rel.sub, rel.same, rel.size, rel.defers, fun _ _ => rfl⟩ ?_
    rintro ⟨s1, h1⟩ a1 w1 ⟨hI, rel1⟩
    have hfr1 : FrOK (encL _ s1 ++ Fr.drop (writesOf c) fr) a1 := rel1.fr.append (drop_ok rel1.keep rel.fr)
    refine ih _ _ _ (allL_spec round s1 h1 hI) ds h0 w0 (writesOf c) a a1 w1 _ (fun t ht => has_iff.2 ht) ⟨hfr1, rel1.sub, rel1.same, rel1.size, rel1.defers, rel1.keep⟩ fun e fr' h' a' w' hq rel' => ?_
    cases e with
    | normal =>
      obtain ⟨s', hs', hq1, hq2⟩ := decL_spec hq
      exact ⟨(s', h'), hq2, hq1, rel'.le hs'⟩
    | exit id => exact hQ _ _ _ _ _ hq (rel.back rel' hW1)
    | ret => exact hQ _ _ _ _ _ hq (rel.back rel' hW1)
    | panic v => exact hQ _ _ _ _ _ hq (rel.back rel' hW1)
  | scope c ih =>
    intro fr h Q' hc ds h0 w0 W a0 a w Q hW rel hQ
    refine wp_scope_straight (ih _ _ _ hc ds h0 w0 W a0 a w _ hW rel fun e fr' h' a' w' hq rel' => ?_)
    have := hQ e fr' h' a' w' hq rel'
    cases e <;> exact this

def resF (tmps : Array Value) : ResultVar → Sem Value
  | .tmp t => pure (tmps.getD t undef)
  | .cell a t => do loadVar t (← asAddr (tmps.getD a undef))

theorem resL_run {P : Program} {fr : Fr} {h : H} {a : Act} (hf : FrOK fr a) : ∀ {rs : List ResultVar} {K : List Value → Prop}, resL P fr h rs K →
    ∃ vs, vs.length = rs.length ∧ K vs ∧ ∀ w, Sub h w → (rs.mapM (resF a.tmps)).run P w = .ok vs w := by
  intro rs
  induction rs with
  | nil => intro K hk; exact ⟨[], rfl, hk, fun w _ => rfl⟩
  | cons r rs ih =>
    intro K hk
    cases r with
    | tmp t =>
      simp only [resL] at hk
      obtain ⟨v, hv, hk⟩ := on_spec hk
      obtain ⟨vs, hl, hk, hr⟩ := ih hk
      refine ⟨v :: vs, by simp [hl], hk, fun w hs => ?_⟩
      rw [List.mapM_cons]
      have : a.tmps.getD t undef = v := by simp [hf t v hv]
      simp only [resF, this, pure_bind, Sem.run_bind, hr w hs, Result.andThen_ok, Sem.run_pure]
    | cell x t =>
      simp only [resL] at hk
      obtain ⟨va, hva, hk⟩ := on_spec hk
      have hptr : ∃ p, va = .pointer (some p) := by
        unfold loadP at hk
        obtain ⟨p, e, _⟩ := ptrP_spec hk
        exact ⟨p, e⟩
      obtain ⟨v, hk, hrun⟩ := loadP_run hk
      obtain ⟨vs, hl, hk, hr⟩ := ih hk
      refine ⟨v :: vs, by simp [hl], hk, fun w hs => ?_⟩
      rw [List.mapM_cons]
      obtain ⟨p, rfl⟩ := hptr
      have hget : a.tmps.getD x undef = .pointer (some p) := by simp [hf x _ hva]
      have hrun := hrun w hs
      simp only [Instr.loadAt, Instr.sureAddr, pure_bind] at hrun
      simp only [resF, hget, asAddr, pure_bind, Sem.run_bind, hrun, hr w hs, Result.andThen_ok, Sem.run_pure]

theorem resP_run {P : Program} {fn : Func} {fr : Fr} {h : H} {a : Act} (hf : FrOK fr a) {K : Value → Prop} (hk : resP P fr h fn.results.toList K) :
    ∃ v, K v ∧ ∀ w, Sub h w → (results fn a.tmps).run P w = .ok v w := by
  obtain ⟨vs, hl, hk, hr⟩ := resL_run hf hk
  have hrun : ∀ w, Sub h w → (results fn a.tmps).run P w = .ok (if hz : vs.toArray.size = 1 then vs.toArray[0] else .tuple vs.toArray) w := by
    intro w hs
    have he : results fn a.tmps = (do let vs ← fn.results.mapM (resF a.tmps); pure (if h : vs.size = 1 then vs[0] else .tuple vs)) := by
      unfold results
      congr 2
    rw [he, Array.mapM_eq_mapM_toList]
    simp only [Sem.run_bind, Sem.run_map, hr w hs, Result.andThen_ok]
    rfl
  match vs, hk, hrun with
  | [], hk, hrun => exact ⟨_, hk, fun w hs => by rw [hrun w hs]; rfl⟩
  | [v], hk, hrun => exact ⟨_, hk, fun w hs => by rw [hrun w hs]; rfl⟩
  | v :: u :: r, hk, hrun => exact ⟨_, hk, fun w hs => by rw [hrun w hs]; simp⟩

theorem get_fr0 : ∀ (args : List Value) (i t : Nat) (v : Value), Fr.get (fr0 i args) t = some v → i ≤ t ∧ args[t - i]? = some v := by
  intro args
  induction args with
  | nil => intro i t v h; simp [fr0, Fr.get] at h
  | cons x r ih =>
    intro i t v h
    simp only [fr0] at h
    by_cases e : i = t
    · subst e; rw [get_cons_self] at h; exact ⟨Nat.le_refl _, by simpa using h⟩
    · rw [get_cons_ne e] at h
      obtain ⟨h1, h2⟩ := ih (i + 1) t v h
      refine ⟨by omega, ?_⟩
      rw [show t - i = (t - (i + 1)) + 1 by omega, List.getElem?_cons_succ]
      exact h2

theorem T_intro {P : Program} {f : FuncId} {fn : Func} {c : Code} {args : List Value} {h : H} {R : Res → H → Prop} (A : An) (hf : P.funcs[f]? = some fn) (hb : fn.body = some c)
    (hn : (fn.name == "runtime.NumGoroutine") = false) (hl : Nat.ble args.length fn.ntmps = true) (hc : cpt P fn.ntmps A c (fr0 0 args) h (endP P fn.results.toList R)) : T P f args h R := by
  refine ⟨⟨fn, hf, by rw [hb]; rfl, hn⟩, fun w hw => ?_⟩
  refine calls_of_wp hf hb ?_
  have hl : args.length ≤ fn.ntmps := Nat.le_of_ble_eq_true hl
  refine cpt_sound c _ h _ hc [] h w (writesOf c) _ _ w _ (fun t ht => has_iff.2 ht) ⟨fun t v hv => ?_, hw, Stp.refl h w, ?_, rfl, fun _ _ => rfl⟩ fun e fr' h' a' w' hq rel => ?_
  · obtain ⟨_, h2⟩ := get_fr0 args 0 t v hv
    simp only [Nat.sub_zero] at h2
    have hlt := (List.getElem?_eq_some_iff.1 h2).1
    show (args.toArray ++ Array.replicate (fn.ntmps - args.toArray.size) undef)[t]? = some v
    rw [Array.getElem?_append_left (by simpa using hlt)]
    simpa using h2
  · simp; omega
  · cases e with
    | normal =>
      obtain ⟨v, hk, hr⟩ := resP_run rel.fr hq
      exact ⟨rel.defers, v, hr w' rel.sub, h', rel.sub, rel.same, hk⟩
    | ret =>
      obtain ⟨v, hk, hr⟩ := resP_run rel.fr hq
      exact ⟨rel.defers, v, hr w' rel.sub, h', rel.sub, rel.same, hk⟩
    | panic v => exact ⟨rel.defers, h', rel.sub, rel.same, hq⟩
    | exit id => exact hq.elim

def bodyOf (f : Func) : Code := match f.body with
  | some c => c
  | none => .skip

theorem cast_of {A B : Prop} (e : A = B) (h : B) : A := e ▸ h

def rng (n : Nat) : RA := ⟨List.range n, fun _ => []⟩
def lkN : List (Nat × List Nat) → Nat → List Nat
  | [], _ => []
  | p :: r, i => bif Nat.beq p.1 i then p.2 else lkN r i
def lkA : List (Nat × RA) → Nat → RA
  | [], _ => ⟨[], fun _ => []⟩
  | p :: r, i => bif Nat.beq p.1 i then p.2 else lkA r i
def lkL : List (Nat × List (Nat × SK)) → Nat → List (Nat × SK)
  | [], _ => []
  | p :: r, i => bif Nat.beq p.1 i then p.2 else lkL r i
def lkC : List (Nat × List (Nat × SK)) → Nat → Option (List (Nat × SK))
  | [], _ => none
  | p :: r, i => bif Nat.beq p.1 i then some p.2 else lkC r i

/-- The head of a block. -/
@[reducible] def bk (b : Nat) : Addr := ⟨b, 0, none⟩

def rt (A X : Value → H → Prop) (r : Res) (h : H) : Prop := match r with
  | .ret v => A v h
  | .pan v => X v h
def sameAt (n : Nat) (a : Addr) (h h' : H) : Prop := ∀ i, i < n → hcell h' (a.add i) = hcell h (a.add i)
@[reducible] def ptI (cs : List Value) (off : Nat) (k : IntKind) (K : Int → Prop) : Prop := ∃ n, cs[off]? = some (.int k n) ∧ K n
@[reducible] def ptB (cs : List Value) (off : Nat) (K : Bool → Prop) : Prop := ∃ n, cs[off]? = some (.bool n) ∧ K n
@[reducible] def ptV (cs : List Value) (off : Nat) (K : Value → Prop) : Prop := ∃ n, cs[off]? = some n ∧ K n
@[reducible] def mkS (l c : Int) (bytes : Nat) (z : List Value) (e : TypeId) (h : H) (K : Nat → H → Prop) : Prop :=
  0 ≤ l ∧ l ≤ c ∧ c * bytes ≤ 2 ^ 48 ∧ c ≤ 2 ^ 48 ∧ newP h (.cells ⟨zrep z c.toNat⟩ e (0, 0)) K
@[reducible] def apP (s x : Value) (h : H) (size : Nat) (e : TypeId) (bytes : Nat) (z : List Value) (K : Value → H → Prop) : Prop :=
  slcP s fun base sl sc => slcP x fun xa n _ => ∃ new, srcP h xa (n * size) new ∧ appP h base sl sc n size e bytes z new K

end Go.Proofs.YtjlojokockfapaaGreatDoor

