/- Texts put together: DenA, DenB, DenC, DenD, DenE. -/
import GoSem.Dispatch
import GoSem.Core.Code
import GoSem.Core.Layout
import Derived.WalkKit

/- DEN, part A: abstract values, slots, the small heap, and what the operations do to them: a deterministic reading of the loaded code on pure values. Nothing is proved here. -/
namespace Go.Den

/-- Abstract values. 'undef': anything at all. 'rop': a pointer to memory that never changes again, with the cells that stand from there on. 'sh': a slice of such memory (cells an element; the elements). 'ptr', 'sl': into an object of the small heap (its number, its version, ..). -/
inductive AV where
  | undef
  | bool (b : Bool)
  | int (k : IntKind) (n : Int)
  | str (s : List UInt8)
  | nilp
  | ptr (id ver i off : Nat)
  | rop (cells : List AV)
  | nils
  | sh (sz : Nat) (elems : List AV)
  | sl (id ver off n cap : Nat)
  | nilf
  | fn (f : Fn) (first captured : List AV)
  | nili
  | iface (t : TypeId) (v : AV)
  | agg (cells : List AV)
  | tup (vs : List AV)
  | nilm
  | mp (id : Nat)
  | it (id : Nat)
  deriving Inhabited

def AV.cells : AV → List AV
  | .agg cs => cs
  | v => [v]

/-- May it stand in one cell of memory? -/
def AV.one : AV → Bool
  | .agg _ | .tup _ | .undef => false
  | _ => true

/-- May it be stored (cell by cell)? -/
def AV.isDef : AV → Bool
  | .undef | .tup _ => false
  | _ => true

/-- Numbers, bools, texts, nils. -/
def AV.flat0 : AV → Bool
  | .bool _ | .int _ _ | .str _ | .nilp | .nils | .nilf | .nili | .nilm | .undef => true
  | _ => false
/-- Numbers, bools, texts, and rows of them: nothing that leads to memory. -/
def AV.flat : AV → Bool
  | .tup vs | .agg vs => vs.all AV.flat0
  | v => v.flat0

/-- A value of one cell that never changes, whatever happens. -/
def AV.leaf : AV → Bool
  | .bool _ | .int _ _ | .str _ | .nilp | .nils | .nilf | .nili | .nilm | .rop _ | .sh _ _ => true
  | _ => false
def AV.imm1 : AV → Bool
  | .agg cs => cs.all AV.leaf
  | .tup cs => cs.all AV.leaf
  | .fn _ a b => a.all AV.leaf && b.all AV.leaf
  | v => v.leaf
/-- A value that never changes, whatever happens. -/
def AV.imm : AV → Bool
  | .tup cs => cs.all AV.imm1
  | v => v.imm1

/-- An object of the small heap. -/
inductive HObj where
  | row (ver : Nat) (sz : Nat) (ty : TypeId) (elems : List AV)
  | iter (s : List UInt8) (pos : Nat)
  | map (kt et : TypeId) (entries : List (AV × AV))
  | dead
  deriving Inhabited

abbrev Heap := List HObj

/-- What a slot holds: a value; a pointer into a variable of the frame's own; nothing that may be read. -/
inductive SV where
  | val (v : AV)
  | lp (site off : Nat)
  | no
  deriving Inhabited

inductive Tr (α : Type) where
  | lf
  | nd (l : Tr α) (v : α) (r : Tr α)

namespace Tr
variable {α : Type}
def full (z : α) : Nat → Tr α
  | 0 => .lf
  | d + 1 => .nd (full z d) z (full z d)
def get (z : α) : Tr α → Nat → α
  | .lf, _ => z
  | .nd l v r, n => bif Nat.beq n 0 then v else bif Nat.beq (n % 2) 1 then get z l (n / 2) else get z r (n / 2 - 1)
def set : Tr α → Nat → α → Tr α
  | .lf, _, _ => .lf
  | .nd l v r, n, x => bif Nat.beq n 0 then .nd l x r else bif Nat.beq (n % 2) 1 then .nd (set l (n / 2) x) v r else .nd l v (set r (n / 2 - 1) x)
def mk (z : α) (d : Nat) (l : List (Nat × α)) : Tr α := l.foldl (fun t p => t.set p.1 p.2) (full z d)
end Tr

/-- A frame: its slots; its own variables (by the place that lays them); how many slots. -/
structure St where
  slots : Tr SV
  L : Tr (Option (List AV))
  N : Nat

inductive AExit where
  | normal
  | exit (id : Nat)
  | ret

/-- Which slots and variables are kept: slots with values; slots with pointers into variables of the frame's own (slot, place, cell); those variables. -/
structure LK where
  d : Nat
  vals : List Nat
  lps : List (Nat × Nat × Nat)
  vars : List Nat

/-- What is kept: the values, the variables' cells. -/
structure Live where
  vs : List AV
  cs : List (List AV)

/-- A remark on each piece of code. -/
inductive Ann where
  | nil
  | two (a b : Ann)
  | one (a : Ann)
  | keep (k : LK) (outs : List AExit) (a : Ann)      -- kept where the piece is left, by one of these ways
  | lp (k : LK) (a : Ann)        -- kept at a loop's head

/-- Of a region whose order is open: what stands before each operation (bits); of each reading that some loud operation may overtake: from which version of the heap to which it must tell the same. -/
structure DInfo where
  before : List Nat
  wins : List (Nat × Nat × Nat)

/-- How a function is read: as its text stands; as a whole; as a whole, on values that do not change. -/
inductive Pol where
  | plain
  | prim (F : List AV → Heap → Option (AV × Heap))
  | still (F : List AV → Option AV)

structure FAnn where
  ann : Ann := .nil
  depth : Nat := 6
  sites : List (Nat × Nat × Nat) := []          -- region, operation: the place
  draws : List (Nat × DInfo) := []

structure Env where
  P : Program
  pol : FuncId → Pol
  ann : FuncId → FAnn
  glob : Nat → Option (List AV)

def St.get (st : St) (t : Nat) : SV := st.slots.get .no t
def St.put (st : St) (t : Nat) (x : SV) : St := { st with slots := st.slots.set t x }
def St.var (st : St) (s : Nat) : Option (List AV) := st.L.get none s
def St.setVar (st : St) (s : Nat) (cs : List AV) : St := { st with L := st.L.set s (some cs) }

def SV.kept (L : Tr (Option (List AV))) (x : SV) : SV :=
  match x with
  | .lp s off => match L.get none s with
    | some _ => .lp s off
    | none => .no
  | x => x

def valOf : SV → AV
  | .val v => v
  | _ => .undef

def lpsOk (st : St) : List (Nat × Nat × Nat) → Bool
  | [] => true
  | (t, s, o) :: r => (match st.get t with | .lp s' o' => Nat.beq s s' && Nat.beq o o' | _ => false) && lpsOk st r

def varsOf (st : St) : List Nat → Option (List (List AV))
  | [] => some []
  | s :: r => match st.var s with
    | some cs => match varsOf st r with
      | some l => some (cs :: l)
      | none => none
    | none => none

def St.live (st : St) (k : LK) : Option Live :=
  bif lpsOk st k.lps then (match varsOf st k.vars with | some cs => some ⟨k.vals.map fun i => valOf (st.get i), cs⟩ | none => none) else none

def zipVals (vs : List AV) : List Nat → Nat → List (Nat × SV)
  | [], _ => []
  | i :: r, j => (i, .val (vs.getD j .undef)) :: zipVals vs r (j + 1)

def zipVars (cs : List (List AV)) : List Nat → Nat → List (Nat × Option (List AV))
  | [], _ => []
  | i :: r, j => (i, some (cs.getD j [])) :: zipVars cs r (j + 1)

def LK.L (k : LK) (l : Live) : Tr (Option (List AV)) := Tr.mk none k.d (zipVars l.cs k.vars 0)

def St.ofLive (k : LK) (N : Nat) (l : Live) : St :=
  { slots := Tr.mk .no k.d (zipVals l.vs k.vals 0 ++ k.lps.map fun p => (p.1, (SV.lp p.2.1 p.2.2).kept (k.L l))), L := k.L l, N }

/-! ### values of the text -/
def ofConst : Nat → Value → Option AV
  | 0, _ => none
  | n + 1, v => match v with
    | .bool b => some (.bool b)
    | .int k i => some (.int k i)
    | .string s => some (.str s.data.toList)
    | .pointer none => some .nilp
    | .slice none 0 0 => some .nils
    | .map none => some .nilm
    | .nilFunc => some .nilf
    | .nilIface => some .nili
    | .agg cs => match cs.toList.mapM (ofConst n) with
      | some vs => bif vs.all AV.one then some (.agg vs) else none
      | none => none
    | _ => none

def Env.zero (E : Env) (t : TypeId) : Option AV := ((E.P.info? t).bind (·.zero)).bind (ofConst 3)
def Env.size (E : Env) (t : TypeId) : Option Nat := (E.P.info? t).map (·.size)
def Env.bytes (E : Env) (t : TypeId) : Option Nat := (E.P.info? t).map (·.bytes)
def Env.elem (E : Env) (t : TypeId) : Option TypeId := match E.P.underlying t with | some (.slice e) => some e | _ => none
def Env.isAgg (E : Env) (t : TypeId) : Option Bool := (E.P.underlying t).map fun | .struct _ | .array _ _ => true | _ => false
def Env.fieldOf (E : Env) (s : TypeId) (i : Nat) : Option Field := match E.P.underlying s with | some (.struct fs) => fs[i]? | _ => none

def St.eval (E : Env) (st : St) : Operand → Option AV
  | .tmp t => match st.get t with | .val v => some v | _ => none
  | .const v => ofConst 3 v
  | .func f => some (.fn (.func f) [] [])
  | .global g => (E.glob g).map .rop

/-! ### what the operations do -/
namespace A

def ofList (agg : Bool) (size : Nat) (cs : List AV) (off : Nat) : Option AV :=
  bif agg then (if off + size ≤ cs.length then some (.agg ((cs.drop off).take size)) else none) else cs[off]?

def splice (cs : List AV) (off : Nat) (vs : List AV) : List AV := cs.take off ++ vs ++ cs.drop (off + vs.length)

def fits (size : Nat) (v : AV) : Bool := v.cells.length == size && v.cells.all AV.one

def asB : AV → Option Bool
  | .bool b => some b
  | _ => none

/-- A guard's value: of a guard that was not asked itself, what is not wanted. -/
def asG (want : Bool) : AV → Option Bool
  | .bool b => some b
  | .tup [] => some (!want)
  | _ => none

def test {R : Type} (v : AV) (t e : Option R) : Option R :=
  match v with
  | .bool b => bif b then t else e
  | _ => none

def pick (c a b : AV) : Option AV :=
  match c with
  | .bool x => some (bif x then a else b)
  | _ => none

/-- Is it alive in the small heap, with this version? -/
def alive (H : Heap) (id ver : Nat) : Bool :=
  match H[id]? with
  | some (.row v _ _ _) => v == ver
  | _ => false

/-- The same, of elements of so many cells. -/
def aliveZ (H : Heap) (id ver sz : Nat) : Bool :=
  match H[id]? with
  | some (.row v z _ _) => v == ver && z == sz
  | _ => false

def elemAt (H : Heap) (id ver i : Nat) : Option AV :=
  match H[id]? with
  | some (.row v _ _ es) => bif v == ver then es[i]? else none
  | _ => none

def load (agg : Bool) (size : Nat) (p : AV) (H : Heap) : Option AV :=
  match p with
  | .rop cs => ofList agg size cs 0
  | .ptr id ver i off => (elemAt H id ver i).bind fun e => ofList agg size e.cells off
  | _ => none

def setElem (e : AV) (off : Nat) (v : AV) : Option AV :=
  match e with
  | .agg cs => if off + v.cells.length ≤ cs.length then some (.agg (splice cs off v.cells)) else none
  | .undef | .tup _ => none
  | _ => match v with
    | .agg _ => none
    | _ => if off = 0 then some v else none

def store (size : Nat) (p v : AV) (H : Heap) : Option Heap :=
  match p with
  | .ptr id ver i off =>
    bif fits size v then
      match H[id]? with
      | some (.row w sz ty es) =>
        bif w == ver then (es[i]?).bind fun e => (setElem e off v).map fun e' => H.set id (.row w sz ty (es.set i e')) else none
      | _ => none
    else none
  | _ => none

def fa (off : Nat) (p : AV) (H : Heap) : Option AV :=
  match p with
  | .rop cs => some (.rop (cs.drop off))
  | .ptr id ver i o => bif alive H id ver then some (.ptr id ver i (o + off)) else none
  | _ => none

def nilCheck (p : AV) (H : Heap) : Option AV :=
  match p with
  | .rop cs => some (.rop cs)
  | .ptr id ver i o => bif alive H id ver then some (.ptr id ver i o) else none
  | .fn (.func f) a b => some (.fn (.func f) a b)
  | _ => none

def idx (sz : Nat) (s i : AV) (H : Heap) : Option AV :=
  match s, i with
  | .sh z es, .int _ i => if 0 ≤ i ∧ i < es.length ∧ z = sz then (es[i.toNat]?).map fun e => .rop e.cells else none
  | .sl id ver off n _, .int _ i => if 0 ≤ i ∧ i < n ∧ aliveZ H id ver sz = true then some (.ptr id ver (off + i.toNat) 0) else none
  | _, _ => none

/-- An array's element, by the array's address. -/
def idxArr (sz len : Nat) (p i : AV) (H : Heap) : Option AV :=
  match i with
  | .int _ i => if 0 ≤ i ∧ i < len then fa (i.toNat * sz) p H else none
  | _ => none

def index (s i : AV) : Option AV :=
  match s, i with
  | .str l, .int _ i => if 0 ≤ i then (l[i.toNat]?).map fun b => .int .u8 b.toNat else none
  | _, _ => none

def indexArr (agg : Bool) (sz len : Nat) (a i : AV) : Option AV :=
  match a, i with
  | .agg cs, .int _ i => if 0 ≤ i ∧ i < len then ofList agg sz cs (i.toNat * sz) else none
  | _, _ => none

def field (agg : Bool) (sz off : Nat) (a : AV) : Option AV :=
  match a with
  | .agg cs => ofList agg sz cs off
  | _ => none

def len (v : AV) (H : Heap) : Option AV :=
  match v with
  | .nils => some (.int .i64 0)
  | .sh _ es => some (.int .i64 es.length)
  | .sl id ver _ n _ => bif alive H id ver then some (.int .i64 n) else none
  | _ => none

def lenStr (v : AV) : Option AV :=
  match v with
  | .str l => some (.int .i64 l.length)
  | _ => none

def lenMap (v : AV) (H : Heap) : Option AV :=
  match v with
  | .nilm => some (.int .i64 0)
  | .mp id => match H[id]? with
    | some (.map _ _ es) => some (.int .i64 es.length)
    | _ => none
  | _ => none

def bits (op : BinOp) (k : IntKind) (x y : Int) : Option Int :=
  let a := BitVec.ofInt k.bits x
  let b := BitVec.ofInt k.bits y
  match op with
  | .and => some (k.wrap (a &&& b).toNat)
  | .or => some (k.wrap (a ||| b).toNat)
  | .xor => some (k.wrap (a ^^^ b).toNat)
  | .andNot => some (k.wrap (a &&& ~~~b).toNat)
  | _ => none

def binInt (op : BinOp) (k : IntKind) (x y : Int) : Option AV :=
  match op with
  | .add => some (.int k (k.wrap (x + y)))
  | .sub => some (.int k (k.wrap (x - y)))
  | .mul => some (.int k (k.wrap (x * y)))
  | .quo => if y = 0 then none else some (.int k (k.wrap (x.tdiv y)))
  | .rem => if y = 0 then none else some (.int k (x.tmod y))
  | .and | .or | .xor | .andNot => (bits op k x y).map (.int k)
  | .eql => some (.bool (x == y))
  | .neq => some (.bool (x != y))
  | .lss => some (.bool (x < y))
  | .leq => some (.bool (x ≤ y))
  | .gtr => some (.bool (x > y))
  | .geq => some (.bool (x ≥ y))
  | .shl => if y < 0 then none else some (.int k (k.wrap (x * 2 ^ min y.toNat k.bits)))
  | .shr => if y < 0 then none else some (.int k (x.fdiv (2 ^ min y.toNat k.bits)))

def binStr (op : BinOp) (x y : List UInt8) : Option AV :=
  match op with
  | .add => if x.length + y.length ≤ 140737488355328 then some (.str (x ++ y)) else none
  | .eql => some (.bool (x == y))
  | .neq => some (.bool !(x == y))
  | .lss => some (.bool (Op.bytesLess x y))
  | .leq => some (.bool (Op.bytesLess x y || x == y))
  | .gtr => some (.bool !(Op.bytesLess x y || x == y))
  | .geq => some (.bool !(Op.bytesLess x y))
  | _ => none

/-- Is x the nil of y's kind? -/
def eqNil (d : Option TypeDesc) (x y : AV) (yconst : Bool) : Option Bool :=
  match d with
  | some (.pointer _) => match y with
    | .nilp => match x with | .nilp => some true | .rop _ => some false | _ => none
    | _ => none
  | some (.slice _) => match y with
    | .nils => match x with | .nils => some true | .sh .. => some false | _ => none
    | _ => none
  | some (.func _ _ _) => match y with
    | .nilf => match x with | .nilf => some true | .fn .. => some false | _ => none
    | _ => none
  | some (.map _ _) => match y with
    | .nilm => match x with | .nilm => some true | _ => none
    | _ => none
  | some (.interface _) => bif yconst then match y with
    | .nili => match x with | .nili => some true | .iface .. => some false | _ => none
    | _ => none else none
  | _ => none

/-- A pointer, a slice, a map of the small heap is none of the nils. -/
def eqNilH (d : Option TypeDesc) (x y : AV) (H : Heap) : Option Bool :=
  match d with
  | some (.pointer _) => match y with
    | .nilp => match x with | .ptr id ver _ _ => bif alive H id ver then some false else none | _ => none
    | _ => none
  | some (.slice _) => match y with
    | .nils => match x with | .sl id ver _ _ _ => bif alive H id ver then some false else none | _ => none
    | _ => none
  | some (.map _ _) => match y with
    | .nilm => match x with | .mp id => (match H[id]? with | some (.map _ _ _) => some false | _ => none) | _ => none
    | _ => none
  | _ => none

/-- '==' of a pointer with itself. -/
def eqPtr (P : Program) (d : Option TypeDesc) (x y : AV) (H : Heap) : Option Bool :=
  match d with
  | some (.pointer e) => match x with
    | .ptr id ver i off => match y with
      | .ptr id' ver' i' off' => bif alive H id ver && (P.info? e).isSome && Nat.beq id id' && Nat.beq ver ver' && Nat.beq i i' && Nat.beq off off' then some true else none
      | _ => none
    | _ => none
  | _ => none

/-- '==' of two of one plain kind. -/
def eqFlat (d : Option TypeDesc) (x y : AV) : Option Bool :=
  match d, x, y with
  | some (.int _), .int k a, .int k' b => bif decide (k = k') then some (a == b) else none
  | some .string, .str a, .str b => some (a == b)
  | some .bool, .bool a, .bool b => some (a == b)
  | _, _, _ => none

/-- '==' of structs of plain fields. -/
def eqFields (P : Program) : List Field → List AV → List AV → Option Bool
  | [], _, _ => some true
  | f :: fs, xs, ys => bif f.name == "_" then eqFields P fs xs ys else
    match xs[f.offset]?, ys[f.offset]? with
    | some x, some y => match eqFlat (P.underlying f.type) x y with
      | some true => eqFields P fs xs ys
      | some false => some false
      | none => none
    | _, _ => none

def bin (P : Program) (op : BinOp) (t : TypeId) (x y : AV) (yconst : Bool) (H : Heap) : Option AV :=
  match x, y with
  | .int k a, .int k' b =>
    match op with
    | .shl | .shr => binInt op k a b
    | _ => bif decide (k = k') then binInt op k a b else none
  | .str a, .str b => binStr op a b
  | .bool a, .bool b => match P.underlying t with
    | some .bool => match op with
      | .eql => some (.bool (a == b))
      | .neq => some (.bool !(a == b))
      | _ => none
    | _ => none
  | .agg xs, .agg ys => match P.underlying t with
    | some (.struct fs) => bif P.stoodInHeld t || P.eqGuardType P.depth t then none else match op with
      | .eql => (eqFields P fs.toList xs ys).map .bool
      | .neq => (eqFields P fs.toList xs ys).map fun b => .bool !b
      | _ => none
    | _ => none
  | x, y => match op with
    | .eql => match eqNil (P.underlying t) x y yconst with
      | some b => some (.bool b)
      | none => ((eqNilH (P.underlying t) x y H).or (eqPtr P (P.underlying t) x y H)).map .bool
    | .neq => match eqNil (P.underlying t) x y yconst with
      | some b => some (.bool !b)
      | none => ((eqNilH (P.underlying t) x y H).or (eqPtr P (P.underlying t) x y H)).map fun b => .bool !b
    | _ => none

def un (op : UnOp) (x : AV) : Option AV :=
  match op, x with
  | .neg, .int k n => some (.int k (k.wrap (0 - n)))
  | .xor, .int k n => (bits .xor k (if k.signed then -1 else k.max) n).map (.int k)
  | .not, .bool b => some (.bool !b)
  | _, _ => none

def maxv (x y : AV) : Option AV :=
  match x, y with
  | .int k a, .int k' b => bif decide (k = k') then some (.int k (if b > a then b else a)) else none
  | _, _ => none
def minv (x y : AV) : Option AV :=
  match x, y with
  | .int k a, .int k' b => bif decide (k = k') then some (.int k (if b < a then b else a)) else none
  | _, _ => none

def bound (i : Option AV) (d : Nat) : Option Nat :=
  match i with
  | none => some d
  | some (.int _ i) => if 0 ≤ i then some i.toNat else none
  | _ => none

/-- s[lo:hi], of a text -/
def sliceStr (x : AV) (lo hi : Option AV) : Option AV :=
  match x with
  | .str l => (bound lo 0).bind fun a => (bound hi l.length).bind fun b => if a ≤ b ∧ b ≤ l.length then some (.str ((l.drop a).take (b - a))) else none
  | _ => none

/-- x[lo:hi], x[lo:hi:max] -/
def slice (sz : Nat) (x : AV) (lo hi mx : Option AV) (H : Heap) : Option AV :=
  match x with
  | .nils => (bound lo 0).bind fun a => (bound hi 0).bind fun b => (bound mx 0).bind fun c => if a = 0 ∧ b = 0 ∧ c = 0 then some .nils else none
  | .sh z es => (bound lo 0).bind fun a => (bound hi es.length).bind fun b => (bound mx es.length).bind fun c =>
    if a ≤ b ∧ b ≤ c ∧ c ≤ es.length ∧ z = sz then some (.sh z ((es.drop a).take (b - a))) else none
  | .sl id ver off n cap => (bound lo 0).bind fun a => (bound hi n).bind fun b => (bound mx cap).bind fun c =>
    if a ≤ b ∧ b ≤ c ∧ c ≤ cap ∧ aliveZ H id ver sz = true then some (.sl id ver (off + a) (b - a) (c - a)) else none
  | _ => none

/-- What a slice's elements are just now. -/
def read (sz : Nat) (v : AV) (H : Heap) : Option (List AV) :=
  match v with
  | .nils => some []
  | .sh z es => if z = sz then some es else none
  | .sl id ver off n _ =>
    match H[id]? with
    | some (.row w z _ es) => if w = ver ∧ z = sz ∧ off + n ≤ es.length then some ((es.drop off).take n) else none
    | _ => none
  | _ => none

/-- Elements that are bytes. -/
def bytes8 : List AV → Option (List UInt8)
  | [] => some []
  | .int .u8 n :: r => bif decide (0 ≤ n) && decide (n < 256) then (match bytes8 r with | some l => some (n.toNat.toUInt8 :: l) | none => none) else none
  | _ :: _ => none

def runes32 : List AV → Option (List Int)
  | [] => some []
  | .int .i32 n :: r => (match runes32 r with | some l => some (n :: l) | none => none)
  | _ :: _ => none

/-- Is it a slice? -/
def isSl (d : AV) (H : Heap) : Bool :=
  match d with
  | .nils => true
  | .sl id ver _ _ _ => alive H id ver
  | _ => false

/-- Where a slice's elements begin. -/
def sliceData (s : AV) (H : Heap) : Option AV :=
  match s with
  | .nils => some .nilp
  | .sl id ver off n _ => bif alive H id ver && decide (0 < n) then some (.ptr id ver off 0) else none
  | _ => none

/-- A text made of a row's bytes: the row is written no more. -/
def unsafeStr (e : TypeId) (p n : AV) (H : Heap) : Option (AV × Heap) :=
  match n with
  | .int .i64 m => bif decide (m = 0) then (match p with | .nilp => some (.str [], H) | _ => none) else
    match p with
    | .ptr id ver i 0 => match H[id]? with
      | some (.row w sz ty es) => bif Nat.beq w ver && Nat.beq sz 1 && Nat.beq ty e && decide (0 < m) && decide (m ≤ 9223372036854775807) && decide (i + m.toNat ≤ es.length) then
        (match bytes8 ((es.drop i).take m.toNat) with | some l => some (.str l, H.set id .dead) | none => none) else none
      | _ => none
    | _ => none
  | _ => none

def strElems (l : List UInt8) : List AV := l.map fun b => .int .u8 b.toNat

def newRow (sz : Nat) (ty : TypeId) (es : List AV) (H : Heap) : AV × Heap :=
  (.sl H.length 0 0 es.length es.length, H ++ [.row 0 sz ty es])

/-- append(s, news...): bytes: of an element -/
def append (sz bytes : Nat) (ty : TypeId) (s : AV) (news : List AV) (H : Heap) : Option (AV × Heap) :=
  match s with
  | .nils => match news with
    | [] => some (.nils, H)
    | _ => if news.length * bytes ≤ 140737488355328 ∧ 0 < bytes then some (newRow sz ty news H) else none
  | .sl id ver off n cap =>
    match H[id]? with
    | some (.row w z t es) =>
      if w = ver ∧ z = sz ∧ t = ty ∧ off + n ≤ es.length ∧ n ≤ cap ∧ (n + news.length) * bytes ≤ 140737488355328 ∧ 0 < bytes then
        if n + news.length ≤ cap then
          some (.sl id ver off (n + news.length) cap, H.set id (.row w z t (splice es (off + n) news)))
        else
          some (.sl id (ver + 1) 0 (n + news.length) (n + news.length), H.set id (.row (ver + 1) z t ((es.drop off).take n ++ news)))
      else none
    | _ => none
  | _ => none

def clear (sz : Nat) (zero : AV) (d : AV) (H : Heap) : Option (AV × Heap) :=
  match d with
  | .nils => some (.tup [], H)
  | .sh _ [] => some (.tup [], H)
  | .sl id ver off n _ =>
    if n = 0 then (bif alive H id ver then some (.tup [], H) else none) else
    match H[id]? with
    | some (.row w z t es) =>
      if w = ver ∧ z = sz ∧ off + n ≤ es.length then
        some (.tup [], H.set id (.row w z t (splice es off (List.replicate n zero))))
      else none
    | _ => none
  | _ => none

def makeSlice (sz bytes : Nat) (ty : TypeId) (zero : AV) (l c : AV) (H : Heap) : Option (AV × Heap) :=
  match l, c with
  | .int .i64 l, .int .i64 c => if 0 ≤ l ∧ l ≤ c ∧ bytes * c ≤ 281474976710656 ∧ 0 < bytes then
      some (.sl H.length 0 0 l.toNat c.toNat, H ++ [.row 0 sz ty (List.replicate c.toNat zero)]) else none
  | _, _ => none

def newBox (sz : Nat) (ty : TypeId) (v : AV) (H : Heap) : AV × Heap :=
  (.ptr H.length 0 0 0, H ++ [.row 0 sz ty [v]])

/-- A struct or an array out of its parts, laid over zero cells: place and size of each. -/
def fill : List AV → List (Nat × Nat × AV) → Option (List AV)
  | cs, [] => some cs
  | cs, (off, size, v) :: rest => if v.cells.length = size ∧ off + size ≤ cs.length ∧ v.isDef = true then fill (splice cs off v.cells) rest else none

/-- A slice's elements out of parts. -/
def fillElems (sz : Nat) : List AV → List (Nat × Nat × AV) → Option (List AV)
  | es, [] => some es
  | es, (i, _, v) :: rest => if v.cells.length = sz ∧ i < es.length ∧ v.isDef = true then fillElems sz (es.set i v) rest else none

/-- The small heap's values become values of memory that does not change ('false': no memory may be in it that was there before). -/
def freezeB (b : Bool) : Nat → Heap → AV → Option AV
  | 0, _, _ => none
  | n + 1, H, v => match v with
    | .ptr id ver i off => match H[id]? with
      | some (.row w _ _ es) => bif w == ver then (es[i]?).bind fun e => ((e.cells.drop off).mapM (freezeB b n H)).map .rop else none
      | _ => none
    | .sl id ver off m _ => match H[id]? with
      | some (.row w z _ es) => if w = ver ∧ off + m ≤ es.length then (((es.drop off).take m).mapM fun (e : AV) => match e with
          | AV.agg cs => (cs.mapM (freezeB b n H)).map AV.agg
          | e => freezeB b n H e).map (.sh z) else none
      | _ => none
    | .agg cs => (cs.mapM (freezeB b n H)).map .agg
    | .tup cs => (cs.mapM (freezeB b n H)).map .tup
    | .fn f a c => (a.mapM (freezeB b n H)).bind fun a' => (c.mapM (freezeB b n H)).map fun c' => .fn f a' c'
    | .iface t x => (freezeB b n H x).map (.iface t)
    | .rop cs => bif b then some (.rop cs) else none
    | .sh z es => bif b then some (.sh z es) else none
    | .mp _ | .it _ | .undef => none
    | v => some v

end A

/-! ### are two values the same, sign by sign? -/
mutual
def AV.beq : AV → AV → Bool
  | .undef, .undef | .nilp, .nilp | .nils, .nils | .nilf, .nilf | .nili, .nili | .nilm, .nilm => true
  | .bool a, .bool b => a == b
  | .int k a, .int j b => decide (k = j) && decide (a = b)
  | .str a, .str b => decide (a = b)
  | .ptr a b c d, .ptr a' b' c' d' => decide (a = a') && decide (b = b') && decide (c = c') && decide (d = d')
  | .sl a b c d e, .sl a' b' c' d' e' => decide (a = a') && decide (b = b') && decide (c = c') && decide (d = d') && decide (e = e')
  | .rop a, .rop b => AV.beqs a b
  | .sh x a, .sh y b => decide (x = y) && AV.beqs a b
  | .agg a, .agg b => AV.beqs a b
  | .tup a, .tup b => AV.beqs a b
  | .fn f a b, .fn g c d => decide (f = g) && AV.beqs a c && AV.beqs b d
  | .iface t a, .iface u b => decide (t = u) && AV.beq a b
  | .mp a, .mp b => decide (a = b)
  | .it a, .it b => decide (a = b)
  | _, _ => false
def AV.beqs : List AV → List AV → Bool
  | [], [] => true
  | a :: x, b :: y => AV.beq a b && AV.beqs x y
  | _, _ => false
end

def A.loadIs (agg : Bool) (size : Nat) (p : AV) (v : AV) (H : Heap) : Bool :=
  match A.load agg size p H with
  | some w => AV.beq v w
  | none => false

end Go.Den

/- DEN, part B: the deterministic reading of the loaded code: operations, regions, control, calls. Nothing is proved here. -/
namespace Go.Den

/-- A call: the function, its arguments, the small heap, and what goes on with the result. -/
abbrev CallFn := (R : Type) → FuncId → List AV → Heap → (AV → Heap → Option R) → Option R

def withV {R : Type} (x : Option AV) (k : AV → Option R) : Option R :=
  match x with
  | some v => k v
  | none => none

def evals (E : Env) (st : St) : List Operand → Option (List AV)
  | [] => some []
  | x :: xs => match st.eval E x with
    | some v => match evals E st xs with
      | some vs => some (v :: vs)
      | none => none
    | none => none

def parts (E : Env) (st : St) (place : Nat → Option (Nat × Nat)) : List (Nat × Operand) → Option (List (Nat × Nat × AV))
  | [] => some []
  | (i, x) :: ps => match place i, st.eval E x with
    | some (off, sz), some v => match parts E st place ps with
      | some r => some ((off, sz, v) :: r)
      | none => none
    | _, _ => none

def fieldPlaces (E : Env) : List Field → Option (List (Nat × Nat))
  | [] => some []
  | f :: fs => match E.size f.type with
    | some s => match fieldPlaces E fs with
      | some r => some ((f.offset, s) :: r)
      | none => none
    | none => none

/-- Where the parts of a struct, of an array, lie, and their sizes. -/
def places (E : Env) (t : TypeId) : Option (Nat → Option (Nat × Nat)) :=
  match E.P.underlying t with
  | some (.struct fs) => match fieldPlaces E fs.toList with
    | some l => some fun i => l[i]?
    | none => none
  | some (.array _ e) => match E.size e with
    | some s => some fun i => some (i * s, s)
    | none => none
  | _ => none

/-- Where a field lies that is not empty. -/
def Env.fieldOff (E : Env) (t : TypeId) (i : Nat) : Option Nat :=
  match E.fieldOf t i with
  | some f => match E.size f.type with
    | some (_ + 1) => some f.offset
    | _ => none
  | none => none

def zeroCellsOf (E : Env) (t : TypeId) : Option (List AV) :=
  match E.zero t with
  | some z => bif z.isDef then some z.cells else none
  | none => none

/-- Values as memory that does not change. -/
def freezeAll (H : Heap) : List AV → Option (List AV)
  | [] => some []
  | v :: vs => match A.freezeB true 64 H v with
    | some x => match freezeAll H vs with
      | some r => some (x :: r)
      | none => none
    | none => none

/-- The objects that a value leads to. -/
def reach : Nat → Heap → AV → List Nat
  | 0, _, _ => []
  | n + 1, H, v => match v with
    | .ptr id _ _ _ | .sl id _ _ _ _ => id :: (match H[id]? with
      | some (.row _ _ _ es) => es.flatMap fun e => e.cells.flatMap (reach n H)
      | _ => [])
    | .agg cs | .tup cs => cs.flatMap (reach n H)
    | .fn _ a b => a.flatMap (reach n H) ++ b.flatMap (reach n H)
    | .iface _ x => reach n H x
    | _ => []

def kill (ids : List Nat) (H : Heap) : Heap := ids.foldl (fun H i => H.set i .dead) H

/-- A function on values that do not change, where it is called: what was handed in out of the small heap is no more to be used, if the result may lead to it. -/
def pureF (F : List AV → Option AV) (args : List AV) (H : Heap) : Option (AV × Heap) :=
  match freezeAll H args with
  | some as => match F as with
    | some v => some (v, bif v.flat then H else kill (args.flatMap (reach 64 H)) H)
    | none => none
  | none => none

def callK (E : Env) (cf : CallFn) {R : Type} (f : FuncId) (args : List AV) (H : Heap) (k : AV → Heap → Option R) : Option R :=
  match E.pol f with
  | .plain => cf R f args H k
  | .prim F => match F args H with
    | some p => k p.1 p.2
    | none => none
  | .still F => match pureF F args H with
    | some p => k p.1 p.2
    | none => none

/-- A call that asks for nothing of the small heap and leaves it alone. -/
def callQ (E : Env) {R : Type} (f : FuncId) (args : List AV) (H : Heap) (k : AV → Heap → Option R) : Option R :=
  match E.pol f with
  | .still F => bif args.all AV.imm then match F args with
    | some v => k v H
    | none => none
    else none
  | _ => none

/-- A call of a function value. -/
def callV (E : Env) (cf : CallFn) {R : Type} (f : AV) (args : List AV) (H : Heap) (k : AV → Heap → Option R) : Option R :=
  match f with
  | .fn (.func g) first captured => callK E cf g (first ++ args ++ captured) H k
  | _ => none

def newsOf (E : Env) (sz : Nat) (tx : TypeId) (x : AV) (H : Heap) : Option (List AV) :=
  match E.P.underlying tx with
  | some .string => match x with
    | .str l => bif decide (sz = 1) then some (A.strElems l) else none
    | _ => none
  | some (.slice _) => A.read sz x H
  | _ => none

def builtinK (E : Env) {R : Type} (b : Builtin) (ts : List TypeId) (args : List AV) (H : Heap) (k : AV → Heap → Option R) : Option R :=
  match b, ts, args with
  | .len, [t], [x] => match E.P.underlying t with
    | some .string => withV (A.lenStr x) fun v => k v H
    | some (.slice _) => withV (A.len x H) fun v => k v H
    | _ => none
  | .max, _, x :: xs => withV (xs.foldlM A.maxv x) fun v => k v H
  | .min, _, x :: xs => withV (xs.foldlM A.minv x) fun v => k v H
  | .append, [t, tx], [s, x] => match E.elem t with
    | some e => match E.size e, E.bytes e, E.zero e with
      | some sz, some by_, some z => bif decide (z.cells.length = sz) && decide (0 < sz) then
        match newsOf E sz tx x H with
        | some news => match A.append sz by_ e s news H with
          | some (v, H') => k v H'
          | none => none
        | none => none
        else none
      | _, _, _ => none
    | none => none
  | .clear, [t], [d] => match E.elem t with
    | some e => match E.size e, E.zero e with
      | some sz, some z => bif decide (z.cells.length = sz) then match A.clear sz z d H with
        | some (v, H') => k v H'
        | none => none
        else none
      | _, _ => none
    | none => none
  | .copy, [t, tx], [d, x] => match E.elem t with
    | some e => match E.size e with
      | some sz => match newsOf E sz tx x H with
        | some [] => bif A.isSl d H then k (.int .i64 0) H else none
        | _ => none
      | none => none
    | none => none
  | .cap, [t], [.nils] => match E.P.underlying t with
    | some (.slice _) => k (.int .i64 0) H
    | _ => none
  | .unsafeSliceData, [_], [s] => withV (A.sliceData s H) fun v => k v H
  | .unsafeString, [pt, _], [p, n] => match E.P.underlying pt with
    | some (.pointer e) => bif Nat.beq (E.P.cellsOf e) 1 then match A.unsafeStr e p n H with
      | some (v, H') => k v H'
      | none => none
      else none
    | _ => none
  | _, _, _ => none

/-- Conversions. -/
def convert (E : Env) (src dst : TypeId) (x : AV) : Option AV :=
  match E.P.underlying src, E.P.underlying dst, x with
  | some _, some (.int k), .int _ n => some (.int k (k.wrap n))
  | some _, some .string, .str l => some (.str l)
  | some _, some .string, .int _ n => some (.str (Utf8.encode n).data.toList)
  | _, _, _ => none

/-- Pointers to and from unsafe.Pointer; bytes and signs to a text. -/
def convH (E : Env) (src dst : TypeId) (x : AV) (H : Heap) : Option AV :=
  match E.P.underlying src, E.P.underlying dst with
  | some (.pointer t), some .unsafePointer => match x with
    | .ptr id ver i off => match H[id]?, E.P.info? t with
      | some (.row w sz _ es), some info => bif Nat.beq w ver && decide (info.size ≠ 0) && decide (i < es.length) && decide (off < sz) then some (.ptr id ver i off) else none
      | _, _ => none
    | _ => none
  | some .unsafePointer, some (.pointer t) => match x with
    | .ptr id ver i 0 => match H[id]?, E.P.info? t with
      | some (.row w sz ty es), some info => bif Nat.beq w ver && Nat.beq ty t && decide (i < es.length) && Nat.beq sz (E.P.cellsOf t) && Nat.beq info.size sz then some (.ptr id ver i 0) else none
      | _, _ => none
    | _ => none
  | some (.slice e), some .string => match E.P.underlying e with
    | some (.int .u8) => match A.read 1 x H with
      | some es => (A.bytes8 es).map .str
      | none => none
    | some (.int .i32) => match A.read 1 x H with
      | some es => (A.runes32 es).map fun ns => .str (ns.flatMap fun n => (Utf8.encode n).data.toList)
      | none => none
    | _ => none
  | _, _ => none

/-- A text as a new slice of bytes. -/
def convN (E : Env) (src dst : TypeId) (x : AV) (H : Heap) : Option (AV × Heap) :=
  match E.P.underlying src, E.P.underlying dst with
  | some .string, some (.slice e) => match E.P.underlying e with
    | some (.int .u8) => match x with
      | .str l => bif decide (l.length ≤ 140737488355328) then some (A.newRow 1 e (A.strElems l) H) else none
      | _ => none
    | _ => none
  | _, _ => none

/-- Conversions that read or make memory. -/
def convertK (E : Env) {R : Type} (src dst : TypeId) (x : AV) (H : Heap) (k : AV → Heap → Option R) : Option R :=
  match convert E src dst x with
  | some v => k v H
  | none => match convH E src dst x H with
    | some v => k v H
    | none => match convN E src dst x H with
      | some p => k p.1 p.2
      | none => none

/-- A variable of the frame's own is laid: none may stand at its place. -/
def layK {R : Type} (s : Nat) (cs : List AV) (st : St) (H : Heap) (k : SV → St → Heap → Option R) : Option R :=
  match st.var s with
  | none => match (st.setVar s cs).var s with
    | some _ => k (.lp s 0) (st.setVar s cs) H
    | none => none
  | some _ => none

/-- One operation. 'site': this operation lays a variable of the frame's own, at that place; is a call that leaves the small heap alone. -/
def opK (E : Env) (cf : CallFn) {R : Type} (site : Option Nat) (o : Oper) (st : St) (H : Heap) (k : SV → St → Heap → Option R) : Option R :=
  let v (x : Option AV) : Option R := withV x fun v => k (.val v) st H
  match o.op with
  | .move x | .assign x => match x with
    | .tmp t => match st.get t with
      | .val w => k (.val w) st H
      | .lp s off => k (.lp s off) st H
      | .no => none
    | x => v (st.eval E x)
  | .pick c a b => match st.eval E c, st.eval E a, st.eval E b with
    | some c, some a, some b => v (A.pick c a b)
    | _, _, _ => none
  | .alloc t => match E.zero t, E.size t with
    | some z, some sz => match site with
      | some s => bif z.cells.length == sz && decide (0 < sz) then layK s z.cells st H k else none
      | none => bif z.cells.length == sz && decide (0 < sz) then (let r := A.newBox sz t z H; k (.val r.1) st r.2) else none
    | _, _ => none
  | .box t x => match st.eval E x, E.size t with
    | some x, some sz => match site with
      | some s => bif x.cells.length == sz && x.isDef && decide (0 < sz) then layK s x.cells st H k else none
      | none => bif x.cells.length == sz && x.isDef && decide (0 < sz) then (let r := A.newBox sz t x H; k (.val r.1) st r.2) else none
    | _, _ => none
  | .build t ps => match zeroCellsOf E t, places E t with
    | some z, some pl => match parts E st pl ps.toList with
      | some l => v ((A.fill z l).map .agg)
      | none => none
    | _, _ => none
  | .buildSlice t n ps => match E.elem t with
    | some e => match E.size e, E.zero e, parts E st (fun i => some (i, 1)) ps.toList with
      | some sz, some z, some l =>
        bif decide (n * sz ≤ 16777216) && decide (0 < sz) && decide (z.cells.length = sz) then
          match A.fillElems sz (List.replicate n z) l with
          | some es => (let r := A.newRow sz e es H; k (.val r.1) st r.2)
          | none => none
        else none
      | _, _, _ => none
    | none => none
  | .load t p => match E.isAgg t, E.size t with
    | some ag, some sz => match p with
      | .tmp q => match st.get q with
        | .lp s off => match st.var s with
          | some cs => v (A.ofList ag sz cs off)
          | none => none
        | .val p => v (A.load ag sz p H)
        | .no => none
      | p => match st.eval E p with
        | some p => v (A.load ag sz p H)
        | none => none
    | _, _ => none
  | .store t p x => match st.eval E x, E.size t with
    | some x, some sz => match p with
      | .tmp q => match st.get q with
        | .lp s off => match st.var s with
          | some cs => bif A.fits sz x && decide (off + x.cells.length ≤ cs.length) then k (.val .undef) (st.setVar s (A.splice cs off x.cells)) H else none
          | none => none
        | .val p => match A.store sz p x H with
          | some H' => k (.val .undef) st H'
          | none => none
        | .no => none
      | _ => none
    | _, _ => none
  | .nilCheck x => match x with
    | .tmp t => match st.get t with
      | .val w => v (A.nilCheck w H)
      | .lp s off => k (.lp s off) st H
      | .no => none
    | _ => none
  | .binOp op t x y _ => match st.eval E x, st.eval E y with
    | some x', some y' => v (A.bin E.P op t x' y' (match y with | .const _ => true | _ => false) H)
    | _, _ => none
  | .unOp op _ x => match st.eval E x with
    | some x => v (A.un op x)
    | none => none
  | .convert s d x => match st.eval E x with
    | some x => convertK E s d x H fun w H' => k (.val w) st H'
    | none => none
  | .makeInterface t x => match st.eval E x, E.P.underlying t with
    | some x, some d => match d with
      | .interface _ => none
      | _ => k (.val (.iface t x)) st H
    | _, _ => none
  | .makeFunc f first captured => match evals E st first.toList, evals E st captured.toList with
    | some a, some b => k (.val (.fn f a b)) st H
    | _, _ => none
  | .makeSlice t l c => match E.elem t with
    | some e => match E.size e, E.bytes e, E.zero e, st.eval E l, st.eval E c with
      | some sz, some by_, some z, some l, some c => bif z.cells.length == sz && decide (0 < sz) then
          match A.makeSlice sz by_ e z l c H with
          | some (w, H') => k (.val w) st H'
          | none => none
        else none
      | _, _, _, _, _ => none
    | none => none
  | .slice t x lo hi mx => match st.eval E x, evals E st lo.toList, evals E st hi.toList, evals E st mx.toList with
    | some x, some l, some h, some m => match E.P.underlying t with
      | some .string => match m with
        | [] => v (A.sliceStr x l.head? h.head?)
        | _ => none
      | some (.slice e) => match E.size e with
        | some sz => bif (m.isEmpty || !h.isEmpty) then v (A.slice sz x l.head? h.head? m.head? H) else none
        | none => none
      | _ => none
    | _, _, _, _ => none
  | .fieldAddr s x i => match E.fieldOff s i with
    | some fo => match x with
      | .tmp t => match st.get t with
        | .lp s off => k (.lp s (off + fo)) st H
        | .val p => v (A.fa fo p H)
        | .no => none
      | x => match st.eval E x with
        | some p => v (A.fa fo p H)
        | none => none
    | none => none
  | .field t x i => match E.fieldOf t i with
    | some f => match E.isAgg f.type, E.size f.type, st.eval E x with
      | some ag, some sz, some x => v (A.field ag sz f.offset x)
      | _, _, _ => none
    | none => none
  | .indexAddr t x i => match st.eval E i with
    | some i => match E.P.underlying t with
      | some (.slice e) => match E.size e, st.eval E x with
        | some sz, some x => v (A.idx sz x i H)
        | _, _ => none
      | some (.array n e) => match E.size e, x with
        | some sz, .tmp q => match st.get q with
          | .lp s off => match i with
            | .int _ j => if 0 ≤ j ∧ j < n then k (.lp s (off + j.toNat * sz)) st H else none
            | _ => none
          | .val p => v (A.idxArr sz n p i H)
          | .no => none
        | some sz, y => match st.eval E y with
          | some p => v (A.idxArr sz n p i H)
          | none => none
        | none, _ => none
      | _ => none
    | none => none
  | .index t x i => match st.eval E x, st.eval E i with
    | some x, some i => match E.P.underlying t with
      | some .string => v (A.index x i)
      | some (.array n e) => match E.isAgg e, E.size e with
        | some ag, some sz => v (A.indexArr ag sz n x i)
        | _, _ => none
      | _ => none
    | _, _ => none
  | .range t x => match E.P.underlying t, st.eval E x with
    | some .string, some (.str l) => k (.val (.it H.length)) st (H ++ [.iter l 0])
    | _, _ => none
  | .next x true => match st.eval E x with
    | some (.it id) => match H[id]? with
      | some (.iter l pos) =>
        if pos < l.length then
          let d := Utf8.decode ⟨l.toArray⟩ pos
          k (.val (.tup [.bool true, .int .i64 pos, .int .i32 d.1])) st (H.set id (.iter l (pos + d.2)))
        else k (.val (.tup [.bool false])) st H
      | _ => none
    | _ => none
  | .typeAssert x _ t ok => match st.eval E x, E.P.underlying t with
    | some (.iface d w), some u => match u with
      | .interface _ => none
      | _ => bif ok then (if d = t then k (.val (.tup [w, .bool true])) st H else match E.zero t with
          | some z => k (.val (.tup [z, .bool false])) st H
          | none => none)
        else (if d = t then k (.val w) st H else none)
    | _, _ => none
  | .extract x i => match st.eval E x with
    | some (.tup vs) => v vs[i]?
    | _ => none
  | .call c => match evals E st c.args.toList with
    | some args => match c.callee with
      | .value f => match site with
        | none => match st.eval E f with
          | some f => callV E cf f args H fun w H' => k (.val w) st H'
          | none => none
        | some _ => match f with
          | .func g => callQ E g args H fun w H' => k (.val w) st H'
          | _ => none
      | .builtin b => builtinK E b c.argTypes.toList args H fun w H' => k (.val w) st H'
      | .invoke r m => match st.eval E r with
        | some (.iface t x) => match (E.P.info? t).bind fun i => i.methods.find? (·.name == m) with
          | some mt => match mt.func, mt.path.toList with
            | some (f, ptr), [] => match E.P.underlying t with
              | some (.pointer _) => bif ptr then callK E cf f (x :: args) H fun w H' => k (.val w) st H' else none
              | some _ => bif ptr then none else callK E cf f (x :: args) H fun w H' => k (.val w) st H'
              | none => none
            | _, _ => none
          | none => none
        | _ => none
    | none => none
  | _ => none

def keepsL (st : St) (o : Oper) : Bool :=
  match o.op with
  | .store _ (.tmp q) _ => match st.get q with
    | .lp .. => false
    | _ => true
  | _ => true

/-- What a guard asks: the outcome of an earlier operation of the region. -/
def guardOf (ops : Array Oper) (st : St) (j : Nat) (want : Bool) : Option Bool :=
  match (ops[j]?).bind (·.dst) with
  | some d => match st.get d with
    | .val v => A.asG want v
    | _ => none
  | none => none

/-- A guarded operation's value: as it is wanted or not. -/
def guarded (b want : Bool) (H : Heap) (x : Option (AV × Heap)) : Option (AV × Heap) :=
  bif b == want then x else some (.tup [], H)

/-- What a guarded operation does: it may lay or write no variable of the frame's own. -/
def guardedK (E : Env) (cf : CallFn) (o : Oper) (st : St) (H : Heap) : Option (AV × Heap) :=
  bif keepsL st o then opK E cf none o st H fun x _ H' => match x with | .val v => some (v, H') | _ => none else none

def siteOf (sites : List (Nat × Nat × Nat)) (rid i : Nat) : Option Nat :=
  match sites with
  | [] => none
  | (r, j, s) :: rest => bif Nat.beq r rid && Nat.beq j i then some s else siteOf rest rid i

def stPut (st : St) (d : Option Tmp) (x : SV) : St :=
  match d with
  | some t => if t < st.N then st.put t x else st
  | none => st

def opsK (E : Env) (cf : CallFn) (sites : List (Nat × Nat × Nat)) (rid : Nat) (ops : Array Oper) {R : Type} : List Oper → Nat → St → Heap → (St → Heap → Option R) → Option R
  | [], _, st, H, k => k st H
  | o :: rest, i, st, H, k =>
    match o.guard with
    | none => opK E cf (siteOf sites rid i) o st H fun x st' H' => opsK E cf sites rid ops rest (i + 1) (stPut st' o.dst x) H' k
    | some (j, want) =>
      match guardOf ops st j want with
      | some b =>
        match guarded b want H (guardedK E cf o st H) with
        | some p => opsK E cf sites rid ops rest (i + 1) (stPut st o.dst (.val p.1)) p.2 k
        | none => none
      | none => none


end Go.Den

/- DEN, part C: regions of open order, control, calls: the whole reading. Nothing is proved here. -/
namespace Go.Den

/-- What the reading of a region of open order tells of an operation: the frame and the small heap ahead of it, its result, the small heap behind it. -/
structure Rec where
  st : St
  H : Heap
  x : SV
  st1 : St
  H1 : Heap

def winOf (i : Nat) : List (Nat × Nat × Nat) → Option (Nat × Nat)
  | [] => none
  | (j, lo, hi) :: r => bif Nat.beq j i then some (lo, hi) else winOf i r

/-- The variable of the frame's own that an operation touches; does it write it? -/
def touchOf (st : St) (site : Option Nat) (o : Oper) : Option (Nat × Bool) :=
  match o.op with
  | .load _ (.tmp q) => match st.get q with
    | .lp s _ => some (s, false)
    | _ => none
  | .store _ (.tmp q) _ => match st.get q with
    | .lp s _ => some (s, true)
    | _ => none
  | .alloc _ | .box _ _ => site.map fun s => (s, true)
  | _ => none

/-- Only an operation without a guard may lay a variable of the frame's own. -/
def siteAt (sites : List (Nat × Nat × Nat)) (rid i : Nat) (o : Oper) : Option Nat :=
  match o.guard with
  | none => siteOf sites rid i
  | some _ => none

def isLoud (E : Env) (site : Option Nat) (o : Oper) : Bool :=
  match o.op with
  | .store .. | .buildSlice .. | .makeSlice .. | .range .. | .next .. | .mapUpdate .. | .insert .. | .makeMap .. => true
  | .alloc _ | .box .. => site.isNone
  | .convert s d _ => match E.P.underlying s, E.P.underlying d with
    | some (.int _), some (.int _) => false
    | some .string, some .string => false
    | some (.int _), some .string => false
    | _, _ => true
  | .call c => match c.callee with
    | .builtin b => match b with
      | .len | .max | .min => false
      | _ => true
    | .value _ => site.isNone
    | _ => true
  | _ => false

/-- May its result hang on the small heap? -/
def reads (o : Oper) : Bool :=
  match o.op with
  | .load .. | .nilCheck _ | .fieldAddr .. | .indexAddr .. | .slice .. | .binOp .. => true
  | .call c => match c.callee with
    | .builtin _ => true
    | _ => false
  | _ => false

def AV.heapy (v : AV) : Bool := !v.imm

def heapy (st : St) (o : Oper) : Bool :=
  o.op.operands.toList.any fun y => match y with
    | .tmp t => match st.get t with
      | .val v => v.heapy
      | _ => false
    | _ => false

/-- Is it done at all? -/
def acts (ops : Array Oper) (st : St) (o : Oper) : Bool :=
  match o.guard with
  | none => true
  | some (j, want) => match guardOf ops st j want with
    | some b => b == want
    | none => true

def noCalls : CallFn := fun _ _ _ _ _ => none

/-- In this version of the small heap its result is the same. -/
def sameAt (E : Env) (o : Oper) (r : Rec) (G : Heap) : Bool :=
  match opK E noCalls none o r.st G (fun x _ _ => some x) with
  | some (.val w) => match r.x with
    | .val v => AV.beq v w
    | _ => false
  | _ => false

def allOk (ok : Heap → Bool) : Nat → List Heap → Bool
  | 0, _ => true
  | _ + 1, [] => true
  | n + 1, G :: r => ok G && allOk ok n r

def dropK {α : Type} : Nat → List α → List α
  | 0, l => l
  | _ + 1, [] => []
  | n + 1, _ :: l => dropK n l

/-- The versions of the small heap, behind each loud operation. -/
def versOf (E : Env) (sites : List (Nat × Nat × Nat)) (rid : Nat) : List Oper → Nat → List Rec → List Heap
  | o :: os, i, r :: rs => bif isLoud E (siteAt sites rid i o) o then r.H1 :: versOf E sites rid os (i + 1) rs else versOf E sites rid os (i + 1) rs
  | _, _, _ => []

def winsOk (E : Env) (sites : List (Nat × Nat × Nat)) (wins : List (Nat × Nat × Nat)) (rid : Nat) (ops : Array Oper) (vers : List Heap) : List Oper → Nat → List Rec → Bool
  | o :: os, i, r :: rs =>
    (match winOf i wins with
      | some (lo, hi) => bif !isLoud E (siteAt sites rid i o) o && reads o && heapy r.st o && acts ops r.st o then allOk (sameAt E o r) (hi - lo + 1) (dropK lo vers) else true
      | none => true) && winsOk E sites wins rid ops vers os (i + 1) rs
  | _, _, _ => true

/-- The variables that are touched. -/
def touches (sites : List (Nat × Nat × Nat)) (rid : Nat) : List Oper → Nat → List Rec → List (Nat × Nat × Bool)
  | o :: os, i, r :: rs => match touchOf r.st (siteAt sites rid i o) o with
    | some (s, w) => (i, s, w) :: touches sites rid os (i + 1) rs
    | none => touches sites rid os (i + 1) rs
  | _, _, _ => []

def bef (d : DInfo) (i j : Nat) : Bool := Nat.testBit (d.before.getD i 0) j

def touchOk (d : DInfo) (j s : Nat) (w : Bool) : List (Nat × Nat × Bool) → Bool
  | [] => true
  | (i, s', w') :: r => (bif Nat.beq s s' && (w || w') then bef d i j else true) && touchOk d j s w r

/-- Of two that touch the same, one of which writes it, the later one waits for the sooner one. -/
def touchesOk (d : DInfo) : List (Nat × Nat × Bool) → Bool
  | [] => true
  | (j, s, w) :: r => touchOk d j s w r && touchesOk d r

def drawOk (E : Env) (sites : List (Nat × Nat × Nat)) (d : DInfo) (rid : Nat) (ops : Array Oper) (H0 : Heap) (tr : List Rec) : Bool :=
  touchesOk d (touches sites rid ops.toList 0 tr) &&
  (match d.wins with
    | [] => true
    | wins => winsOk E sites wins rid ops (H0 :: versOf E sites rid ops.toList 0 tr) ops.toList 0 tr)

/-- Operations of a region whose order is open, in the text's order, and what makes every other order come to the same. -/
def opsD (E : Env) (cf : CallFn) (sites : List (Nat × Nat × Nat)) (d : DInfo) (rid : Nat) (ops : Array Oper) (H0 : Heap) {R : Type} : List Oper → Nat → List Rec → St → Heap → (St → Heap → Option R) → Option R
  | [], _, tr, st, H, k => bif drawOk E sites d rid ops H0 tr.reverse then k st H else none
  | o :: rest, i, tr, st, H, k =>
    match o.guard with
    | none => opK E cf (siteOf sites rid i) o st H fun x st' H' => opsD E cf sites d rid ops H0 rest (i + 1) (⟨st, H, x, stPut st' o.dst x, H'⟩ :: tr) (stPut st' o.dst x) H' k
    | some (j, want) =>
      match guardOf ops st j want with
      | some b =>
        match guarded b want H (guardedK E cf o st H) with
        | some p => opsD E cf sites d rid ops H0 rest (i + 1) (⟨st, H, .val p.1, stPut st o.dst (.val p.1), p.2⟩ :: tr) (stPut st o.dst (.val p.1)) p.2 k
        | none => none
      | none => none

/-! ### what must stand of such a region's text -/
def countLoud (E : Env) (sites : List (Nat × Nat × Nat)) (rid : Nat) (ops : Array Oper) (p : Nat → Bool) : Nat :=
  ((List.range ops.size).filter fun j => (match ops[j]? with | some o => isLoud E (siteAt sites rid j o) o | none => false) && p j).length

def tmpOf : Operand → Option Tmp
  | .tmp t => some t
  | _ => none

/-- The slots that an operation looks at. -/
def looks (ops : Array Oper) (o : Oper) : List Tmp :=
  o.op.operands.toList.filterMap tmpOf ++ (match o.guard with
    | some (g, _) => match (ops[g]?).bind (·.dst) with
      | some t => [t]
      | none => []
    | none => [])

def slotsApart (x y : Oper) (ops : Array Oper) : Bool :=
  match y.dst with
  | some t => !(looks ops x).contains t
  | none => true

def pairOk (E : Env) (sites : List (Nat × Nat × Nat)) (rid : Nat) (ops : Array Oper) (d : DInfo) (i : Nat) (o : Oper) (j : Nat) : Bool :=
  match ops[j]? with
  | some q =>
    (!bef d i j || o.after.any fun e => Region.binds .any e && decide (e.on < i) && (Nat.beq e.on j || bef d e.on j)) &&
    (!(decide (j < i) && isLoud E (siteAt sites rid i o) o && isLoud E (siteAt sites rid j q) q) || bef d i j) &&
    (Nat.beq i j || slotsApart o q ops || bef d i j || bef d j i) &&
    (Nat.beq i j || o.dst.isNone || o.dst != q.dst)
  | none => true

def opOk (E : Env) (sites : List (Nat × Nat × Nat)) (rid : Nat) (ops : Array Oper) (d : DInfo) (i : Nat) : Bool :=
  match ops[i]? with
  | some o =>
    (List.range ops.size).all (pairOk E sites rid ops d i o) && (o.after.all fun e => !Region.binds .any e || decide (e.on < i)) &&
    (isLoud E (siteAt sites rid i o) o || !reads o ||
      (let lo := countLoud E sites rid ops fun j => bef d i j
       let hi := countLoud E sites rid ops fun j => !bef d j i
       Nat.ble hi lo || (match winOf i d.wins with | some (l, h) => Nat.ble l lo && Nat.ble hi h | none => false)))
  | none => true

def staticOk (E : Env) (sites : List (Nat × Nat × Nat)) (rid : Nat) (ops : Array Oper) (d : DInfo) : Bool :=
  (List.range ops.size).all (opOk E sites rid ops d)

def iter {σ R : Type} (G : σ → Heap → (σ → Heap → Option R) → Option R) : Nat → σ → Heap → Option R
  | 0, _, _ => none
  | m + 1, st, H => G st H (iter G m)

def Ann.strip : Ann → Ann
  | .keep _ _ a => a
  | a => a

def Ann.fst : Ann → Ann
  | .two a _ => a
  | .one a => a
  | _ => .nil

def Ann.snd : Ann → Ann
  | .two _ b => b
  | _ => .nil

def AExit.is : AExit → AExit → Bool
  | .normal, .normal => true
  | .exit i, .exit j => Nat.beq i j
  | .ret, .ret => true
  | _, _ => false

def idxOf (e : AExit) : List AExit → Nat → Option Nat
  | [], _ => none
  | x :: r, i => bif e.is x then some i else idxOf e r (i + 1)

/-- What is kept, behind a piece. -/
def pairL (k : LK) (outs : List AExit) : AExit → St → Heap → Option (Nat × Live × Heap) := fun e st H =>
  match idxOf e outs 0 with
  | some i => match st.live k with
    | some l => some (i, l, H)
    | none => none
  | none => none

def pickK {R : Type} (k : AExit → Option R) (i : Nat) : List AExit → Nat → Option R
  | [], _ => none
  | x :: r, j => bif Nat.beq i j then k x else pickK k i r (j + 1)

def bindX {R : Type} (x : Option (Nat × Live × Heap)) (k : Nat → Live → Heap → Option R) : Option R :=
  match x with
  | some (e, l, H) => k e l H
  | none => none

/-- A piece behind which only what is kept goes on. -/
def bar {R : Type} (an : Ann) (N : Nat) (F : (S : Type) → (AExit → St → Heap → Option S) → Option S) (k : AExit → St → Heap → Option R) : Option R :=
  match an with
  | .keep kp outs _ => bindX (F (Nat × Live × Heap) (pairL kp outs)) fun i l H => pickK (fun e => k e (St.ofLive kp N l) H) i outs 0
  | _ => F R k

/-- Behind a loop's body. -/
def loopK {R : Type} (kh : LK) (rec : Live → Heap → Option R) (k : AExit → St → Heap → Option R) : AExit → St → Heap → Option R := fun e st H =>
  match e with
  | .normal => match st.live kh with
    | some l => rec l H
    | none => none
  | .exit j => k (.exit j) st H
  | .ret => k .ret st H

def loopS {R : Type} (rec : St → Heap → Option R) (k : AExit → St → Heap → Option R) : AExit → St → Heap → Option R := fun e st H =>
  match e with
  | .normal => rec st H
  | .exit j => k (.exit j) st H
  | .ret => k .ret st H

def seqK {R : Type} (next : St → Heap → Option R) (k : AExit → St → Heap → Option R) : AExit → St → Heap → Option R := fun e st H =>
  match e with
  | .normal => next st H
  | .exit id => k (.exit id) st H
  | .ret => k .ret st H

def blockK {R : Type} (id : Nat) (k : AExit → St → Heap → Option R) : AExit → St → Heap → Option R := fun e st H =>
  match e with
  | .normal => k .normal st H
  | .exit j => bif Nat.beq j id then k .normal st H else k (.exit j) st H
  | .ret => k .ret st H

def drawOf (rid : Nat) : List (Nat × DInfo) → Option DInfo
  | [] => none
  | (r, d) :: l => bif Nat.beq r rid then some d else drawOf rid l

def exec (E : Env) (cf : CallFn) (n : Nat) (fa : FAnn) : Code → Ann → (R : Type) → St → Heap → (AExit → St → Heap → Option R) → Option R
  | .skip, _, _, st, H, k => k .normal st H
  | .label _, _, _, st, H, k => k .normal st H
  | .exit id, _, _, st, H, k => k (.exit id) st H
  | .ret, _, _, st, H, k => k .ret st H
  | .region rid ops draw, _, _, st, H, k =>
    bif draw then
      match drawOf rid fa.draws with
      | some d => opsD E cf fa.sites d rid ops H ops.toList 0 [] st H (k .normal)
      | none => none
    else opsK E cf fa.sites rid ops ops.toList 0 st H (k .normal)
  | .seq a b, an, _, st, H, k =>
    bar an st.N (fun S k => exec E cf n fa a an.strip.fst S st H (seqK (fun st H => exec E cf n fa b an.strip.snd S st H k) k)) k
  | .cond c x y, an, _, st, H, k => match st.eval E c with
    | some v => bar an st.N (fun S k => A.test v (exec E cf n fa x an.strip.fst S st H k) (exec E cf n fa y an.strip.snd S st H k)) k
    | none => none
  | .block id c, an, _, st, H, k =>
    bar an st.N (fun S k => exec E cf n fa c an.strip.fst S st H (blockK id k)) k
  | .loop c, an, _, st, H, k => match an.strip with
    | .lp kp a => match st.live kp with
      | some l => bar an st.N (fun S k => iter (fun l H rec => exec E cf n fa c a S (St.ofLive kp st.N l) H (loopK kp rec k)) n l H) k
      | none => none
    | a => bar an st.N (fun S k => iter (fun st H rec => exec E cf n fa c a.fst S st H (loopS rec k)) n st H) k
  | .scope c, an, _, st, H, k => bar an st.N (fun S k => exec E cf n fa c an.strip.fst S st H k) k
  | .rangeFunc .., _, _, _, _, _ => none
  | .goto _, _, _, _, _, _ => none
  | .refuse _, _, _, _, _, _ => none

def resultVar (E : Env) (st : St) (H : Heap) : ResultVar → Option AV
  | .tmp t => match st.get t with
    | .val v => some v
    | _ => none
  | .cell a t => match E.isAgg t, E.size t with
    | some ag, some sz => match st.get a with
      | .lp s off => match st.var s with
        | some cs => A.ofList ag sz cs off
        | none => none
      | .val p => A.load ag sz p H
      | .no => none
    | _, _ => none

def resultVars (E : Env) (st : St) (H : Heap) {R : Type} : List ResultVar → List AV → (List AV → Option R) → Option R
  | [], acc, k => k acc.reverse
  | r :: rs, acc, k => match resultVar E st H r with
    | some v => resultVars E st H rs (v :: acc) k
    | none => none

def oneOrTup : List AV → AV
  | [v] => v
  | vs => .tup vs

def startSlots (d : Nat) : List AV → Nat → Tr SV → Tr SV
  | [], _, t => t
  | v :: vs, i, t => startSlots d vs (i + 1) (t.set i (.val v))

def St.start (d N : Nat) (args : List AV) : St := { slots := startSlots d args 0 (Tr.full .no d), L := Tr.full none d, N := N }

def callF (E : Env) : Nat → CallFn
  | 0 => fun _ _ _ _ _ => none
  | n + 1 => fun _ f args H k =>
    match E.P.funcs[f]? with
    | some fn => match fn.body with
      | some c => if args.length ≤ fn.ntmps then exec E (callF E n) n (E.ann f) c (E.ann f).ann _ (St.start (E.ann f).depth fn.ntmps args) H fun e st H => match e with
        | .exit _ => none
        | _ => resultVars E st H fn.results.toList [] fun vs => k (oneOrTup vs) H
        else none
      | none => none
    | none => none

/-- A call from outside: what it returns. -/
def answer (E : Env) (n : Nat) (f : FuncId) (args : List AV) : Option AV := callF E n AV f args [] fun v _ => some v

end Go.Den

/- DEN, part D: what it means that an abstract value stands for a value of memory; what a step may change. -/
namespace Go.Den
open Go.RowKit

/-! ### slots -/
namespace Tr
variable {α : Type} {z : α}
theorem get_set_ne : ∀ {t : Tr α} {i j : Nat} {x : α}, i ≠ j → get z (set t i x) j = get z t j
  | .lf, _, _, _, _ => rfl
  | .nd l v r, i, j, x, h => by
    unfold set
    by_cases hi : i = 0
    · subst hi
      have hj : Nat.beq j 0 = false := by
        cases hb : Nat.beq j 0
        · rfl
        · exact absurd (Nat.eq_of_beq_eq_true hb).symm h
      have h0 : Nat.beq 0 0 = true := rfl
      simp only [h0, cond_true]
      simp only [get, hj, cond_false]
    · have hi' : Nat.beq i 0 = false := by
        cases hb : Nat.beq i 0
        · rfl
        · exact absurd (Nat.eq_of_beq_eq_true hb) hi
      simp only [hi', cond_false]
      cases hm : Nat.beq (i % 2) 1
      · simp only [cond_false, get]
        cases hj0 : Nat.beq j 0
        · simp only [cond_false]
          cases hj1 : Nat.beq (j % 2) 1
          · simp only [cond_false]
            refine get_set_ne (t := r) ?_
            intro e
            have h1 : i % 2 = 0 := by
              have := Nat.mod_two_eq_zero_or_one i
              rcases this with h | h
              · exact h
              · rw [h] at hm; simp at hm
            have h2 : j % 2 = 0 := by
              have := Nat.mod_two_eq_zero_or_one j
              rcases this with h | h
              · exact h
              · rw [h] at hj1; simp at hj1
            have : j ≠ 0 := by intro e; subst e; simp at hj0
            omega
          · simp only [cond_true]
        · simp only [cond_true]
      · simp only [cond_true, get]
        cases hj0 : Nat.beq j 0
        · simp only [cond_false]
          cases hj1 : Nat.beq (j % 2) 1
          · simp only [cond_false]
          · simp only [cond_true]
            refine get_set_ne (t := l) ?_
            intro e
            have h1 := Nat.eq_of_beq_eq_true hm
            have h2 := Nat.eq_of_beq_eq_true hj1
            omega
        · simp only [cond_true]
theorem get_set_self : ∀ {t : Tr α} {i : Nat} {x : α}, get z (set t i x) i = x ∨ (get z (set t i x) i = z ∧ get z t i = z)
  | .lf, _, _ => .inr ⟨rfl, rfl⟩
  | .nd l v r, i, x => by
    unfold set
    cases hi : Nat.beq i 0
    · simp only [cond_false]
      cases hm : Nat.beq (i % 2) 1
      · simp only [cond_false, get, hi, hm]
        exact get_set_self
      · simp only [cond_true, get, hi, hm, cond_false]
        exact get_set_self
    · simp only [cond_true, get, hi]
      exact .inl trivial
theorem get_full : ∀ (d i : Nat), get z (full z d) i = z
  | 0, _ => rfl
  | d + 1, i => by
    unfold full get
    cases Nat.beq i 0
    · cases Nat.beq (i % 2) 1
      · exact get_full d _
      · exact get_full d _
    · rfl
/-- What a tree that was made out of a list holds. -/
theorem get_mk {d : Nat} (l : List (Nat × α)) (i : Nat) : get z (mk z d l) i = z ∨ (i, get z (mk z d l) i) ∈ l := by
  have key : ∀ (l : List (Nat × α)) (t : Tr α), get z (l.foldl (fun t p => t.set p.1 p.2) t) i = get z t i ∨ get z (l.foldl (fun t p => t.set p.1 p.2) t) i = z ∨ (i, get z (l.foldl (fun t p => t.set p.1 p.2) t) i) ∈ l := by
    intro l
    induction l with
    | nil => exact fun t => .inl rfl
    | cons p l ih =>
      intro t
      rcases ih (t.set p.1 p.2) with h | h | h
      · by_cases e : p.1 = i
        · rcases get_set_self (z := z) (t := t) (i := i) (x := p.2) with h2 | h2
          · refine .inr (.inr ?_)
            simp only [List.foldl_cons]
            rw [h, e, h2, ← e]
            exact List.mem_cons_self
          · refine .inr (.inl ?_)
            simp only [List.foldl_cons]
            rw [h, e, h2.1]
        · refine .inl ?_
          simp only [List.foldl_cons]
          rw [h, get_set_ne e]
      · exact .inr (.inl h)
      · exact .inr (.inr (List.mem_cons_of_mem _ h))
  rcases key l (full z d) with h | h | h
  · exact .inl (h.trans (get_full d i))
  · exact .inl h
  · exact .inr h
end Tr

/-! ### the roles of blocks -/
inductive Role where
  | imm
  | obj (id : Nat)
  | loc (site : Nat)
  | oth

/-- A moment: the world; each block's role; where each object of the small heap lies (its block, its first cell); the small heap. -/
structure Ctx where
  w : World
  κ : Nat → Role
  ρ : Nat → Nat × Nat
  H : Heap

def PtrOk (C : Ctx) (id ver i off : Nat) (u : Value) : Prop :=
  id < C.H.length ∧ ∀ v sz ty es, C.H[id]? = some (.row v sz ty es) → ver ≤ v ∧ (ver = v → u = .pointer (some ⟨(C.ρ id).1, (C.ρ id).2 + (i * sz + off), none⟩))

def SlOk (C : Ctx) (id ver off n cap : Nat) (u : Value) : Prop :=
  id < C.H.length ∧ ∀ v sz ty es, C.H[id]? = some (.row v sz ty es) → ver ≤ v ∧ (ver = v → ∃ a c, u = .slice (some a) n c ∧ n ≤ cap ∧ cap ≤ c ∧ c ≤ maxLen ∧
    (0 < c → a = ⟨(C.ρ id).1, (C.ρ id).2 + off * sz, none⟩) ∧ ∀ cells t fr, C.w.heap[(C.ρ id).1]? = some (.cells cells t fr) → (C.ρ id).2 + (off + c) * sz ≤ cells.size)

def ItOk (C : Ctx) (id : Nat) (u : Value) : Prop :=
  id < C.H.length ∧ ∀ l pos, C.H[id]? = some (.iter l pos) → u = .pointer (some ⟨(C.ρ id).1, 0, none⟩)

def MpOk (C : Ctx) (id : Nat) (u : Value) : Prop :=
  id < C.H.length ∧ ∀ k e es, C.H[id]? = some (.map k e es) → u = .map (some (C.ρ id).1)

mutual
/-- The abstract value stands for the value ('true': it leads to memory alone that never changes). -/
inductive V (C : Ctx) : Bool → AV → Value → Prop
  | undef (u : Value) : V C false .undef u
  | bool (p : Bool) (b : Bool) : V C p (.bool b) (.bool b)
  | int (p : Bool) (k : IntKind) (n : Int) : V C p (.int k n) (.int k n)
  | str (p : Bool) (s : ByteArray) : V C p (.str s.data.toList) (.string s)
  | nilp (p : Bool) : V C p .nilp (.pointer none)
  | nils (p : Bool) : V C p .nils (.slice none 0 0)
  | nilf (p : Bool) : V C p .nilf .nilFunc
  | nili (p : Bool) : V C p .nili .nilIface
  | nilm (p : Bool) : V C p .nilm (.map none)
  | fn (p : Bool) (f : Fn) (a b : List AV) (as bs : Array Value) : Vs C p a as.toList → Vs C p b bs.toList → V C p (.fn f a b) (.func f as bs)
  | iface (p : Bool) (t : TypeId) (v : AV) (u : Value) : V C p v u → V C p (.iface t v) (.iface t u)
  | agg (p : Bool) (cs : List AV) (us : Array Value) : (∀ c ∈ cs, c.one = true) → Vs C p cs us.toList → V C p (.agg cs) (.agg us)
  | tup (p : Bool) (cs : List AV) (us : Array Value) : Vs C p cs us.toList → V C p (.tup cs) (.tuple us)
  | rop (p : Bool) (cs : List AV) (a : Addr) (us : List Value) : (∀ c ∈ cs, c.one = true) → Vs C true cs us → (∀ j u, us[j]? = some u → C.w.cell? (a.add j) = some u) → C.κ a.block = .imm → a.block < C.w.heap.size → V C p (.rop cs) (.pointer (some a))
  | sh (p : Bool) (z : Nat) (es : List AV) (a : Addr) (c : Nat) (us : List Value) : Vs C true (es.flatMap AV.cells) us → (∀ e ∈ es, e.cells.length = z ∧ ∀ c ∈ e.cells, c.one = true) → (∀ j u, us[j]? = some u → C.w.cell? (a.add j) = some u) →
      (es ≠ [] → C.κ a.block = .imm ∧ a.block < C.w.heap.size) → es.length ≤ c → c ≤ maxLen → V C p (.sh z es) (.slice (some a) es.length c)
  | ptr (id ver i off : Nat) (u : Value) : u.oneCell' = true → PtrOk C id ver i off u → V C false (.ptr id ver i off) u
  | sl (id ver off n cap : Nat) (u : Value) : u.oneCell' = true → SlOk C id ver off n cap u → V C false (.sl id ver off n cap) u
  | it (id : Nat) (u : Value) : u.oneCell' = true → ItOk C id u → V C false (.it id) u
  | mp (id : Nat) (u : Value) : u.oneCell' = true → MpOk C id u → V C false (.mp id) u
inductive Vs (C : Ctx) : Bool → List AV → List Value → Prop
  | nil (p : Bool) : Vs C p [] []
  | cons (p : Bool) (v : AV) (u : Value) (vs : List AV) (us : List Value) : V C p v u → Vs C p vs us → Vs C p (v :: vs) (u :: us)
end

/-- A step may do no more than this. -/
structure Ev (C C' : Ctx) : Prop where
  os : C'.w.os = C.w.os
  tape : C'.w.tape = C.w.tape
  output : C'.w.output = C.w.output
  size : C.w.heap.size ≤ C'.w.heap.size
  keep : ∀ b, b < C.w.heap.size → (C.κ b = .imm ∨ C.κ b = .oth) → C'.w.heap[b]? = C.w.heap[b]? ∧ C'.κ b = C.κ b
  hlen : C.H.length ≤ C'.H.length
  rows : ∀ id, id < C.H.length → ∀ v' sz' ty' es', C'.H[id]? = some (.row v' sz' ty' es') → ∃ v es, C.H[id]? = some (.row v sz' ty' es) ∧ v ≤ v' ∧
    (v = v' → C'.ρ id = C.ρ id ∧ ∀ cells t fr, C'.w.heap[(C.ρ id).1]? = some (.cells cells t fr) → ∃ cells' t' fr', C.w.heap[(C.ρ id).1]? = some (.cells cells' t' fr') ∧ cells.size = cells'.size)
  iters : ∀ id, id < C.H.length → ∀ l' pos', C'.H[id]? = some (.iter l' pos') → (∃ l pos, C.H[id]? = some (.iter l pos)) ∧ C'.ρ id = C.ρ id
  maps : ∀ id, id < C.H.length → ∀ k' e' es', C'.H[id]? = some (.map k' e' es') → (∃ k e es, C.H[id]? = some (.map k e es)) ∧ C'.ρ id = C.ρ id

/-- What an abstract value's meaning needs of a step. -/
structure EvV (C C' : Ctx) : Prop where
  size : C.w.heap.size ≤ C'.w.heap.size
  imm : ∀ b, b < C.w.heap.size → C.κ b = .imm → C'.w.heap[b]? = C.w.heap[b]? ∧ C'.κ b = .imm
  hlen : C.H.length ≤ C'.H.length
  rows : ∀ id, id < C.H.length → ∀ v' sz' ty' es', C'.H[id]? = some (.row v' sz' ty' es') → ∃ v es, C.H[id]? = some (.row v sz' ty' es) ∧ v ≤ v' ∧
    (v = v' → C'.ρ id = C.ρ id ∧ ∀ cells t fr, C'.w.heap[(C.ρ id).1]? = some (.cells cells t fr) → ∃ cells' t' fr', C.w.heap[(C.ρ id).1]? = some (.cells cells' t' fr') ∧ cells.size = cells'.size)
  iters : ∀ id, id < C.H.length → ∀ l' pos', C'.H[id]? = some (.iter l' pos') → (∃ l pos, C.H[id]? = some (.iter l pos)) ∧ C'.ρ id = C.ρ id
  maps : ∀ id, id < C.H.length → ∀ k' e' es', C'.H[id]? = some (.map k' e' es') → (∃ k e es, C.H[id]? = some (.map k e es)) ∧ C'.ρ id = C.ρ id

theorem Ev.toV {C C' : Ctx} (h : Ev C C') : EvV C C' :=
  ⟨h.size, fun b hb hi => ⟨(h.keep b hb (.inl hi)).1, (h.keep b hb (.inl hi)).2.trans hi⟩, h.hlen, h.rows, h.iters, h.maps⟩

theorem Ev.refl (C : Ctx) : Ev C C :=
  ⟨rfl, rfl, rfl, Nat.le_refl _, fun _ _ _ => ⟨rfl, rfl⟩, Nat.le_refl _, fun _ _ v' sz' ty' es' h => ⟨v', es', h, Nat.le_refl _, fun _ => ⟨rfl, fun cells t fr h => ⟨cells, t, fr, h, rfl⟩⟩⟩,
    fun _ _ l pos h => ⟨⟨l, pos, h⟩, rfl⟩, fun _ _ k e es h => ⟨⟨k, e, es, h⟩, rfl⟩⟩

theorem Ev.trans {A B C : Ctx} (h : Ev A B) (g : Ev B C) : Ev A C := by
  refine ⟨g.os.trans h.os, g.tape.trans h.tape, g.output.trans h.output, Nat.le_trans h.size g.size, ?_, Nat.le_trans h.hlen g.hlen, ?_, ?_, ?_⟩
  · intro b hb hr
    obtain ⟨h1, h2⟩ := h.keep b hb hr
    obtain ⟨g1, g2⟩ := g.keep b (Nat.lt_of_lt_of_le hb h.size) (by rw [h2]; exact hr)
    exact ⟨g1.trans h1, g2.trans h2⟩
  · intro id hid v' sz' ty' es' hc
    obtain ⟨v1, es1, hb, hv1, g1⟩ := g.rows id (Nat.lt_of_lt_of_le hid h.hlen) v' sz' ty' es' hc
    obtain ⟨v0, es0, ha, hv0, h1⟩ := h.rows id hid v1 sz' ty' es1 hb
    refine ⟨v0, es0, ha, Nat.le_trans hv0 hv1, fun e => ?_⟩
    have e1 : v1 = v' := by omega
    have e0 : v0 = v1 := by omega
    obtain ⟨g2, g3⟩ := g1 e1
    obtain ⟨h2, h3⟩ := h1 e0
    refine ⟨g2.trans h2, fun cells t fr hx => ?_⟩
    obtain ⟨c1, t1, f1, hc1, hs1⟩ := g3 cells t fr (by rw [h2]; exact hx)
    obtain ⟨c2, t2, f2, hc2, hs2⟩ := h3 c1 t1 f1 (by rw [← h2]; exact hc1)
    exact ⟨c2, t2, f2, hc2, hs1.trans hs2⟩
  · intro id hid l' pos' hc
    obtain ⟨⟨l1, p1, hb⟩, e1⟩ := g.iters id (Nat.lt_of_lt_of_le hid h.hlen) l' pos' hc
    obtain ⟨hx, e0⟩ := h.iters id hid l1 p1 hb
    exact ⟨hx, e1.trans e0⟩
  · intro id hid k' e' es' hc
    obtain ⟨⟨k1, e1, es1, hb⟩, r1⟩ := g.maps id (Nat.lt_of_lt_of_le hid h.hlen) k' e' es' hc
    obtain ⟨hx, r0⟩ := h.maps id hid k1 e1 es1 hb
    exact ⟨hx, r1.trans r0⟩

section
variable {C C' : Ctx}

mutual
theorem V.weaken {C : Ctx} {v : AV} {u : Value} : V C true v u → V C false v u
  | .bool _ b => .bool _ b
  | .int _ k n => .int _ k n
  | .str _ s => .str _ s
  | .nilp _ => .nilp _
  | .nils _ => .nils _
  | .nilf _ => .nilf _
  | .nili _ => .nili _
  | .nilm _ => .nilm _
  | .fn _ f a b as bs h1 h2 => .fn _ f a b as bs h1.weaken h2.weaken
  | .iface _ t v u h => .iface _ t v u h.weaken
  | .agg _ cs us h0 h => .agg _ cs us h0 h.weaken
  | .tup _ cs us h => .tup _ cs us h.weaken
  | .rop _ cs a us h0 h1 h2 h3 h4 => .rop _ cs a us h0 h1 h2 h3 h4
  | .sh _ z es a c us h1 h2 h3 h4 h5 h6 => .sh _ z es a c us h1 h2 h3 h4 h5 h6
theorem Vs.weaken {C : Ctx} {vs : List AV} {us : List Value} : Vs C true vs us → Vs C false vs us
  | .nil _ => .nil _
  | .cons _ v u vs us h1 h2 => .cons _ v u vs us h1.weaken h2.weaken
end

theorem V.weakenB {C : Ctx} {p : Bool} {v : AV} {u : Value} (h : V C p v u) : V C false v u := by
  cases p
  · exact h
  · exact h.weaken
theorem Vs.weakenB {C : Ctx} {p : Bool} {v : List AV} {u : List Value} (h : Vs C p v u) : Vs C false v u := by
  cases p
  · exact h
  · exact h.weaken

theorem cell_keep (h : EvV C C') {a : Addr} {u : Value} (hk : C.κ a.block = .imm) (hb : a.block < C.w.heap.size) {j : Nat} (hc : C.w.cell? (a.add j) = some u) : C'.w.cell? (a.add j) = some u := by
  have hab : (a.add j).block = a.block := by unfold Addr.add; split <;> rfl
  have := (h.imm a.block hb hk).1
  rw [← hc]
  exact World.cell?_of_block (by rw [hab]; exact this)

mutual
theorem V.evV {C C' : Ctx} (h : EvV C C') {p : Bool} {v : AV} {u : Value} : V C p v u → V C' p v u
  | .undef u => .undef u
  | .bool _ b => .bool _ b
  | .int _ k n => .int _ k n
  | .str _ s => .str _ s
  | .nilp _ => .nilp _
  | .nils _ => .nils _
  | .nilf _ => .nilf _
  | .nili _ => .nili _
  | .nilm _ => .nilm _
  | .fn _ f a b as bs h1 h2 => .fn _ f a b as bs (h1.evV h) (h2.evV h)
  | .iface _ t v u h1 => .iface _ t v u (h1.evV h)
  | .agg _ cs us h0 h1 => .agg _ cs us h0 (h1.evV h)
  | .tup _ cs us h1 => .tup _ cs us (h1.evV h)
  | .rop _ cs a us h0 h1 h2 h3 h4 => .rop _ cs a us h0 (h1.evV h) (fun j u hu => cell_keep h h3 h4 (h2 j u hu)) (h.imm _ h4 h3).2 (Nat.lt_of_lt_of_le h4 h.size)
  | .sh _ z es a c us h1 h2 h3 h4 h5 h6 => .sh _ z es a c us (h1.evV h) h2 (fun j u hu => by
      have hne : es ≠ [] := by
        rintro rfl
        cases h1
        simp at hu
      exact cell_keep h (h4 hne).1 (h4 hne).2 (h3 j u hu)) (fun hne => ⟨(h.imm _ (h4 hne).2 (h4 hne).1).2, Nat.lt_of_lt_of_le (h4 hne).2 h.size⟩) h5 h6
  | .ptr id ver i off u h0 h1 => .ptr id ver i off u h0 ⟨Nat.lt_of_lt_of_le h1.1 h.hlen, fun v' sz ty es hr => by
      obtain ⟨v, es0, hz, hv, hx⟩ := h.rows id h1.1 v' sz ty es hr
      obtain ⟨h2, h3⟩ := h1.2 v sz ty es0 hz
      refine ⟨Nat.le_trans h2 hv, fun e => ?_⟩
      have e0 : v = v' := by omega
      rw [(hx e0).1]
      exact h3 (by omega)⟩
  | .sl id ver off n cap u h0 h1 => .sl id ver off n cap u h0 ⟨Nat.lt_of_lt_of_le h1.1 h.hlen, fun v' sz ty es hr => by
      obtain ⟨v, es0, hz, hv, hx⟩ := h.rows id h1.1 v' sz ty es hr
      obtain ⟨h2, h3⟩ := h1.2 v sz ty es0 hz
      refine ⟨Nat.le_trans h2 hv, fun e => ?_⟩
      have e0 : v = v' := by omega
      obtain ⟨a, c, g1, g2, g3, g4, g5, g6⟩ := h3 (by omega)
      obtain ⟨hx1, hx2⟩ := hx e0
      refine ⟨a, c, g1, g2, g3, g4, by rw [hx1]; exact g5, fun cells t fr hc => ?_⟩
      rw [hx1] at hc ⊢
      obtain ⟨c', t', f', hc', hs⟩ := hx2 cells t fr hc
      rw [hs]
      exact g6 c' t' f' hc'⟩
  | .it id u h0 h1 => .it id u h0 ⟨Nat.lt_of_lt_of_le h1.1 h.hlen, fun l pos hr => by
      obtain ⟨⟨l0, p0, hz⟩, e⟩ := h.iters id h1.1 l pos hr
      rw [e]
      exact h1.2 l0 p0 hz⟩
  | .mp id u h0 h1 => .mp id u h0 ⟨Nat.lt_of_lt_of_le h1.1 h.hlen, fun k e es hr => by
      obtain ⟨⟨k0, e0, es0, hz⟩, r⟩ := h.maps id h1.1 k e es hr
      rw [r]
      exact h1.2 k0 e0 es0 hz⟩
theorem Vs.evV {C C' : Ctx} (h : EvV C C') {p : Bool} {vs : List AV} {us : List Value} : Vs C p vs us → Vs C' p vs us
  | .nil _ => .nil _
  | .cons _ v u vs us h1 h2 => .cons _ v u vs us (h1.evV h) (h2.evV h)
end

theorem V.ev {C C' : Ctx} {p : Bool} {v : AV} {u : Value} (g : V C p v u) (h : Ev C C') : V C' p v u := g.evV h.toV
theorem Vs.ev {C C' : Ctx} {p : Bool} {vs : List AV} {us : List Value} (g : Vs C p vs us) (h : Ev C C') : Vs C' p vs us := g.evV h.toV

end
end Go.Den

/- DEN, part E: the small heap and the frame stand for memory; what follows for values, slots and operands. -/
namespace Go.Den
open Go.RowKit

section lists
variable {C : Ctx} {p : Bool}
theorem Vs.length {vs : List AV} {us : List Value} (h : Vs C p vs us) : us.length = vs.length := by
  induction vs generalizing us with
  | nil => cases h; rfl
  | cons v vs ih => cases h with | cons _ _ u _ us h1 h2 => simp [ih h2]
theorem Vs.append {a b : List AV} {x y : List Value} (h : Vs C p a x) (g : Vs C p b y) : Vs C p (a ++ b) (x ++ y) := by
  induction a generalizing x with
  | nil => cases h; exact g
  | cons v a ih => cases h with | cons _ _ u _ us h1 h2 => exact .cons _ _ _ _ _ h1 (ih h2)
theorem Vs.get {vs : List AV} {us : List Value} (h : Vs C p vs us) {i : Nat} {v : AV} (hv : vs[i]? = some v) : ∃ u, us[i]? = some u ∧ V C p v u := by
  induction vs generalizing us i with
  | nil => simp at hv
  | cons x vs ih =>
    cases h with
    | cons _ _ u _ us h1 h2 =>
      cases i with
      | zero => simp at hv; subst hv; exact ⟨u, by simp, h1⟩
      | succ i => simp at hv; simpa using ih h2 hv
theorem Vs.take {vs : List AV} {us : List Value} (h : Vs C p vs us) (n : Nat) : Vs C p (vs.take n) (us.take n) := by
  induction vs generalizing us n with
  | nil => cases h; simp; exact .nil _
  | cons x vs ih =>
    cases h with
    | cons _ _ u _ us h1 h2 =>
      cases n with
      | zero => exact .nil _
      | succ n => exact .cons _ _ _ _ _ h1 (ih h2 n)
theorem Vs.drop {vs : List AV} {us : List Value} (h : Vs C p vs us) (n : Nat) : Vs C p (vs.drop n) (us.drop n) := by
  induction vs generalizing us n with
  | nil => cases h; simp; exact .nil _
  | cons x vs ih =>
    cases h with
    | cons _ _ u _ us h1 h2 =>
      cases n with
      | zero => exact .cons _ _ _ _ _ h1 h2
      | succ n => exact ih h2 n
theorem Vs.split {a b : List AV} {us : List Value} (h : Vs C p (a ++ b) us) : Vs C p a (us.take a.length) ∧ Vs C p b (us.drop a.length) := by
  have h1 := h.take a.length
  have h2 := h.drop a.length
  simp at h1 h2
  exact ⟨h1, h2⟩
theorem Vs.of_get {vs : List AV} {us : List Value} (hl : us.length = vs.length) (h : ∀ (i : Nat) (v : AV) (u : Value), vs[i]? = some v → us[i]? = some u → V C p v u) : Vs C p vs us := by
  induction vs generalizing us with
  | nil => cases us with
    | nil => exact .nil _
    | cons _ _ => simp at hl
  | cons v vs ih => cases us with
    | nil => simp at hl
    | cons u us => exact .cons _ _ _ _ _ (h 0 v u rfl rfl) (ih (by simpa using hl) (fun i v' u' hv hu => h (i + 1) v' u' (by simpa using hv) (by simpa using hu)))
end lists

theorem cells_one {u : Value} (h : u.oneCell' = true) : u.cells.toList = [u] := by
  cases u <;> first | rfl | simp [Value.oneCell'] at h

theorem V.one {C : Ctx} {p : Bool} {v : AV} {u : Value} (h : V C p v u) (hv : v.one = true) : u.oneCell' = true := by
  cases h with
  | undef _ => simp [AV.one] at hv
  | agg _ _ _ _ _ => simp [AV.one] at hv
  | tup _ _ _ _ => simp [AV.one] at hv
  | ptr _ _ _ _ _ h0 _ => exact h0
  | sl _ _ _ _ _ _ h0 _ => exact h0
  | it _ _ h0 _ => exact h0
  | mp _ _ h0 _ => exact h0
  | _ => rfl

theorem Vs.one {C : Ctx} {p : Bool} {vs : List AV} {us : List Value} (h : Vs C p vs us) (hv : ∀ v ∈ vs, v.one = true) : ∀ u ∈ us, u.oneCell' = true := by
  induction vs generalizing us with
  | nil => cases h; simp
  | cons v vs ih =>
    cases h with
    | cons _ _ u _ us h1 h2 =>
      intro x hx
      rcases List.mem_cons.1 hx with rfl | hx
      · exact h1.one (hv v List.mem_cons_self)
      · exact ih h2 (fun y hy => hv y (List.mem_cons_of_mem _ hy)) x hx

/-- An element of so many cells. -/
def Good (z : Nat) (e : AV) : Prop := e.cells.length = z ∧ ∀ c ∈ e.cells, c.one = true

/-- A value's cells. -/
theorem V.cells {C : Ctx} {p : Bool} {v : AV} {u : Value} (h : V C p v u) (hv : v.isDef = true) : Vs C p v.cells u.cells.toList ∧ ∀ c ∈ v.cells, c.one = true := by
  cases h with
  | undef u => simp [AV.isDef] at hv
  | agg _ cs us h0 h => exact ⟨h, h0⟩
  | tup _ cs us h => simp [AV.isDef] at hv
  | ptr _ _ _ _ _ h0 h1 => rw [cells_one h0]; exact ⟨.cons _ _ _ _ _ (.ptr _ _ _ _ _ h0 h1) (.nil _), by simp [AV.cells, AV.one]⟩
  | sl _ _ _ _ _ _ h0 h1 => rw [cells_one h0]; exact ⟨.cons _ _ _ _ _ (.sl _ _ _ _ _ _ h0 h1) (.nil _), by simp [AV.cells, AV.one]⟩
  | it _ _ h0 h1 => rw [cells_one h0]; exact ⟨.cons _ _ _ _ _ (.it _ _ h0 h1) (.nil _), by simp [AV.cells, AV.one]⟩
  | mp _ _ h0 h1 => rw [cells_one h0]; exact ⟨.cons _ _ _ _ _ (.mp _ _ h0 h1) (.nil _), by simp [AV.cells, AV.one]⟩
  | rop _ cs a us h0 h1 h2 h3 h4 => exact ⟨.cons _ _ _ _ _ (.rop _ _ _ _ h0 h1 h2 h3 h4) (.nil _), by simp [AV.cells, AV.one]⟩
  | sh _ z es a c us h1 h2 h3 h4 h5 h6 => exact ⟨.cons _ _ _ _ _ (.sh _ _ _ _ _ _ h1 h2 h3 h4 h5 h6) (.nil _), by simp [AV.cells, AV.one]⟩
  | fn _ f a b as bs h1 h2 => exact ⟨.cons _ _ _ _ _ (.fn _ _ _ _ _ _ h1 h2) (.nil _), by simp [AV.cells, AV.one]⟩
  | iface _ t v u h1 => exact ⟨.cons _ _ _ _ _ (.iface _ _ _ _ h1) (.nil _), by simp [AV.cells, AV.one]⟩
  | _ => exact ⟨.cons _ _ _ _ _ (by constructor) (.nil _), by simp [AV.cells, AV.one]⟩

/-- The object's row lies in memory. -/
def RowAt (C : Ctx) (id sz : Nat) (ty : TypeId) (es : List AV) : Prop :=
  0 < sz ∧ (∀ e ∈ es, Good sz e) ∧ C.κ (C.ρ id).1 = .obj id ∧
    ∃ cur fr us, C.w.heap[(C.ρ id).1]? = some (.cells cur ty fr) ∧ (∀ j, j < cur.size → ¬ (fr.1 ≤ j ∧ j < fr.2)) ∧ Vs C false (es.flatMap AV.cells) us ∧ ∀ j u, us[j]? = some u → cur[(C.ρ id).2 + j]? = some u

def IterAt (C : Ctx) (id : Nat) (l : List UInt8) (pos : Nat) : Prop :=
  C.κ (C.ρ id).1 = .obj id ∧ ∃ s, s.data.toList = l ∧ C.w.heap[(C.ρ id).1]? = some (.stringIter s pos)

/-- Memory keeps the small heap. -/
structure HR (E : Env) (C : Ctx) : Prop where
  row : ∀ id v sz ty es, C.H[id]? = some (.row v sz ty es) → RowAt C id sz ty es
  iter : ∀ id l pos, C.H[id]? = some (.iter l pos) → IterAt C id l pos
  new : ∀ b, C.w.heap.size ≤ b → C.κ b = .oth
  glob : ∀ g cs, E.glob g = some cs → V C true (.rop cs) (.pointer (some ⟨g, 0, none⟩))
  al : ∀ id v sz ty es, C.H[id]? = some (.row v sz ty es) → (C.ρ id).2 % sz = 0

/-- What a step must leave of the small heap. -/
theorem HR.step {E : Env} {C C' : Ctx} (hr : HR E C) (ev : Ev C C')
    (hrow : ∀ id v sz ty es, C'.H[id]? = some (.row v sz ty es) → (C.H[id]? = some (.row v sz ty es) ∧ C'.ρ id = C.ρ id ∧ C'.κ (C.ρ id).1 = .obj id ∧ C'.w.heap[(C.ρ id).1]? = C.w.heap[(C.ρ id).1]?) ∨ (RowAt C' id sz ty es ∧ (C'.ρ id).2 % sz = 0))
    (hiter : ∀ id l pos, C'.H[id]? = some (.iter l pos) → (C.H[id]? = some (.iter l pos) ∧ C'.ρ id = C.ρ id ∧ C'.κ (C.ρ id).1 = .obj id ∧ C'.w.heap[(C.ρ id).1]? = C.w.heap[(C.ρ id).1]?) ∨ IterAt C' id l pos)
    (hnew : ∀ b, C'.w.heap.size ≤ b → C'.κ b = .oth) : HR E C' := by
  refine ⟨fun id v sz ty es h => ?_, fun id l pos h => ?_, hnew, fun g cs h => (hr.glob g cs h).ev ev, fun id v sz ty es h => ?_⟩
  · rcases hrow id v sz ty es h with ⟨h1, h2, h3, h4⟩ | h1
    · obtain ⟨g0, g1, g2, cur, fr, us, g3, g4, g5, g6⟩ := hr.row id v sz ty es h1
      exact ⟨g0, g1, by rw [h2]; exact h3, cur, fr, us, by rw [h2, h4]; exact g3, g4, g5.ev ev, by rw [h2]; exact g6⟩
    · exact h1.1
  · rcases hiter id l pos h with ⟨h1, h2, h3, h4⟩ | h1
    · obtain ⟨g0, s, g1, g2⟩ := hr.iter id l pos h1
      exact ⟨by rw [h2]; exact h3, s, g1, by rw [h2, h4]; exact g2⟩
    · exact h1
  · rcases hrow id v sz ty es h with ⟨h1, h2, _, _⟩ | h1
    · rw [h2]
      exact hr.al id v sz ty es h1
    · exact h1.2

/-- The frame's slot t holds what the abstract one says. -/
def SlotOk (C : Ctx) (lam : Nat → Nat) (st : St) (a : Act) (t : Nat) : Prop :=
  match st.get t with
  | .val v => V C false v (a.tmps.getD t undef)
  | .lp s off => a.tmps.getD t undef = .pointer (some ⟨lam s, off, none⟩) ∧ st.var s ≠ none
  | .no => True

structure FrameR (C : Ctx) (lam : Nat → Nat) (st : St) (a : Act) : Prop where
  size : a.tmps.size = st.N
  defers : a.defers = []
  slots : ∀ t, SlotOk C lam st a t
  vars : ∀ s cs, st.var s = some cs → C.κ (lam s) = .loc s ∧ lam s < C.w.heap.size ∧ ∃ cur ty fr, C.w.heap[lam s]? = some (.cells cur ty fr) ∧ (∀ j, j < cur.size → ¬ (fr.1 ≤ j ∧ j < fr.2)) ∧ Vs C false cs cur.toList ∧ ∀ c ∈ cs, c.one = true

/-- The frame's own variables are left alone. -/
structure EvL (C C' : Ctx) : Prop where
  ev : Ev C C'
  loc : ∀ b, b < C.w.heap.size → ∀ s, C.κ b = .loc s → C'.w.heap[b]? = C.w.heap[b]? ∧ C'.κ b = .loc s

theorem EvL.refl (C : Ctx) : EvL C C := ⟨Ev.refl C, fun _ _ _ h => ⟨rfl, h⟩⟩

theorem FrameR.ev {C C' : Ctx} {lam : Nat → Nat} {st : St} {a : Act} (h : FrameR C lam st a) (g : EvL C C') : FrameR C' lam st a := by
  refine ⟨h.size, h.defers, fun t => ?_, fun s cs hs => ?_⟩
  · have ht := h.slots t
    unfold SlotOk at ht ⊢
    split at ht
    · exact ht.ev g.ev
    · exact ht
    · trivial
  · obtain ⟨h1, h2, cur, ty, fr, h3, h4, h5, h6⟩ := h.vars s cs hs
    obtain ⟨g1, g2⟩ := g.loc _ h2 s h1
    exact ⟨g2, Nat.lt_of_lt_of_le h2 g.ev.size, cur, ty, fr, g1.trans h3, h4, h5.ev g.ev, h6⟩

theorem getD_set_self {xs : Array Value} {i : Nat} {v : Value} (h : i < xs.size) : (xs.setIfInBounds i v).getD i undef = v := by
  simp [Array.getD_eq_getD_getElem?, h]
theorem getD_set_ne {xs : Array Value} {i j : Nat} {v : Value} (h : i ≠ j) : (xs.setIfInBounds i v).getD j undef = xs.getD j undef := by
  simp [Array.getD_eq_getD_getElem?, Array.getElem?_setIfInBounds_ne h]

theorem St.get_put_ne {st : St} {i j : Nat} {x : SV} (h : i ≠ j) : (st.put i x).get j = st.get j := Tr.get_set_ne h
theorem St.get_put_self {st : St} {i : Nat} {x : SV} : (st.put i x).get i = x ∨ (st.put i x).get i = .no := by
  rcases Tr.get_set_self (z := SV.no) (t := st.slots) (i := i) (x := x) with h | h
  · exact .inl h
  · exact .inr h.1

/-- A slot is written. -/
theorem FrameR.put {C : Ctx} {lam : Nat → Nat} {st : St} {a : Act} (h : FrameR C lam st a) {d : Option Tmp} {x : SV} {u : Value}
    (hx : match x with | .val v => V C false v u | .lp s off => u = .pointer (some ⟨lam s, off, none⟩) ∧ st.var s ≠ none | .no => True) : FrameR C lam (stPut st d x) (a.put d u) := by
  cases d with
  | none => exact h
  | some t =>
    show FrameR C lam (if t < st.N then st.put t x else st) { a with tmps := a.tmps.setIfInBounds t u }
    by_cases hlt : t < st.N
    · rw [if_pos hlt]
      refine ⟨by rw [Array.size_setIfInBounds]; exact h.size, h.defers, fun i => ?_, h.vars⟩
      by_cases e : t = i
      · subst e
        have hg : (a.tmps.setIfInBounds t u).getD t undef = u := getD_set_self (by rw [h.size]; exact hlt)
        show SlotOk C lam (st.put t x) _ t
        unfold SlotOk
        rcases St.get_put_self (st := st) (i := t) (x := x) with h1 | h1
        · rw [h1]
          dsimp only
          rw [hg]
          exact hx
        · rw [h1]
          trivial
      · have hi := h.slots i
        show SlotOk C lam (st.put t x) _ i
        unfold SlotOk at hi ⊢
        rw [St.get_put_ne e]
        dsimp only
        rw [getD_set_ne e]
        exact hi
    · rw [if_neg hlt]
      have : a.tmps.setIfInBounds t u = a.tmps := by
        simp [Array.setIfInBounds, h.size, hlt]
      rw [this]
      exact h

theorem St.put_var {st : St} {d : Option Tmp} {x : SV} {s : Nat} : (stPut st d x).var s = st.var s := by
  cases d with
  | none => rfl
  | some t =>
    show (if t < st.N then st.put t x else st).var s = st.var s
    split <;> rfl

section consts
theorem mapM_vs {C : Ctx} {f : Value → Option AV} (hf : ∀ u v, f u = some v → V C true v u) : ∀ {us : List Value} {vs : List AV}, us.mapM f = some vs → Vs C true vs us
  | [], vs, h => by simp at h; subst h; exact .nil _
  | u :: us, vs, h => by
    rw [List.mapM_cons] at h
    simp only [Option.bind_eq_bind, Option.bind_eq_some_iff] at h
    obtain ⟨v, hv, ws, hw, e⟩ := h
    simp only [Option.pure_def, Option.some.injEq] at e
    subst e
    exact .cons _ _ _ _ _ (hf _ _ hv) (mapM_vs hf hw)
theorem ofConst_ok {C : Ctx} : ∀ {n : Nat} {u : Value} {v : AV}, ofConst n u = some v → V C true v u
  | 0, _, _, h => by simp [ofConst] at h
  | n + 1, u, v, h => by
    unfold ofConst at h
    split at h
    · simp at h; subst h; exact .bool _ _
    · simp at h; subst h; exact .int _ _ _
    · simp at h; subst h; exact .str _ _
    · simp at h; subst h; exact .nilp _
    · simp at h; subst h; exact .nils _
    · simp at h; subst h; exact .nilm _
    · simp at h; subst h; exact .nilf _
    · simp at h; subst h; exact .nili _
    · rename_i cs
      split at h
      · rename_i vs h1
        cases ho : vs.all AV.one
        · rw [ho] at h; simp at h
        · rw [ho] at h
          simp at h
          subst h
          exact .agg _ _ _ (fun c hc => List.all_eq_true.1 ho c hc) (mapM_vs (fun u v => ofConst_ok) h1)
      · simp at h
    · simp at h
end consts

theorem slot_val {C : Ctx} {lam : Nat → Nat} {st : St} {a : Act} (h : FrameR C lam st a) {t : Nat} {v : AV} (hv : st.get t = .val v) : V C false v (a.eval (.tmp t)) := by
  have := h.slots t
  unfold SlotOk at this
  rw [hv] at this
  exact this
theorem slot_lp {C : Ctx} {lam : Nat → Nat} {st : St} {a : Act} (h : FrameR C lam st a) {t s off : Nat} (hv : st.get t = .lp s off) : a.eval (.tmp t) = .pointer (some ⟨lam s, off, none⟩) ∧ st.var s ≠ none := by
  have := h.slots t
  unfold SlotOk at this
  rw [hv] at this
  exact this

theorem eval_ok {E : Env} {C : Ctx} {lam : Nat → Nat} {st : St} {a : Act} (hr : HR E C) (h : FrameR C lam st a) {x : Operand} {v : AV} (hv : st.eval E x = some v) : V C false v (a.eval x) := by
  cases x with
  | tmp t =>
    change (match st.get t with | .val v => some v | _ => none) = some v at hv
    split at hv
    · rename_i w hw
      simp at hv
      subst hv
      exact slot_val h hw
    · simp at hv
  | const u => exact (ofConst_ok hv).weaken
  | func f =>
    simp [St.eval] at hv
    subst hv
    exact .fn _ _ _ _ _ _ (.nil _) (.nil _)
  | global g =>
    simp only [St.eval, Option.map_eq_some_iff] at hv
    obtain ⟨cs, h1, rfl⟩ := hv
    exact (hr.glob g cs h1).weaken

theorem evals_ok {E : Env} {C : Ctx} {lam : Nat → Nat} {st : St} {a : Act} (hr : HR E C) (h : FrameR C lam st a) : ∀ {xs : List Operand} {vs : List AV}, evals E st xs = some vs → Vs C false vs (xs.map a.eval)
  | [], vs, hv => by simp [evals] at hv; subst hv; exact .nil _
  | x :: xs, vs, hv => by
    unfold evals at hv
    split at hv
    · rename_i v h1
      split at hv
      · rename_i ws h2
        simp at hv
        subst hv
        exact .cons _ _ _ _ _ (eval_ok hr h h1) (evals_ok hr h h2)
      · simp at hv
    · simp at hv

end Go.Den
