/- DEN, part A: abstract values, slots, the small heap, and what the operations do to them: a deterministic reading of the loaded code on pure values. Nothing is proved here. -/
import GoSem.Dispatch
import GoSem.Core.Code
import GoSem.Core.Layout
namespace Go.Den

/-- Abstract values. 'undef': anything at all. 'rop': a pointer to memory that never changes again, with the cells that stand from there on. 'sh': a slice of such memory (cells an element; the elements). 'ptr', 'sl': into an object of the small heap (its number, its version, ..). -/
inductive AV where
  | undef
  | bool (b : Bool)
  | int (k : IntKind) (n : Int)
  | str (s : List UInt8)
  | nilp
  | ptr (id ver i off : Nat)
  | rop (cells : List AV)
  | nils
  | sh (sz : Nat) (elems : List AV)
  | sl (id ver off n cap : Nat)
  | nilf
  | fn (f : Fn) (first captured : List AV)
  | nili
  | iface (t : TypeId) (v : AV)
  | agg (cells : List AV)
  | tup (vs : List AV)
  | nilm
  | mp (id : Nat)
  | it (id : Nat)
  deriving Inhabited

def AV.cells : AV → List AV
  | .agg cs => cs
  | v => [v]

/-- May it stand in one cell of memory? -/
def AV.one : AV → Bool
  | .agg _ | .tup _ | .undef => false
  | _ => true

/-- May it be stored (cell by cell)? -/
def AV.isDef : AV → Bool
  | .undef | .tup _ => false
  | _ => true

/-- Numbers, bools, texts, nils. -/
def AV.flat0 : AV → Bool
  | .bool _ | .int _ _ | .str _ | .nilp | .nils | .nilf | .nili | .nilm | .undef => true
  | _ => false
/-- Numbers, bools, texts, and rows of them: nothing that leads to memory. -/
def AV.flat : AV → Bool
  | .tup vs | .agg vs => vs.all AV.flat0
  | v => v.flat0

/-- A value of one cell that never changes, whatever happens. -/
def AV.leaf : AV → Bool
  | .bool _ | .int _ _ | .str _ | .nilp | .nils | .nilf | .nili | .nilm | .rop _ | .sh _ _ => true
  | _ => false
def AV.imm1 : AV → Bool
  | .agg cs => cs.all AV.leaf
  | .tup cs => cs.all AV.leaf
  | .fn _ a b => a.all AV.leaf && b.all AV.leaf
  | v => v.leaf
/-- A value that never changes, whatever happens. -/
def AV.imm : AV → Bool
  | .tup cs => cs.all AV.imm1
  | v => v.imm1

/-- An object of the small heap. -/
inductive HObj where
  | row (ver : Nat) (sz : Nat) (ty : TypeId) (elems : List AV)
  | iter (s : List UInt8) (pos : Nat)
  | map (kt et : TypeId) (entries : List (AV × AV))
  | dead
  deriving Inhabited

abbrev Heap := List HObj

/-- What a slot holds: a value; a pointer into a variable of the frame's own; nothing that may be read. -/
inductive SV where
  | val (v : AV)
  | lp (site off : Nat)
  | no
  deriving Inhabited

inductive Tr (α : Type) where
  | lf
  | nd (l : Tr α) (v : α) (r : Tr α)

namespace Tr
variable {α : Type}
def full (z : α) : Nat → Tr α
  | 0 => .lf
  | d + 1 => .nd (full z d) z (full z d)
def get (z : α) : Tr α → Nat → α
  | .lf, _ => z
  | .nd l v r, n => bif Nat.beq n 0 then v else bif Nat.beq (n % 2) 1 then get z l (n / 2) else get z r (n / 2 - 1)
def set : Tr α → Nat → α → Tr α
  | .lf, _, _ => .lf
  | .nd l v r, n, x => bif Nat.beq n 0 then .nd l x r else bif Nat.beq (n % 2) 1 then .nd (set l (n / 2) x) v r else .nd l v (set r (n / 2 - 1) x)
def mk (z : α) (d : Nat) (l : List (Nat × α)) : Tr α := l.foldl (fun t p => t.set p.1 p.2) (full z d)
end Tr

/-- A frame: its slots; its own variables (by the place that lays them); how many slots. -/
structure St where
  slots : Tr SV
  L : Tr (Option (List AV))
  N : Nat

inductive AExit where
  | normal
  | exit (id : Nat)
  | ret

/-- Which slots and variables are kept: slots with values; slots with pointers into variables of the frame's own (slot, place, cell); those variables. -/
structure LK where
  d : Nat
  vals : List Nat
  lps : List (Nat × Nat × Nat)
  vars : List Nat

/-- What is kept: the values, the variables' cells. -/
structure Live where
  vs : List AV
  cs : List (List AV)

/-- A remark on each piece of code. -/
inductive Ann where
  | nil
  | two (a b : Ann)
  | one (a : Ann)
  | keep (k : LK) (outs : List AExit) (a : Ann)      -- kept where the piece is left, by one of these ways
  | lp (k : LK) (a : Ann)        -- kept at a loop's head

/-- Of a region whose order is open: what stands before each operation (bits); of each reading that some loud operation may overtake: from which version of the heap to which it must tell the same. -/
structure DInfo where
  before : List Nat
  wins : List (Nat × Nat × Nat)

/-- How a function is read: as its text stands; as a whole; as a whole, on values that do not change. -/
inductive Pol where
  | plain
  | prim (F : List AV → Heap → Option (AV × Heap))
  | still (F : List AV → Option AV)

structure FAnn where
  ann : Ann := .nil
  depth : Nat := 6
  sites : List (Nat × Nat × Nat) := []          -- region, operation: the place
  draws : List (Nat × DInfo) := []

structure Env where
  P : Program
  pol : FuncId → Pol
  ann : FuncId → FAnn
  glob : Nat → Option (List AV)

def St.get (st : St) (t : Nat) : SV := st.slots.get .no t
def St.put (st : St) (t : Nat) (x : SV) : St := { st with slots := st.slots.set t x }
def St.var (st : St) (s : Nat) : Option (List AV) := st.L.get none s
def St.setVar (st : St) (s : Nat) (cs : List AV) : St := { st with L := st.L.set s (some cs) }

def SV.kept (L : Tr (Option (List AV))) (x : SV) : SV :=
  match x with
  | .lp s off => match L.get none s with
    | some _ => .lp s off
    | none => .no
  | x => x

def valOf : SV → AV
  | .val v => v
  | _ => .undef

def lpsOk (st : St) : List (Nat × Nat × Nat) → Bool
  | [] => true
  | (t, s, o) :: r => (match st.get t with | .lp s' o' => Nat.beq s s' && Nat.beq o o' | _ => false) && lpsOk st r

def varsOf (st : St) : List Nat → Option (List (List AV))
  | [] => some []
  | s :: r => match st.var s with
    | some cs => match varsOf st r with
      | some l => some (cs :: l)
      | none => none
    | none => none

def St.live (st : St) (k : LK) : Option Live :=
  bif lpsOk st k.lps then (match varsOf st k.vars with | some cs => some ⟨k.vals.map fun i => valOf (st.get i), cs⟩ | none => none) else none

def zipVals (vs : List AV) : List Nat → Nat → List (Nat × SV)
  | [], _ => []
  | i :: r, j => (i, .val (vs.getD j .undef)) :: zipVals vs r (j + 1)

def zipVars (cs : List (List AV)) : List Nat → Nat → List (Nat × Option (List AV))
  | [], _ => []
  | i :: r, j => (i, some (cs.getD j [])) :: zipVars cs r (j + 1)

def LK.L (k : LK) (l : Live) : Tr (Option (List AV)) := Tr.mk none k.d (zipVars l.cs k.vars 0)

def St.ofLive (k : LK) (N : Nat) (l : Live) : St :=
  { slots := Tr.mk .no k.d (zipVals l.vs k.vals 0 ++ k.lps.map fun p => (p.1, (SV.lp p.2.1 p.2.2).kept (k.L l))), L := k.L l, N }

/-! ### values of the text -/
def ofConst : Nat → Value → Option AV
  | 0, _ => none
  | n + 1, v => match v with
    | .bool b => some (.bool b)
    | .int k i => some (.int k i)
    | .string s => some (.str s.data.toList)
    | .pointer none => some .nilp
    | .slice none 0 0 => some .nils
    | .map none => some .nilm
    | .nilFunc => some .nilf
    | .nilIface => some .nili
    | .agg cs => match cs.toList.mapM (ofConst n) with
      | some vs => bif vs.all AV.one then some (.agg vs) else none
      | none => none
    | _ => none

def Env.zero (E : Env) (t : TypeId) : Option AV := ((E.P.info? t).bind (·.zero)).bind (ofConst 3)
def Env.size (E : Env) (t : TypeId) : Option Nat := (E.P.info? t).map (·.size)
def Env.bytes (E : Env) (t : TypeId) : Option Nat := (E.P.info? t).map (·.bytes)
def Env.elem (E : Env) (t : TypeId) : Option TypeId := match E.P.underlying t with | some (.slice e) => some e | _ => none
def Env.isAgg (E : Env) (t : TypeId) : Option Bool := (E.P.underlying t).map fun | .struct _ | .array _ _ => true | _ => false
def Env.fieldOf (E : Env) (s : TypeId) (i : Nat) : Option Field := match E.P.underlying s with | some (.struct fs) => fs[i]? | _ => none

def St.eval (E : Env) (st : St) : Operand → Option AV
  | .tmp t => match st.get t with | .val v => some v | _ => none
  | .const v => ofConst 3 v
  | .func f => some (.fn (.func f) [] [])
  | .global g => (E.glob g).map .rop

/-! ### what the operations do -/
namespace A

def ofList (agg : Bool) (size : Nat) (cs : List AV) (off : Nat) : Option AV :=
  bif agg then (if off + size ≤ cs.length then some (.agg ((cs.drop off).take size)) else none) else cs[off]?

def splice (cs : List AV) (off : Nat) (vs : List AV) : List AV := cs.take off ++ vs ++ cs.drop (off + vs.length)

def fits (size : Nat) (v : AV) : Bool := v.cells.length == size && v.cells.all AV.one

def asB : AV → Option Bool
  | .bool b => some b
  | _ => none

/-- A guard's value: of a guard that was not asked itself, what is not wanted. -/
def asG (want : Bool) : AV → Option Bool
  | .bool b => some b
  | .tup [] => some (!want)
  | _ => none

def test {R : Type} (v : AV) (t e : Option R) : Option R :=
  match v with
  | .bool b => bif b then t else e
  | _ => none

def pick (c a b : AV) : Option AV :=
  match c with
  | .bool x => some (bif x then a else b)
  | _ => none

/-- Is it alive in the small heap, with this version? -/
def alive (H : Heap) (id ver : Nat) : Bool :=
  match H[id]? with
  | some (.row v _ _ _) => v == ver
  | _ => false

/-- The same, of elements of so many cells. -/
def aliveZ (H : Heap) (id ver sz : Nat) : Bool :=
  match H[id]? with
  | some (.row v z _ _) => v == ver && z == sz
  | _ => false

def elemAt (H : Heap) (id ver i : Nat) : Option AV :=
  match H[id]? with
  | some (.row v _ _ es) => bif v == ver then es[i]? else none
  | _ => none

def load (agg : Bool) (size : Nat) (p : AV) (H : Heap) : Option AV :=
  match p with
  | .rop cs => ofList agg size cs 0
  | .ptr id ver i off => (elemAt H id ver i).bind fun e => ofList agg size e.cells off
  | _ => none

def setElem (e : AV) (off : Nat) (v : AV) : Option AV :=
  match e with
  | .agg cs => if off + v.cells.length ≤ cs.length then some (.agg (splice cs off v.cells)) else none
  | .undef | .tup _ => none
  | _ => match v with
    | .agg _ => none
    | _ => if off = 0 then some v else none

def store (size : Nat) (p v : AV) (H : Heap) : Option Heap :=
  match p with
  | .ptr id ver i off =>
    bif fits size v then
      match H[id]? with
      | some (.row w sz ty es) =>
        bif w == ver then (es[i]?).bind fun e => (setElem e off v).map fun e' => H.set id (.row w sz ty (es.set i e')) else none
      | _ => none
    else none
  | _ => none

def fa (off : Nat) (p : AV) (H : Heap) : Option AV :=
  match p with
  | .rop cs => some (.rop (cs.drop off))
  | .ptr id ver i o => bif alive H id ver then some (.ptr id ver i (o + off)) else none
  | _ => none

def nilCheck (p : AV) (H : Heap) : Option AV :=
  match p with
  | .rop cs => some (.rop cs)
  | .ptr id ver i o => bif alive H id ver then some (.ptr id ver i o) else none
  | .fn (.func f) a b => some (.fn (.func f) a b)
  | _ => none

def idx (sz : Nat) (s i : AV) (H : Heap) : Option AV :=
  match s, i with
  | .sh z es, .int _ i => if 0 ≤ i ∧ i < es.length ∧ z = sz then (es[i.toNat]?).map fun e => .rop e.cells else none
  | .sl id ver off n _, .int _ i => if 0 ≤ i ∧ i < n ∧ aliveZ H id ver sz = true then some (.ptr id ver (off + i.toNat) 0) else none
  | _, _ => none

/-- An array's element, by the array's address. -/
def idxArr (sz len : Nat) (p i : AV) (H : Heap) : Option AV :=
  match i with
  | .int _ i => if 0 ≤ i ∧ i < len then fa (i.toNat * sz) p H else none
  | _ => none

def index (s i : AV) : Option AV :=
  match s, i with
  | .str l, .int _ i => if 0 ≤ i then (l[i.toNat]?).map fun b => .int .u8 b.toNat else none
  | _, _ => none

def indexArr (agg : Bool) (sz len : Nat) (a i : AV) : Option AV :=
  match a, i with
  | .agg cs, .int _ i => if 0 ≤ i ∧ i < len then ofList agg sz cs (i.toNat * sz) else none
  | _, _ => none

def field (agg : Bool) (sz off : Nat) (a : AV) : Option AV :=
  match a with
  | .agg cs => ofList agg sz cs off
  | _ => none

def len (v : AV) (H : Heap) : Option AV :=
  match v with
  | .nils => some (.int .i64 0)
  | .sh _ es => some (.int .i64 es.length)
  | .sl id ver _ n _ => bif alive H id ver then some (.int .i64 n) else none
  | _ => none

def lenStr (v : AV) : Option AV :=
  match v with
  | .str l => some (.int .i64 l.length)
  | _ => none

def lenMap (v : AV) (H : Heap) : Option AV :=
  match v with
  | .nilm => some (.int .i64 0)
  | .mp id => match H[id]? with
    | some (.map _ _ es) => some (.int .i64 es.length)
    | _ => none
  | _ => none

def bits (op : BinOp) (k : IntKind) (x y : Int) : Option Int :=
  let a := BitVec.ofInt k.bits x
  let b := BitVec.ofInt k.bits y
  match op with
  | .and => some (k.wrap (a &&& b).toNat)
  | .or => some (k.wrap (a ||| b).toNat)
  | .xor => some (k.wrap (a ^^^ b).toNat)
  | .andNot => some (k.wrap (a &&& ~~~b).toNat)
  | _ => none

def binInt (op : BinOp) (k : IntKind) (x y : Int) : Option AV :=
  match op with
  | .add => some (.int k (k.wrap (x + y)))
  | .sub => some (.int k (k.wrap (x - y)))
  | .mul => some (.int k (k.wrap (x * y)))
  | .quo => if y = 0 then none else some (.int k (k.wrap (x.tdiv y)))
  | .rem => if y = 0 then none else some (.int k (x.tmod y))
  | .and | .or | .xor | .andNot => (bits op k x y).map (.int k)
  | .eql => some (.bool (x == y))
  | .neq => some (.bool (x != y))
  | .lss => some (.bool (x < y))
  | .leq => some (.bool (x ≤ y))
  | .gtr => some (.bool (x > y))
  | .geq => some (.bool (x ≥ y))
  | .shl => if y < 0 then none else some (.int k (k.wrap (x * 2 ^ min y.toNat k.bits)))
  | .shr => if y < 0 then none else some (.int k (x.fdiv (2 ^ min y.toNat k.bits)))

def binStr (op : BinOp) (x y : List UInt8) : Option AV :=
  match op with
  | .add => if x.length + y.length ≤ 140737488355328 then some (.str (x ++ y)) else none
  | .eql => some (.bool (x == y))
  | .neq => some (.bool !(x == y))
  | .lss => some (.bool (Op.bytesLess x y))
  | .leq => some (.bool (Op.bytesLess x y || x == y))
  | .gtr => some (.bool !(Op.bytesLess x y || x == y))
  | .geq => some (.bool !(Op.bytesLess x y))
  | _ => none

/-- Is x the nil of y's kind? -/
def eqNil (d : Option TypeDesc) (x y : AV) (yconst : Bool) : Option Bool :=
  match d with
  | some (.pointer _) => match y with
    | .nilp => match x with | .nilp => some true | .rop _ => some false | _ => none
    | _ => none
  | some (.slice _) => match y with
    | .nils => match x with | .nils => some true | .sh .. => some false | _ => none
    | _ => none
  | some (.func _ _ _) => match y with
    | .nilf => match x with | .nilf => some true | .fn .. => some false | _ => none
    | _ => none
  | some (.map _ _) => match y with
    | .nilm => match x with | .nilm => some true | _ => none
    | _ => none
  | some (.interface _) => bif yconst then match y with
    | .nili => match x with | .nili => some true | .iface .. => some false | _ => none
    | _ => none else none
  | _ => none

/-- A pointer, a slice, a map of the small heap is none of the nils. -/
def eqNilH (d : Option TypeDesc) (x y : AV) (H : Heap) : Option Bool :=
  match d with
  | some (.pointer _) => match y with
    | .nilp => match x with | .ptr id ver _ _ => bif alive H id ver then some false else none | _ => none
    | _ => none
  | some (.slice _) => match y with
    | .nils => match x with | .sl id ver _ _ _ => bif alive H id ver then some false else none | _ => none
    | _ => none
  | some (.map _ _) => match y with
    | .nilm => match x with | .mp id => (match H[id]? with | some (.map _ _ _) => some false | _ => none) | _ => none
    | _ => none
  | _ => none

/-- '==' of a pointer with itself. -/
def eqPtr (P : Program) (d : Option TypeDesc) (x y : AV) (H : Heap) : Option Bool :=
  match d with
  | some (.pointer e) => match x with
    | .ptr id ver i off => match y with
      | .ptr id' ver' i' off' => bif alive H id ver && (P.info? e).isSome && Nat.beq id id' && Nat.beq ver ver' && Nat.beq i i' && Nat.beq off off' then some true else none
      | _ => none
    | _ => none
  | _ => none

/-- '==' of two of one plain kind. -/
def eqFlat (d : Option TypeDesc) (x y : AV) : Option Bool :=
  match d, x, y with
  | some (.int _), .int k a, .int k' b => bif decide (k = k') then some (a == b) else none
  | some .string, .str a, .str b => some (a == b)
  | some .bool, .bool a, .bool b => some (a == b)
  | _, _, _ => none

/-- '==' of structs of plain fields. -/
def eqFields (P : Program) : List Field → List AV → List AV → Option Bool
  | [], _, _ => some true
  | f :: fs, xs, ys => bif f.name == "_" then eqFields P fs xs ys else
    match xs[f.offset]?, ys[f.offset]? with
    | some x, some y => match eqFlat (P.underlying f.type) x y with
      | some true => eqFields P fs xs ys
      | some false => some false
      | none => none
    | _, _ => none

def bin (P : Program) (op : BinOp) (t : TypeId) (x y : AV) (yconst : Bool) (H : Heap) : Option AV :=
  match x, y with
  | .int k a, .int k' b =>
    match op with
    | .shl | .shr => binInt op k a b
    | _ => bif decide (k = k') then binInt op k a b else none
  | .str a, .str b => binStr op a b
  | .bool a, .bool b => match P.underlying t with
    | some .bool => match op with
      | .eql => some (.bool (a == b))
      | .neq => some (.bool !(a == b))
      | _ => none
    | _ => none
  | .agg xs, .agg ys => match P.underlying t with
    | some (.struct fs) => bif P.stoodInHeld t || P.eqGuardType P.depth t then none else match op with
      | .eql => (eqFields P fs.toList xs ys).map .bool
      | .neq => (eqFields P fs.toList xs ys).map fun b => .bool !b
      | _ => none
    | _ => none
  | x, y => match op with
    | .eql => match eqNil (P.underlying t) x y yconst with
      | some b => some (.bool b)
      | none => ((eqNilH (P.underlying t) x y H).or (eqPtr P (P.underlying t) x y H)).map .bool
    | .neq => match eqNil (P.underlying t) x y yconst with
      | some b => some (.bool !b)
      | none => ((eqNilH (P.underlying t) x y H).or (eqPtr P (P.underlying t) x y H)).map fun b => .bool !b
    | _ => none

def un (op : UnOp) (x : AV) : Option AV :=
  match op, x with
  | .neg, .int k n => some (.int k (k.wrap (0 - n)))
  | .xor, .int k n => (bits .xor k (if k.signed then -1 else k.max) n).map (.int k)
  | .not, .bool b => some (.bool !b)
  | _, _ => none

def maxv (x y : AV) : Option AV :=
  match x, y with
  | .int k a, .int k' b => bif decide (k = k') then some (.int k (if b > a then b else a)) else none
  | _, _ => none
def minv (x y : AV) : Option AV :=
  match x, y with
  | .int k a, .int k' b => bif decide (k = k') then some (.int k (if b < a then b else a)) else none
  | _, _ => none

def bound (i : Option AV) (d : Nat) : Option Nat :=
  match i with
  | none => some d
  | some (.int _ i) => if 0 ≤ i then some i.toNat else none
  | _ => none

/-- s[lo:hi], of a text -/
def sliceStr (x : AV) (lo hi : Option AV) : Option AV :=
  match x with
  | .str l => (bound lo 0).bind fun a => (bound hi l.length).bind fun b => if a ≤ b ∧ b ≤ l.length then some (.str ((l.drop a).take (b - a))) else none
  | _ => none

/-- x[lo:hi], x[lo:hi:max] -/
def slice (sz : Nat) (x : AV) (lo hi mx : Option AV) (H : Heap) : Option AV :=
  match x with
  | .nils => (bound lo 0).bind fun a => (bound hi 0).bind fun b => (bound mx 0).bind fun c => if a = 0 ∧ b = 0 ∧ c = 0 then some .nils else none
  | .sh z es => (bound lo 0).bind fun a => (bound hi es.length).bind fun b => (bound mx es.length).bind fun c =>
    if a ≤ b ∧ b ≤ c ∧ c ≤ es.length ∧ z = sz then some (.sh z ((es.drop a).take (b - a))) else none
  | .sl id ver off n cap => (bound lo 0).bind fun a => (bound hi n).bind fun b => (bound mx cap).bind fun c =>
    if a ≤ b ∧ b ≤ c ∧ c ≤ cap ∧ aliveZ H id ver sz = true then some (.sl id ver (off + a) (b - a) (c - a)) else none
  | _ => none

/-- What a slice's elements are just now. -/
def read (sz : Nat) (v : AV) (H : Heap) : Option (List AV) :=
  match v with
  | .nils => some []
  | .sh z es => if z = sz then some es else none
  | .sl id ver off n _ =>
    match H[id]? with
    | some (.row w z _ es) => if w = ver ∧ z = sz ∧ off + n ≤ es.length then some ((es.drop off).take n) else none
    | _ => none
  | _ => none

/-- Elements that are bytes. -/
def bytes8 : List AV → Option (List UInt8)
  | [] => some []
  | .int .u8 n :: r => bif decide (0 ≤ n) && decide (n < 256) then (match bytes8 r with | some l => some (n.toNat.toUInt8 :: l) | none => none) else none
  | _ :: _ => none

def runes32 : List AV → Option (List Int)
  | [] => some []
  | .int .i32 n :: r => (match runes32 r with | some l => some (n :: l) | none => none)
  | _ :: _ => none

/-- Is it a slice? -/
def isSl (d : AV) (H : Heap) : Bool :=
  match d with
  | .nils => true
  | .sl id ver _ _ _ => alive H id ver
  | _ => false

/-- Where a slice's elements begin. -/
def sliceData (s : AV) (H : Heap) : Option AV :=
  match s with
  | .nils => some .nilp
  | .sl id ver off n _ => bif alive H id ver && decide (0 < n) then some (.ptr id ver off 0) else none
  | _ => none

/-- A text made of a row's bytes: the row is written no more. -/
def unsafeStr (e : TypeId) (p n : AV) (H : Heap) : Option (AV × Heap) :=
  match n with
  | .int .i64 m => bif decide (m = 0) then (match p with | .nilp => some (.str [], H) | _ => none) else
    match p with
    | .ptr id ver i 0 => match H[id]? with
      | some (.row w sz ty es) => bif Nat.beq w ver && Nat.beq sz 1 && Nat.beq ty e && decide (0 < m) && decide (m ≤ 9223372036854775807) && decide (i + m.toNat ≤ es.length) then
        (match bytes8 ((es.drop i).take m.toNat) with | some l => some (.str l, H.set id .dead) | none => none) else none
      | _ => none
    | _ => none
  | _ => none

def strElems (l : List UInt8) : List AV := l.map fun b => .int .u8 b.toNat

def newRow (sz : Nat) (ty : TypeId) (es : List AV) (H : Heap) : AV × Heap :=
  (.sl H.length 0 0 es.length es.length, H ++ [.row 0 sz ty es])

/-- append(s, news...): bytes: of an element -/
def append (sz bytes : Nat) (ty : TypeId) (s : AV) (news : List AV) (H : Heap) : Option (AV × Heap) :=
  match s with
  | .nils => match news with
    | [] => some (.nils, H)
    | _ => if news.length * bytes ≤ 140737488355328 ∧ 0 < bytes then some (newRow sz ty news H) else none
  | .sl id ver off n cap =>
    match H[id]? with
    | some (.row w z t es) =>
      if w = ver ∧ z = sz ∧ t = ty ∧ off + n ≤ es.length ∧ n ≤ cap ∧ (n + news.length) * bytes ≤ 140737488355328 ∧ 0 < bytes then
        if n + news.length ≤ cap then
          some (.sl id ver off (n + news.length) cap, H.set id (.row w z t (splice es (off + n) news)))
        else
          some (.sl id (ver + 1) 0 (n + news.length) (n + news.length), H.set id (.row (ver + 1) z t ((es.drop off).take n ++ news)))
      else none
    | _ => none
  | _ => none

def clear (sz : Nat) (zero : AV) (d : AV) (H : Heap) : Option (AV × Heap) :=
  match d with
  | .nils => some (.tup [], H)
  | .sh _ [] => some (.tup [], H)
  | .sl id ver off n _ =>
    if n = 0 then (bif alive H id ver then some (.tup [], H) else none) else
    match H[id]? with
    | some (.row w z t es) =>
      if w = ver ∧ z = sz ∧ off + n ≤ es.length then
        some (.tup [], H.set id (.row w z t (splice es off (List.replicate n zero))))
      else none
    | _ => none
  | _ => none

def makeSlice (sz bytes : Nat) (ty : TypeId) (zero : AV) (l c : AV) (H : Heap) : Option (AV × Heap) :=
  match l, c with
  | .int .i64 l, .int .i64 c => if 0 ≤ l ∧ l ≤ c ∧ bytes * c ≤ 281474976710656 ∧ 0 < bytes then
      some (.sl H.length 0 0 l.toNat c.toNat, H ++ [.row 0 sz ty (List.replicate c.toNat zero)]) else none
  | _, _ => none

def newBox (sz : Nat) (ty : TypeId) (v : AV) (H : Heap) : AV × Heap :=
  (.ptr H.length 0 0 0, H ++ [.row 0 sz ty [v]])

/-- A struct or an array out of its parts, laid over zero cells: place and size of each. -/
def fill : List AV → List (Nat × Nat × AV) → Option (List AV)
  | cs, [] => some cs
  | cs, (off, size, v) :: rest => if v.cells.length = size ∧ off + size ≤ cs.length ∧ v.isDef = true then fill (splice cs off v.cells) rest else none

/-- A slice's elements out of parts. -/
def fillElems (sz : Nat) : List AV → List (Nat × Nat × AV) → Option (List AV)
  | es, [] => some es
  | es, (i, _, v) :: rest => if v.cells.length = sz ∧ i < es.length ∧ v.isDef = true then fillElems sz (es.set i v) rest else none

/-- The small heap's values become values of memory that does not change ('false': no memory may be in it that was there before). -/
def freezeB (b : Bool) : Nat → Heap → AV → Option AV
  | 0, _, _ => none
  | n + 1, H, v => match v with
    | .ptr id ver i off => match H[id]? with
      | some (.row w _ _ es) => bif w == ver then (es[i]?).bind fun e => ((e.cells.drop off).mapM (freezeB b n H)).map .rop else none
      | _ => none
    | .sl id ver off m _ => match H[id]? with
      | some (.row w z _ es) => if w = ver ∧ off + m ≤ es.length then (((es.drop off).take m).mapM fun (e : AV) => match e with
          | AV.agg cs => (cs.mapM (freezeB b n H)).map AV.agg
          | e => freezeB b n H e).map (.sh z) else none
      | _ => none
    | .agg cs => (cs.mapM (freezeB b n H)).map .agg
    | .tup cs => (cs.mapM (freezeB b n H)).map .tup
    | .fn f a c => (a.mapM (freezeB b n H)).bind fun a' => (c.mapM (freezeB b n H)).map fun c' => .fn f a' c'
    | .iface t x => (freezeB b n H x).map (.iface t)
    | .rop cs => bif b then some (.rop cs) else none
    | .sh z es => bif b then some (.sh z es) else none
    | .mp _ | .it _ | .undef => none
    | v => some v

end A

/-! ### are two values the same, sign by sign? -/
mutual
def AV.beq : AV → AV → Bool
  | .undef, .undef | .nilp, .nilp | .nils, .nils | .nilf, .nilf | .nili, .nili | .nilm, .nilm => true
  | .bool a, .bool b => a == b
  | .int k a, .int j b => decide (k = j) && decide (a = b)
  | .str a, .str b => decide (a = b)
  | .ptr a b c d, .ptr a' b' c' d' => decide (a = a') && decide (b = b') && decide (c = c') && decide (d = d')
  | .sl a b c d e, .sl a' b' c' d' e' => decide (a = a') && decide (b = b') && decide (c = c') && decide (d = d') && decide (e = e')
  | .rop a, .rop b => AV.beqs a b
  | .sh x a, .sh y b => decide (x = y) && AV.beqs a b
  | .agg a, .agg b => AV.beqs a b
  | .tup a, .tup b => AV.beqs a b
  | .fn f a b, .fn g c d => decide (f = g) && AV.beqs a c && AV.beqs b d
  | .iface t a, .iface u b => decide (t = u) && AV.beq a b
  | .mp a, .mp b => decide (a = b)
  | .it a, .it b => decide (a = b)
  | _, _ => false
def AV.beqs : List AV → List AV → Bool
  | [], [] => true
  | a :: x, b :: y => AV.beq a b && AV.beqs x y
  | _, _ => false
end

def A.loadIs (agg : Bool) (size : Nat) (p : AV) (v : AV) (H : Heap) : Bool :=
  match A.load agg size p H with
  | some w => AV.beq v w
  | none => false

end Go.Den
