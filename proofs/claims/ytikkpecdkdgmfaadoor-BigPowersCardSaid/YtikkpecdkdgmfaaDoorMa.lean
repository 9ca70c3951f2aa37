/- Texts put together: DenA, DenB, DenC, DenD, DenE, DenF, DenG, DenH. -/
import GoSem.Dispatch
import GoSem.Core.Code
import GoSem.Core.Layout
import Derived.WalkKit
import Derived.LaidEql

/- DEN, part A: abstract values, slots, the small heap, and what the operations do to them: a deterministic reading of the loaded code on pure values. Nothing is proved here. -/
namespace Go.Den
inductive AV where
  | undef
  | bool (b : Bool)
  | int (k : IntKind) (n : Int)
  | str (s : List UInt8)
  | nilp
  | ptr (id ver i off : Nat)
  | rop (cells : List AV)
  | nils
  | sh (sz : Nat) (elems : List AV)
  | sl (id ver off n cap : Nat)
  | nilf
  | fn (f : Fn) (first captured : List AV)
  | nili
  | iface (t : TypeId) (v : AV)
  | agg (cells : List AV)
  | tup (vs : List AV)
  | nilm
  | mp (id : Nat)
  | it (id : Nat)
  | yl (id : Nat)
  | lit (sz : Nat) (elems : List AV)
  deriving Inhabited
def AV.cells : AV → List AV
  | .agg cs => cs
  | v => [v]
def AV.one : AV → Bool
  | .agg _ | .tup _ | .undef => false
  | _ => true
def AV.isDef : AV → Bool
  | .undef | .tup _ => false
  | _ => true
def AV.flat0 : AV → Bool
  | .bool _ | .int _ _ | .str _ | .nilp | .nils | .nilf | .nili | .nilm | .undef => true
  | _ => false
def AV.flat : AV → Bool
  | .tup vs | .agg vs => vs.all AV.flat0
  | v => v.flat0
def AV.leaf : AV → Bool
  | .bool _ | .int _ _ | .str _ | .nilp | .nils | .nilf | .nili | .nilm | .rop _ | .sh _ _ | .lit _ _ => true
  | _ => false
def AV.imm1 : AV → Bool
  | .agg cs => cs.all AV.leaf
  | .tup cs => cs.all AV.leaf
  | .fn _ a b => a.all AV.leaf && b.all AV.leaf
  | v => v.leaf
def AV.imm : AV → Bool
  | .tup cs => cs.all AV.imm1
  | v => v.imm1
inductive SV where
  | val (v : AV)
  | lp (site off : Nat)
  | no
  deriving Inhabited
inductive Tr (α : Type) where
  | lf
  | nd (l : Tr α) (v : α) (r : Tr α)
namespace Tr
variable {α : Type}
def full (z : α) : Nat → Tr α
  | 0 => .lf
  | d + 1 => .nd (full z d) z (full z d)
def get (z : α) : Tr α → Nat → α
  | .lf, _ => z
  | .nd l v r, n => bif Nat.beq n 0 then v else bif Nat.beq (n % 2) 1 then get z l (n / 2) else get z r (n / 2 - 1)
def set : Tr α → Nat → α → Tr α
  | .lf, _, _ => .lf
  | .nd l v r, n, x => bif Nat.beq n 0 then .nd l x r else bif Nat.beq (n % 2) 1 then .nd (set l (n / 2) x) v r else .nd l v (set r (n / 2 - 1) x)
def map {β : Type} (f : α → β) : Tr α → Tr β
  | .lf => .lf
  | .nd l v r => .nd (map f l) (f v) (map f r)
def mk (z : α) (d : Nat) (l : List (Nat × α)) : Tr α := l.foldl (fun t p => t.set p.1 p.2) (full z d)
end Tr
structure St where
  slots : Tr SV
  L : Tr (Option (List AV))
  N : Nat
inductive AExit where
  | normal
  | exit (id : Nat)
  | ret
structure LK where
  d : Nat
  vals : List Nat
  lps : List (Nat × Nat × Nat)
  vars : List Nat
structure Live where
  vs : List AV
  cs : List (List AV)
inductive Ann where
  | nil
  | two (a b : Ann)
  | one (a : Ann)
  | keep (k : LK) (outs : List AExit) (a : Ann)      -- kept where the piece is left, by one of these ways
  | lp (k : LK) (a : Ann)        -- kept at a loop's head
structure DInfo where
  before : List Nat
  wins : List (Nat × Nat × Nat)
  swap : Option (Nat × Nat) := none
structure FAnn where
  ann : Ann := .nil
  depth : Nat := 6
  sites : List (Nat × Nat × Nat) := []          -- region, operation: the place
  draws : List (Nat × DInfo) := []
structure LoopD where
  st : St
  fa : FAnn
  ps : List Nat
  assign : Code
  body : Code
  an : Ann
  state : Nat
  pending : Option AExit
inductive HObj where
  | row (ver : Nat) (sz : Nat) (ty : TypeId) (elems : List AV)
  | iter (s : List UInt8) (pos : Nat)
  | map (kt et : TypeId) (entries : List (AV × AV))
  | loop (L : LoopD)
  | dead
  deriving Inhabited
abbrev Heap := List HObj
def HObj.kd : HObj → Nat
  | .row .. => 0
  | .iter .. => 1
  | .map .. => 2
  | .loop _ => 3
  | .dead => 4
def HObj.oth : HObj → Bool
  | .row .. | .dead => false
  | _ => true
inductive Pol where
  | plain
  | prim (F : List AV → Heap → Option (AV × Heap))
  | still (F : List AV → Option AV)
structure Env where
  P : Program
  pol : FuncId → Pol
  ann : FuncId → FAnn
  glob : Nat → Option (List AV)
def St.get (st : St) (t : Nat) : SV := st.slots.get .no t
def St.put (st : St) (t : Nat) (x : SV) : St := { st with slots := st.slots.set t x }
def St.var (st : St) (s : Nat) : Option (List AV) := st.L.get none s
def St.setVar (st : St) (s : Nat) (cs : List AV) : St := { st with L := st.L.set s (some cs) }
def SV.kept (L : Tr (Option (List AV))) (x : SV) : SV :=
  match x with
  | .lp s off => match L.get none s with
    | some _ => .lp s off
    | none => .no
  | x => x
def valOf : SV → AV
  | .val v => v
  | _ => .undef
def lpsOk (st : St) : List (Nat × Nat × Nat) → Bool
  | [] => true
  | (t, s, o) :: r => (match st.get t with | .lp s' o' => Nat.beq s s' && Nat.beq o o' | _ => false) && lpsOk st r
def varsOf (st : St) : List Nat → Option (List (List AV))
  | [] => some []
  | s :: r => match st.var s with
    | some cs => match varsOf st r with
      | some l => some (cs :: l)
      | none => none
    | none => none
def St.live (st : St) (k : LK) : Option Live :=
  bif lpsOk st k.lps then (match varsOf st k.vars with | some cs => some ⟨k.vals.map fun i => valOf (st.get i), cs⟩ | none => none) else none
def q78 (vs : List AV) : List Nat → Nat → List (Nat × SV)
  | [], _ => []
  | i :: r, j => (i, .val (vs.getD j .undef)) :: q78 vs r (j + 1)
def q79 (cs : List (List AV)) : List Nat → Nat → List (Nat × Option (List AV))
  | [], _ => []
  | i :: r, j => (i, some (cs.getD j [])) :: q79 cs r (j + 1)
def LK.L (k : LK) (l : Live) : Tr (Option (List AV)) := Tr.mk none k.d (q79 l.cs k.vars 0)
def St.ofLive (k : LK) (N : Nat) (l : Live) : St :=
  { slots := Tr.mk .no k.d (q78 l.vs k.vals 0 ++ k.lps.map fun p => (p.1, (SV.lp p.2.1 p.2.2).kept (k.L l))), L := k.L l, N }
/-! ### values of the text -/
def q21 : Nat → Value → Option AV
  | 0, _ => none
  | n + 1, v => match v with
    | .bool b => some (.bool b)
    | .int k i => some (.int k i)
    | .string s => some (.str s.data.toList)
    | .pointer none => some .nilp
    | .slice none 0 0 => some .nils
    | .map none => some .nilm
    | .nilFunc => some .nilf
    | .nilIface => some .nili
    | .agg cs => match cs.toList.mapM (q21 n) with
      | some vs => bif vs.all AV.one then some (.agg vs) else none
      | none => none
    | _ => none
def Env.zero (E : Env) (t : TypeId) : Option AV := ((E.P.info? t).bind (·.zero)).bind (q21 3)
def Env.size (E : Env) (t : TypeId) : Option Nat := (E.P.info? t).map (·.size)
def Env.bytes (E : Env) (t : TypeId) : Option Nat := (E.P.info? t).map (·.bytes)
def Env.elem (E : Env) (t : TypeId) : Option TypeId := match E.P.underlying t with | some (.slice e) => some e | _ => none
def Env.isAgg (E : Env) (t : TypeId) : Option Bool := (E.P.underlying t).map fun | .struct _ | .array _ _ => true | _ => false
def Env.fieldOf (E : Env) (s : TypeId) (i : Nat) : Option Field := match E.P.underlying s with | some (.struct fs) => fs[i]? | _ => none
def St.eval (E : Env) (st : St) : Operand → Option AV
  | .tmp t => match st.get t with | .val v => some v | _ => none
  | .const v => q21 3 v
  | .func f => some (.fn (.func f) [] [])
  | .global g => (E.glob g).map .rop
/-! ### what the operations do -/
namespace A
def ofList (agg : Bool) (size : Nat) (cs : List AV) (off : Nat) : Option AV :=
  bif agg then (if off + size ≤ cs.length then some (.agg ((cs.drop off).take size)) else none) else cs[off]?
def splice (cs : List AV) (off : Nat) (vs : List AV) : List AV := cs.take off ++ vs ++ cs.drop (off + vs.length)
def fits (size : Nat) (v : AV) : Bool := v.cells.length == size && v.cells.all AV.one
def asB : AV → Option Bool
  | .bool b => some b
  | _ => none
def asG (want : Bool) : AV → Option Bool
  | .bool b => some b
  | .tup [] => some (!want)
  | _ => none
def test {R : Type} (v : AV) (t e : Option R) : Option R :=
  match v with
  | .bool b => bif b then t else e
  | _ => none
def pick (c a b : AV) : Option AV :=
  match c with
  | .bool x => some (bif x then a else b)
  | _ => none
def alive (H : Heap) (id ver : Nat) : Bool :=
  match H[id]? with
  | some (.row v _ _ _) => v == ver
  | _ => false
def aliveZ (H : Heap) (id ver sz : Nat) : Bool :=
  match H[id]? with
  | some (.row v z _ _) => v == ver && z == sz
  | _ => false
def elemAt (H : Heap) (id ver i : Nat) : Option AV :=
  match H[id]? with
  | some (.row v _ _ es) => bif v == ver then es[i]? else none
  | _ => none
def load (agg : Bool) (size : Nat) (p : AV) (H : Heap) : Option AV :=
  match p with
  | .rop cs => ofList agg size cs 0
  | .ptr id ver i off => (elemAt H id ver i).bind fun e => ofList agg size e.cells off
  | _ => none
def setElem (e : AV) (off : Nat) (v : AV) : Option AV :=
  match e with
  | .agg cs => if off + v.cells.length ≤ cs.length then some (.agg (splice cs off v.cells)) else none
  | .undef | .tup _ => none
  | _ => match v with
    | .agg _ => none
    | _ => if off = 0 then some v else none
def store (size : Nat) (p v : AV) (H : Heap) : Option Heap :=
  match p with
  | .ptr id ver i off =>
    bif fits size v then
      match H[id]? with
      | some (.row w sz ty es) =>
        bif w == ver then (es[i]?).bind fun e => (setElem e off v).map fun e' => H.set id (.row w sz ty (es.set i e')) else none
      | _ => none
    else none
  | _ => none
def fa (off : Nat) (p : AV) (H : Heap) : Option AV :=
  match p with
  | .rop cs => some (.rop (cs.drop off))
  | .ptr id ver i o => bif alive H id ver then some (.ptr id ver i (o + off)) else none
  | _ => none
def nilCheck (p : AV) (H : Heap) : Option AV :=
  match p with
  | .rop cs => some (.rop cs)
  | .ptr id ver i o => bif alive H id ver then some (.ptr id ver i o) else none
  | .fn (.func f) a b => some (.fn (.func f) a b)
  | _ => none
def idx (sz : Nat) (s i : AV) (H : Heap) : Option AV :=
  match s, i with
  | .sh z es, .int _ i => if 0 ≤ i ∧ i < es.length ∧ z = sz then (es[i.toNat]?).map fun e => .rop e.cells else none
  | .sl id ver off n _, .int _ i => if 0 ≤ i ∧ i < n ∧ aliveZ H id ver sz = true then some (.ptr id ver (off + i.toNat) 0) else none
  | _, _ => none
def idxArr (sz len : Nat) (p i : AV) (H : Heap) : Option AV :=
  match i with
  | .int _ i => if 0 ≤ i ∧ i < len then fa (i.toNat * sz) p H else none
  | _ => none
def index (s i : AV) : Option AV :=
  match s, i with
  | .str l, .int _ i => if 0 ≤ i then (l[i.toNat]?).map fun b => .int .u8 b.toNat else none
  | _, _ => none
def indexArr (agg : Bool) (sz len : Nat) (a i : AV) : Option AV :=
  match a, i with
  | .agg cs, .int _ i => if 0 ≤ i ∧ i < len then ofList agg sz cs (i.toNat * sz) else none
  | _, _ => none
def field (agg : Bool) (sz off : Nat) (a : AV) : Option AV :=
  match a with
  | .agg cs => ofList agg sz cs off
  | _ => none
def len (v : AV) (H : Heap) : Option AV :=
  match v with
  | .nils => some (.int .i64 0)
  | .sh _ es => some (.int .i64 es.length)
  | .sl id ver _ n _ => bif alive H id ver then some (.int .i64 n) else none
  | _ => none
def lenStr (v : AV) : Option AV :=
  match v with
  | .str l => some (.int .i64 l.length)
  | _ => none
def lenMap (v : AV) (H : Heap) : Option AV :=
  match v with
  | .nilm => some (.int .i64 0)
  | .mp id => match H[id]? with
    | some (.map _ _ es) => some (.int .i64 es.length)
    | _ => none
  | _ => none
def bits (op : BinOp) (k : IntKind) (x y : Int) : Option Int :=
  let a := BitVec.ofInt k.bits x
  let b := BitVec.ofInt k.bits y
  match op with
  | .and => some (k.wrap (a &&& b).toNat)
  | .or => some (k.wrap (a ||| b).toNat)
  | .xor => some (k.wrap (a ^^^ b).toNat)
  | .andNot => some (k.wrap (a &&& ~~~b).toNat)
  | _ => none
def binInt (op : BinOp) (k : IntKind) (x y : Int) : Option AV :=
  match op with
  | .add => some (.int k (k.wrap (x + y)))
  | .sub => some (.int k (k.wrap (x - y)))
  | .mul => some (.int k (k.wrap (x * y)))
  | .quo => if y = 0 then none else some (.int k (k.wrap (x.tdiv y)))
  | .rem => if y = 0 then none else some (.int k (x.tmod y))
  | .and | .or | .xor | .andNot => (bits op k x y).map (.int k)
  | .eql => some (.bool (x == y))
  | .neq => some (.bool (x != y))
  | .lss => some (.bool (x < y))
  | .leq => some (.bool (x ≤ y))
  | .gtr => some (.bool (x > y))
  | .geq => some (.bool (x ≥ y))
  | .shl => if y < 0 then none else some (.int k (k.wrap (x * 2 ^ min y.toNat k.bits)))
  | .shr => if y < 0 then none else some (.int k (x.fdiv (2 ^ min y.toNat k.bits)))
def binStr (op : BinOp) (x y : List UInt8) : Option AV :=
  match op with
  | .add => if x.length + y.length ≤ 140737488355328 then some (.str (x ++ y)) else none
  | .eql => some (.bool (x == y))
  | .neq => some (.bool !(x == y))
  | .lss => some (.bool (Op.bytesLess x y))
  | .leq => some (.bool (Op.bytesLess x y || x == y))
  | .gtr => some (.bool !(Op.bytesLess x y || x == y))
  | .geq => some (.bool !(Op.bytesLess x y))
  | _ => none
def eqNil (d : Option TypeDesc) (x y : AV) (yconst : Bool) : Option Bool :=
  match d with
  | some (.pointer _) => match y with
    | .nilp => match x with | .nilp => some true | .rop _ => some false | _ => none
    | _ => none
  | some (.slice _) => match y with
    | .nils => match x with | .nils => some true | .sh .. => some false | _ => none
    | _ => none
  | some (.func _ _ _) => match y with
    | .nilf => match x with | .nilf => some true | .fn .. => some false | _ => none
    | _ => none
  | some (.map _ _) => match y with
    | .nilm => match x with | .nilm => some true | _ => none
    | _ => none
  | some (.interface _) => bif yconst then match y with
    | .nili => match x with | .nili => some true | .iface .. => some false | _ => none
    | _ => none else none
  | _ => none
def eqNilH (d : Option TypeDesc) (x y : AV) (H : Heap) : Option Bool :=
  match d with
  | some (.pointer _) => match y with
    | .nilp => match x with | .ptr id ver _ _ => bif alive H id ver then some false else none | _ => none
    | _ => none
  | some (.slice _) => match y with
    | .nils => match x with | .sl id ver _ _ _ => bif alive H id ver then some false else none | _ => none
    | _ => none
  | some (.map _ _) => match y with
    | .nilm => match x with | .mp id => (match H[id]? with | some (.map _ _ _) => some false | _ => none) | _ => none
    | _ => none
  | _ => none
def eqPtr (P : Program) (d : Option TypeDesc) (x y : AV) (H : Heap) : Option Bool :=
  match d with
  | some (.pointer e) => match x with
    | .ptr id ver i off => match y with
      | .ptr id' ver' i' off' => bif alive H id ver && (P.info? e).isSome && Nat.beq id id' && Nat.beq ver ver' && Nat.beq i i' && Nat.beq off off' then some true else none
      | _ => none
    | _ => none
  | _ => none
def eqFlat (d : Option TypeDesc) (x y : AV) : Option Bool :=
  match d, x, y with
  | some (.int _), .int k a, .int k' b => bif decide (k = k') then some (a == b) else none
  | some .string, .str a, .str b => some (a == b)
  | some .bool, .bool a, .bool b => some (a == b)
  | _, _, _ => none
def eqFields (P : Program) : List Field → List AV → List AV → Option Bool
  | [], _, _ => some true
  | f :: fs, xs, ys => bif f.name == "_" then eqFields P fs xs ys else
    match xs[f.offset]?, ys[f.offset]? with
    | some x, some y => match eqFlat (P.underlying f.type) x y with
      | some true => eqFields P fs xs ys
      | some false => some false
      | none => none
    | _, _ => none
def keyOk (d : Option TypeDesc) (x : AV) : Bool :=
  match d, x with
  | some (.int _), .int _ _ => true
  | some .string, .str _ => true
  | some .bool, .bool _ => true
  | _, _ => false
def find (d : Option TypeDesc) (x : AV) : List (AV × AV) → Nat → Option (Option (Nat × AV))
  | [], _ => some none
  | (k, v) :: r, i => match eqFlat d x k with
    | some true => some (some (i, v))
    | some false => find d x r (i + 1)
    | none => none
def entries (x : AV) (H : Heap) : Option (List (AV × AV)) :=
  match x with
  | .nilm => some []
  | .mp id => match H[id]? with
    | some (.map _ _ es) => some es
    | _ => none
  | _ => none
def lookup (d : Option TypeDesc) (ok : Bool) (z x : AV) (es : List (AV × AV)) : Option AV :=
  bif keyOk d x then match find d x es 0 with
    | some (some (_, v)) => some (bif ok then .tup [v, .bool true] else v)
    | some none => some (bif ok then .tup [z, .bool false] else z)
    | none => none
  else none
def update (d : Option TypeDesc) (x v : AV) (es : List (AV × AV)) : Option (List (AV × AV)) :=
  bif keyOk d x then match find d x es 0 with
    | some (some (i, _)) => some (es.set i (x, v))
    | some none => some (es ++ [(x, v)])
    | none => none
  else none
def entry (d : Option TypeDesc) (z x : AV) (es : List (AV × AV)) : Option (AV × List (AV × AV)) :=
  bif keyOk d x then match find d x es 0 with
    | some (some (i, v)) => some (.tup [v, .int .i64 i], es.set i (x, v))
    | some none => some (.tup [z, .int .i64 es.length], es ++ [(x, z)])
    | none => none
  else none
def entrySet (s v : AV) (es : List (AV × AV)) : Option (List (AV × AV)) :=
  match s with
  | .int _ i => if 0 ≤ i then match es[i.toNat]? with
    | some (k, _) => some (es.set i.toNat (k, v))
    | none => none else none
  | _ => none
def bin (P : Program) (op : BinOp) (t : TypeId) (x y : AV) (yconst : Bool) (H : Heap) : Option AV :=
  match x, y with
  | .int k a, .int k' b =>
    match op with
    | .shl | .shr => binInt op k a b
    | _ => bif decide (k = k') then binInt op k a b else none
  | .str a, .str b => binStr op a b
  | .bool a, .bool b => match P.underlying t with
    | some .bool => match op with
      | .eql => some (.bool (a == b))
      | .neq => some (.bool !(a == b))
      | _ => none
    | _ => none
  | .agg xs, .agg ys => match P.underlying t with
    | some (.struct fs) => bif P.stoodInHeld t || P.eqGuardType P.depth t then none else match op with
      | .eql => (eqFields P fs.toList xs ys).map .bool
      | .neq => (eqFields P fs.toList xs ys).map fun b => .bool !b
      | _ => none
    | _ => none
  | x, y => match op with
    | .eql => match eqNil (P.underlying t) x y yconst with
      | some b => some (.bool b)
      | none => ((eqNilH (P.underlying t) x y H).or (eqPtr P (P.underlying t) x y H)).map .bool
    | .neq => match eqNil (P.underlying t) x y yconst with
      | some b => some (.bool !b)
      | none => ((eqNilH (P.underlying t) x y H).or (eqPtr P (P.underlying t) x y H)).map fun b => .bool !b
    | _ => none
def un (op : UnOp) (x : AV) : Option AV :=
  match op, x with
  | .neg, .int k n => some (.int k (k.wrap (0 - n)))
  | .xor, .int k n => (bits .xor k (if k.signed then -1 else k.max) n).map (.int k)
  | .not, .bool b => some (.bool !b)
  | _, _ => none
def maxv (x y : AV) : Option AV :=
  match x, y with
  | .int k a, .int k' b => bif decide (k = k') then some (.int k (if b > a then b else a)) else none
  | _, _ => none
def minv (x y : AV) : Option AV :=
  match x, y with
  | .int k a, .int k' b => bif decide (k = k') then some (.int k (if b < a then b else a)) else none
  | _, _ => none
def bound (i : Option AV) (d : Nat) : Option Nat :=
  match i with
  | none => some d
  | some (.int _ i) => if 0 ≤ i then some i.toNat else none
  | _ => none
def sliceStr (x : AV) (lo hi : Option AV) : Option AV :=
  match x with
  | .str l => (bound lo 0).bind fun a => (bound hi l.length).bind fun b => if a ≤ b ∧ b ≤ l.length then some (.str ((l.drop a).take (b - a))) else none
  | _ => none
def slice (sz : Nat) (x : AV) (lo hi mx : Option AV) (H : Heap) : Option AV :=
  match x with
  | .nils => (bound lo 0).bind fun a => (bound hi 0).bind fun b => (bound mx 0).bind fun c => if a = 0 ∧ b = 0 ∧ c = 0 then some .nils else none
  | .sh z es => (bound lo 0).bind fun a => (bound hi es.length).bind fun b => (bound mx es.length).bind fun c =>
    if a ≤ b ∧ b ≤ c ∧ c ≤ es.length ∧ z = sz then some (.sh z ((es.drop a).take (b - a))) else none
  | .sl id ver off n cap => (bound lo 0).bind fun a => (bound hi n).bind fun b => (bound mx cap).bind fun c =>
    if a ≤ b ∧ b ≤ c ∧ c ≤ cap ∧ aliveZ H id ver sz = true then some (.sl id ver (off + a) (b - a) (c - a)) else none
  | _ => none
def sliceArr (n : Nat) (x : AV) (lo hi : Option AV) (H : Heap) : Option (AV × Heap) :=
  match x with
  | .ptr id ver 0 0 => match H[id]? with
    | some (.row w sz ty (.agg cs :: _)) => (bound lo 0).bind fun a => (bound hi n).bind fun b =>
      if w = ver ∧ sz = n ∧ a ≤ b ∧ b ≤ n ∧ n ≤ 1000000 ∧ 0 < n then some (.sl H.length 0 a (b - a) (n - a), H.set id .dead ++ [.row 0 1 ty cs]) else none
    | _ => none
  | _ => none
def chunks (sz : Nat) : Nat → List AV → List AV
  | 0, _ => []
  | n + 1, cs => .agg (cs.take sz) :: chunks sz n (cs.drop sz)
def sliceRop (sz n : Nat) (x : AV) (lo hi : Option AV) : Option AV :=
  match x with
  | .rop cs => (bound lo 0).bind fun a => (bound hi n).bind fun b =>
    if a ≤ b ∧ b ≤ n ∧ n ≤ 1000000 ∧ 0 < sz ∧ n * sz ≤ cs.length then some (.sh sz (chunks sz (b - a) (cs.drop (a * sz)))) else none
  | _ => none
def read (sz : Nat) (v : AV) (H : Heap) : Option (List AV) :=
  match v with
  | .nils => some []
  | .sh z es => if z = sz then some es else none
  | .sl id ver off n _ =>
    match H[id]? with
    | some (.row w z _ es) => if w = ver ∧ z = sz ∧ off + n ≤ es.length then some ((es.drop off).take n) else none
    | _ => none
  | _ => none
def bytes8 : List AV → Option (List UInt8)
  | [] => some []
  | .int .u8 n :: r => bif decide (0 ≤ n) && decide (n < 256) then (match bytes8 r with | some l => some (n.toNat.toUInt8 :: l) | none => none) else none
  | _ :: _ => none
def runes32 : List AV → Option (List Int)
  | [] => some []
  | .int .i32 n :: r => (match runes32 r with | some l => some (n :: l) | none => none)
  | _ :: _ => none
def isSl (d : AV) (H : Heap) : Bool :=
  match d with
  | .nils => true
  | .sl id ver _ _ _ => alive H id ver
  | _ => false
def sliceData (s : AV) (H : Heap) : Option AV :=
  match s with
  | .nils => some .nilp
  | .sl id ver off n _ => bif alive H id ver && decide (0 < n) then some (.ptr id ver off 0) else none
  | _ => none
def unsafeStr (e : TypeId) (p n : AV) (H : Heap) : Option (AV × Heap) :=
  match n with
  | .int .i64 m => bif decide (m = 0) then (match p with | .nilp => some (.str [], H) | _ => none) else
    match p with
    | .ptr id ver i 0 => match H[id]? with
      | some (.row w sz ty es) => bif Nat.beq w ver && Nat.beq sz 1 && Nat.beq ty e && decide (0 < m) && decide (m ≤ 9223372036854775807) && decide (i + m.toNat ≤ es.length) then
        (match bytes8 ((es.drop i).take m.toNat) with | some l => some (.str l, H.set id .dead) | none => none) else none
      | _ => none
    | _ => none
  | _ => none
def strElems (l : List UInt8) : List AV := l.map fun b => .int .u8 b.toNat
def newRow (sz : Nat) (ty : TypeId) (es : List AV) (H : Heap) : AV × Heap :=
  (.sl H.length 0 0 es.length es.length, H ++ [.row 0 sz ty es])
def append (sz bytes : Nat) (ty : TypeId) (s : AV) (news : List AV) (H : Heap) : Option (AV × Heap) :=
  match s with
  | .nils => match news with
    | [] => some (.nils, H)
    | _ => if news.length * bytes ≤ 140737488355328 ∧ 0 < bytes then some (newRow sz ty news H) else none
  | .sl id ver off n cap =>
    match H[id]? with
    | some (.row w z t es) =>
      if w = ver ∧ z = sz ∧ t = ty ∧ off + n ≤ es.length ∧ n ≤ cap ∧ (n + news.length) * bytes ≤ 140737488355328 ∧ 0 < bytes then
        if n + news.length ≤ cap then
          some (.sl id ver off (n + news.length) cap, H.set id (.row w z t (splice es (off + n) news)))
        else
          some (.sl id (ver + 1) 0 (n + news.length) (n + news.length), H.set id (.row (ver + 1) z t ((es.drop off).take n ++ news)))
      else none
    | _ => none
  | .lit z es => match news with
    | [] => some (.sh z es, H)
    | _ => if z = sz ∧ (es.length + news.length) * bytes ≤ 140737488355328 ∧ 0 < bytes then some (newRow sz ty (es ++ news) H) else none
  | _ => none
def clear (sz : Nat) (zero : AV) (d : AV) (H : Heap) : Option (AV × Heap) :=
  match d with
  | .nils => some (.tup [], H)
  | .sh _ [] => some (.tup [], H)
  | .sl id ver off n _ =>
    if n = 0 then (bif alive H id ver then some (.tup [], H) else none) else
    match H[id]? with
    | some (.row w z t es) =>
      if w = ver ∧ z = sz ∧ off + n ≤ es.length then
        some (.tup [], H.set id (.row w z t (splice es off (List.replicate n zero))))
      else none
    | _ => none
  | _ => none
def makeSlice (sz bytes : Nat) (ty : TypeId) (zero : AV) (l c : AV) (H : Heap) : Option (AV × Heap) :=
  match l, c with
  | .int .i64 l, .int .i64 c => if 0 ≤ l ∧ l ≤ c ∧ bytes * c ≤ 281474976710656 ∧ 0 < bytes then
      some (.sl H.length 0 0 l.toNat c.toNat, H ++ [.row 0 sz ty (List.replicate c.toNat zero)]) else none
  | _, _ => none
def newBox (sz : Nat) (ty : TypeId) (v : AV) (H : Heap) : AV × Heap :=
  (.ptr H.length 0 0 0, H ++ [.row 0 sz ty [v]])
def fill : List AV → List (Nat × Nat × AV) → Option (List AV)
  | cs, [] => some cs
  | cs, (off, size, v) :: rest => if v.cells.length = size ∧ off + size ≤ cs.length ∧ v.isDef = true then fill (splice cs off v.cells) rest else none
def fillElems (sz : Nat) : List AV → List (Nat × Nat × AV) → Option (List AV)
  | es, [] => some es
  | es, (i, _, v) :: rest => if v.cells.length = sz ∧ i < es.length ∧ v.isDef = true then fillElems sz (es.set i v) rest else none
def freezeB (b : Bool) : Nat → Heap → AV → Option AV
  | 0, _, _ => none
  | n + 1, H, v => match v with
    | .ptr id ver i off => match H[id]? with
      | some (.row w _ _ es) => bif w == ver then (es[i]?).bind fun e => ((e.cells.drop off).mapM (freezeB b n H)).map .rop else none
      | _ => none
    | .sl id ver off m _ => match H[id]? with
      | some (.row w z _ es) => if w = ver ∧ off + m ≤ es.length then (((es.drop off).take m).mapM fun (e : AV) => match e with
          | AV.agg cs => (cs.mapM (freezeB b n H)).map AV.agg
          | e => freezeB b n H e).map (.sh z) else none
      | _ => none
    | .agg cs => (cs.mapM (freezeB b n H)).map .agg
    | .tup cs => (cs.mapM (freezeB b n H)).map .tup
    | .fn f a c => (a.mapM (freezeB b n H)).bind fun a' => (c.mapM (freezeB b n H)).map fun c' => .fn f a' c'
    | .iface t x => (freezeB b n H x).map (.iface t)
    | .rop cs => bif b then some (.rop cs) else none
    | .sh z es => bif b then some (.sh z es) else none
    | .lit z es => bif b then some (.lit z es) else none
    | .mp _ | .it _ | .yl _ | .undef => none
    | v => some v
end A
/-! ### are two values the same, sign by sign? -/
mutual
def AV.beq : AV → AV → Bool
  | .undef, .undef | .nilp, .nilp | .nils, .nils | .nilf, .nilf | .nili, .nili | .nilm, .nilm => true
  | .bool a, .bool b => a == b
  | .int k a, .int j b => decide (k = j) && decide (a = b)
  | .str a, .str b => decide (a = b)
  | .ptr a b c d, .ptr a' b' c' d' => decide (a = a') && decide (b = b') && decide (c = c') && decide (d = d')
  | .sl a b c d e, .sl a' b' c' d' e' => decide (a = a') && decide (b = b') && decide (c = c') && decide (d = d') && decide (e = e')
  | .rop a, .rop b => AV.beqs a b
  | .sh x a, .sh y b => decide (x = y) && AV.beqs a b
  | .lit x a, .lit y b => decide (x = y) && AV.beqs a b
  | .agg a, .agg b => AV.beqs a b
  | .tup a, .tup b => AV.beqs a b
  | .fn f a b, .fn g c d => decide (f = g) && AV.beqs a c && AV.beqs b d
  | .iface t a, .iface u b => decide (t = u) && AV.beq a b
  | .mp a, .mp b => decide (a = b)
  | .it a, .it b => decide (a = b)
  | .yl a, .yl b => decide (a = b)
  | _, _ => false
def AV.beqs : List AV → List AV → Bool
  | [], [] => true
  | a :: x, b :: y => AV.beq a b && AV.beqs x y
  | _, _ => false
end
def A.loadIs (agg : Bool) (size : Nat) (p : AV) (v : AV) (H : Heap) : Bool :=
  match A.load agg size p H with
  | some w => AV.beq v w
  | none => false
end Go.Den

/- DEN, part B: the deterministic reading of the loaded code: operations, regions, control, calls. Nothing is proved here. -/
namespace Go.Den
abbrev CallFn := (R : Type) → FuncId → List AV → Heap → (AV → Heap → Option R) → Option R
def withV {R : Type} (x : Option AV) (k : AV → Option R) : Option R :=
  match x with
  | some v => k v
  | none => none
def evals (E : Env) (st : St) : List Operand → Option (List AV)
  | [] => some []
  | x :: xs => match st.eval E x with
    | some v => match evals E st xs with
      | some vs => some (v :: vs)
      | none => none
    | none => none
def parts (E : Env) (st : St) (place : Nat → Option (Nat × Nat)) : List (Nat × Operand) → Option (List (Nat × Nat × AV))
  | [] => some []
  | (i, x) :: ps => match place i, st.eval E x with
    | some (off, sz), some v => match parts E st place ps with
      | some r => some ((off, sz, v) :: r)
      | none => none
    | _, _ => none
def q31 (E : Env) : List Field → Option (List (Nat × Nat))
  | [] => some []
  | f :: fs => match E.size f.type with
    | some s => match q31 E fs with
      | some r => some ((f.offset, s) :: r)
      | none => none
    | none => none
def places (E : Env) (t : TypeId) : Option (Nat → Option (Nat × Nat)) :=
  match E.P.underlying t with
  | some (.struct fs) => match q31 E fs.toList with
    | some l => some fun i => l[i]?
    | none => none
  | some (.array _ e) => match E.size e with
    | some s => some fun i => some (i * s, s)
    | none => none
  | _ => none
def Env.fieldOff (E : Env) (t : TypeId) (i : Nat) : Option Nat :=
  match E.fieldOf t i with
  | some f => match E.size f.type with
    | some (_ + 1) => some f.offset
    | _ => none
  | none => none
def q5j (E : Env) (t : TypeId) : Option (List AV) :=
  match E.zero t with
  | some z => bif z.isDef then some z.cells else none
  | none => none
def q0r (H : Heap) : List AV → Option (List AV)
  | [] => some []
  | v :: vs => match A.freezeB true 64 H v with
    | some x => match q0r H vs with
      | some r => some (x :: r)
      | none => none
    | none => none
def reach : Nat → Heap → AV → List Nat
  | 0, _, _ => []
  | n + 1, H, v => match v with
    | .ptr id _ _ _ | .sl id _ _ _ _ => id :: (match H[id]? with
      | some (.row _ _ _ es) => es.flatMap fun e => e.cells.flatMap (reach n H)
      | _ => [])
    | .agg cs | .tup cs => cs.flatMap (reach n H)
    | .fn _ a b => a.flatMap (reach n H) ++ b.flatMap (reach n H)
    | .iface _ x => reach n H x
    | _ => []
def kill (ids : List Nat) (H : Heap) : Heap := ids.foldl (fun H i => H.set i .dead) H
def pureF (F : List AV → Option AV) (args : List AV) (H : Heap) : Option (AV × Heap) :=
  match q0r H args with
  | some as => match F as with
    | some v => some (v, bif v.flat then H else kill (args.flatMap (reach 64 H)) H)
    | none => none
  | none => none
def yBase : Nat := 1000000000
def callK (E : Env) (cf : CallFn) {R : Type} (f : FuncId) (args : List AV) (H : Heap) (k : AV → Heap → Option R) : Option R :=
  match E.pol f with
  | .plain => bif Nat.blt f yBase then cf R f args H k else none
  | .prim F => match F args H with
    | some p => k p.1 p.2
    | none => none
  | .still F => match pureF F args H with
    | some p => k p.1 p.2
    | none => none
def callQ (E : Env) {R : Type} (f : FuncId) (args : List AV) (H : Heap) (k : AV → Heap → Option R) : Option R :=
  match E.pol f with
  | .still F => bif args.all AV.imm then match F args with
    | some v => k v H
    | none => none
    else none
  | _ => none
def callV (E : Env) (cf : CallFn) {R : Type} (f : AV) (args : List AV) (H : Heap) (k : AV → Heap → Option R) : Option R :=
  match f with
  | .fn (.func g) first captured => callK E cf g (first ++ args ++ captured) H k
  | .yl id => cf R (yBase + id) args H k
  | _ => none
def newsOf (E : Env) (sz : Nat) (tx : TypeId) (x : AV) (H : Heap) : Option (List AV) :=
  match E.P.underlying tx with
  | some .string => match x with
    | .str l => bif decide (sz = 1) then some (A.strElems l) else none
    | _ => none
  | some (.slice _) => A.read sz x H
  | _ => none
def newsZ (E : Env) (sz bytes : Nat) (z : AV) (tx : TypeId) (x : AV) (H : Heap) : Option (List AV) :=
  match newsOf E sz tx x H with
  | some l => some l
  | none => match E.P.underlying tx, x with
    | some (.int _), .int .i64 m => if 0 ≤ m ∧ m * bytes ≤ 281474976710656 ∧ m ≤ 9223372036854775807 then some (List.replicate m.toNat z) else none
    | _, _ => none
def q17 (E : Env) {R : Type} (b : Builtin) (ts : List TypeId) (args : List AV) (H : Heap) (k : AV → Heap → Option R) : Option R :=
  match b, ts, args with
  | .len, [t], [x] => match E.P.underlying t with
    | some .string => withV (A.lenStr x) fun v => k v H
    | some (.slice _) => withV (A.len x H) fun v => k v H
    | some (.map _ _) => withV (A.lenMap x H) fun v => k v H
    | _ => none
  | .max, _, x :: xs => withV (xs.foldlM A.maxv x) fun v => k v H
  | .min, _, x :: xs => withV (xs.foldlM A.minv x) fun v => k v H
  | .append, [t, tx], [s, x] => match E.elem t with
    | some e => match E.size e, E.bytes e, E.zero e with
      | some sz, some by_, some z => bif decide (z.cells.length = sz) && decide (0 < sz) then
        match newsZ E sz by_ z tx x H with
        | some news => match A.append sz by_ e s news H with
          | some (v, H') => k v H'
          | none => none
        | none => none
        else none
      | _, _, _ => none
    | none => none
  | .clear, [t], [d] => match E.elem t with
    | some e => match E.size e, E.zero e with
      | some sz, some z => bif decide (z.cells.length = sz) then match A.clear sz z d H with
        | some (v, H') => k v H'
        | none => none
        else none
      | _, _ => none
    | none => none
  | .copy, [t, tx], [d, x] => match E.elem t with
    | some e => match E.size e with
      | some sz => match newsOf E sz tx x H with
        | some [] => bif A.isSl d H then k (.int .i64 0) H else none
        | _ => none
      | none => none
    | none => none
  | .cap, [t], [.nils] => match E.P.underlying t with
    | some (.slice _) => k (.int .i64 0) H
    | _ => none
  | .unsafeSliceData, [_], [s] => withV (A.sliceData s H) fun v => k v H
  | .unsafeString, [pt, _], [p, n] => match E.P.underlying pt with
    | some (.pointer e) => bif Nat.beq (E.P.cellsOf e) 1 then match A.unsafeStr e p n H with
      | some (v, H') => k v H'
      | none => none
      else none
    | _ => none
  | _, _, _ => none
def convert (E : Env) (src dst : TypeId) (x : AV) : Option AV :=
  match E.P.underlying src, E.P.underlying dst, x with
  | some _, some (.int k), .int _ n => some (.int k (k.wrap n))
  | some _, some .string, .str l => some (.str l)
  | some _, some .string, .int _ n => some (.str (Utf8.encode n).data.toList)
  | _, _, _ => none
def convH (E : Env) (src dst : TypeId) (x : AV) (H : Heap) : Option AV :=
  match E.P.underlying src, E.P.underlying dst with
  | some (.pointer t), some .unsafePointer => match x with
    | .ptr id ver i off => match H[id]?, E.P.info? t with
      | some (.row w sz _ es), some info => bif Nat.beq w ver && decide (info.size ≠ 0) && decide (i < es.length) && decide (off < sz) then some (.ptr id ver i off) else none
      | _, _ => none
    | _ => none
  | some .unsafePointer, some (.pointer t) => match x with
    | .ptr id ver i o => match H[id]?, E.P.info? t with
      | some (.row w sz ty es), some _ => bif Nat.beq w ver && decide (i < es.length) && decide (o < sz) && Nat.beq sz (E.P.cellsOf ty) && rowAt E.P (fun x => sameLayout E.P E.P.depth x t) E.P.depth ty 1 o 1 then some (.ptr id ver i o) else none
      | _, _ => none
    | _ => none
  | some (.slice e), some .string => match E.P.underlying e with
    | some (.int .u8) => match A.read 1 x H with
      | some es => (A.bytes8 es).map .str
      | none => none
    | some (.int .i32) => match A.read 1 x H with
      | some es => (A.runes32 es).map fun ns => .str (ns.flatMap fun n => (Utf8.encode n).data.toList)
      | none => none
    | _ => none
  | _, _ => none
def runeL (s : ByteArray) : Nat → Nat → List Int
  | 0, _ => []
  | b + 1, i => if i < s.size then ((Utf8.decode s i).1 : Int) :: runeL s b (i + (Utf8.decode s i).2) else []
def convN (E : Env) (src dst : TypeId) (x : AV) (H : Heap) : Option (AV × Heap) :=
  match E.P.underlying src, E.P.underlying dst with
  | some .string, some (.slice e) => match E.P.underlying e with
    | some (.int .u8) => match x with
      | .str l => bif decide (l.length ≤ 140737488355328) then some (A.newRow 1 e (A.strElems l) H) else none
      | _ => none
    | some (.int .i32) => match x with
      | .str l => bif decide (l.length ≤ 70368744177664) then some (A.newRow 1 e ((runeL ⟨l.toArray⟩ l.length 0).map (AV.int .i32)) H) else none
      | _ => none
    | _ => none
  | some (.slice _), some (.slice e) => match E.P.underlying e with
    | some (.int .u8) => match x with
      | .sl id ver off n cap => bif Nat.beq src dst && A.alive H id ver && decide (0 < n) then some (.sl id ver off n cap, H) else none
      | _ => none
    | _ => none
  | _, _ => none
def q0u (E : Env) {R : Type} (src dst : TypeId) (x : AV) (H : Heap) (k : AV → Heap → Option R) : Option R :=
  match convert E src dst x with
  | some v => k v H
  | none => match convH E src dst x H with
    | some v => k v H
    | none => match convN E src dst x H with
      | some p => k p.1 p.2
      | none => none
def layK {R : Type} (s : Nat) (cs : List AV) (st : St) (H : Heap) (k : SV → St → Heap → Option R) : Option R :=
  match st.var s with
  | none => match (st.setVar s cs).var s with
    | some _ => k (.lp s 0) (st.setVar s cs) H
    | none => none
  | some _ => none
def methOk (P : Program) (w : AV) : Bool :=
  match w with
  | .fn (.method name) [.iface t _] [] => match (P.info? t).bind fun i => i.methods.find? (·.name == name) with
    | some mt => match mt.path.toList, mt.func with
      | [], some (_, true) => true
      | [], some (_, false) => match P.underlying t with
        | some (.pointer _) => false
        | some _ => true
        | none => false
      | _, _ => false
    | none => false
  | _ => false
def nilC (P : Program) (w : AV) (H : Heap) : Option AV := bif methOk P w then some w else A.nilCheck w H
def opK (E : Env) (cf : CallFn) {R : Type} (site : Option Nat) (o : Oper) (st : St) (H : Heap) (k : SV → St → Heap → Option R) : Option R :=
  let v (x : Option AV) : Option R := withV x fun v => k (.val v) st H
  match o.op with
  | .move x | .assign x => match x with
    | .tmp t => match st.get t with
      | .val w => k (.val w) st H
      | .lp s off => k (.lp s off) st H
      | .no => none
    | x => v (st.eval E x)
  | .pick c a b => match st.eval E c, st.eval E a, st.eval E b with
    | some c, some a, some b => v (A.pick c a b)
    | _, _, _ => none
  | .alloc t => match E.zero t, E.size t with
    | some z, some sz => match site with
      | some s => bif z.cells.length == sz && (decide (0 < sz) || Nat.beq sz 0) then layK s z.cells st H k else none
      | none => bif z.cells.length == sz && decide (0 < sz) then (let r := A.newBox sz t z H; k (.val r.1) st r.2) else none
    | _, _ => none
  | .box t x => match st.eval E x, E.size t with
    | some x, some sz => match site with
      | some s => bif Nat.ble 1000 s then (bif x.cells.length == sz && x.isDef && x.cells.all AV.leaf then k (.val (.rop x.cells)) st H else none)
        else bif x.cells.length == sz && x.isDef && (decide (0 < sz) || Nat.beq sz 0) then layK s x.cells st H k else none
      | none => bif x.cells.length == sz && x.isDef && decide (0 < sz) then (let r := A.newBox sz t x H; k (.val r.1) st r.2) else none
    | _, _ => none
  | .build t ps => match q5j E t, places E t with
    | some z, some pl => match parts E st pl ps.toList with
      | some l => v ((A.fill z l).map .agg)
      | none => none
    | _, _ => none
  | .buildSlice t n ps => match E.elem t with
    | some e => match E.size e, E.zero e, parts E st (fun i => some (i, 1)) ps.toList with
      | some sz, some z, some l =>
        bif decide (n * sz ≤ 16777216) && decide (0 < sz) && decide (z.cells.length = sz) then
          match A.fillElems sz (List.replicate n z) l with
          | some es => match site with
            | none => (let r := A.newRow sz e es H; k (.val r.1) st r.2)
            | some s => bif es.all (fun x => x.cells.all AV.leaf) then k (.val (bif Nat.ble 2000 s then .lit sz es else .sh sz es)) st H else none
          | none => none
        else none
      | _, _, _ => none
    | none => none
  | .load t p => match E.isAgg t, E.size t with
    | some ag, some sz => match p with
      | .tmp q => match st.get q with
        | .lp s off => match st.var s with
          | some cs => v (A.ofList ag sz cs off)
          | none => none
        | .val p => v (A.load ag sz p H)
        | .no => none
      | p => match st.eval E p with
        | some p => v (A.load ag sz p H)
        | none => none
    | _, _ => none
  | .store t p x => match st.eval E x, E.size t with
    | some x, some sz => match p with
      | .tmp q => match st.get q with
        | .lp s off => match st.var s with
          | some cs => bif A.fits sz x && decide (off + x.cells.length ≤ cs.length) then k (.val .undef) (st.setVar s (A.splice cs off x.cells)) H else none
          | none => none
        | .val p => match A.store sz p x H with
          | some H' => k (.val .undef) st H'
          | none => none
        | .no => none
      | _ => none
    | _, _ => none
  | .nilCheck x => match x with
    | .tmp t => match st.get t with
      | .val w => v (nilC E.P w H)
      | .lp s off => k (.lp s off) st H
      | .no => none
    | _ => none
  | .binOp op t x y _ => match st.eval E x, st.eval E y with
    | some x', some y' => v (A.bin E.P op t x' y' (match y with | .const _ => true | _ => false) H)
    | _, _ => none
  | .unOp op _ x => match st.eval E x with
    | some x => v (A.un op x)
    | none => none
  | .convert s d x => match st.eval E x with
    | some x => q0u E s d x H fun w H' => k (.val w) st H'
    | none => none
  | .makeInterface t x => match st.eval E x, E.P.underlying t with
    | some x, some d => match d with
      | .interface _ => none
      | _ => k (.val (.iface t x)) st H
    | _, _ => none
  | .makeFunc f first captured => match evals E st first.toList, evals E st captured.toList with
    | some a, some b => k (.val (.fn f a b)) st H
    | _, _ => none
  | .makeSlice t l c => match E.elem t with
    | some e => match E.size e, E.bytes e, E.zero e, st.eval E l, st.eval E c with
      | some sz, some by_, some z, some l, some c => bif z.cells.length == sz && decide (0 < sz) then
          match A.makeSlice sz by_ e z l c H with
          | some (w, H') => k (.val w) st H'
          | none => none
        else none
      | _, _, _, _, _ => none
    | none => none
  | .slice t x lo hi mx => match st.eval E x, evals E st lo.toList, evals E st hi.toList, evals E st mx.toList with
    | some x, some l, some h, some m => match E.P.underlying t with
      | some .string => match m with
        | [] => v (A.sliceStr x l.head? h.head?)
        | _ => none
      | some (.slice e) => match E.size e with
        | some sz => bif (m.isEmpty || !h.isEmpty) then v (A.slice sz x l.head? h.head? m.head? H) else none
        | none => none
      | some (.array n e) => match m, E.size e with
        | [], some 1 => match A.sliceArr n x l.head? h.head? H with
          | some p => k (.val p.1) st p.2
          | none => none
        | [], some sz => v (A.sliceRop sz n x l.head? h.head?)
        | _, _ => none
      | _ => none
    | _, _, _, _ => none
  | .fieldAddr s x i => match E.fieldOff s i with
    | some fo => match x with
      | .tmp t => match st.get t with
        | .lp s off => k (.lp s (off + fo)) st H
        | .val p => v (A.fa fo p H)
        | .no => none
      | x => match st.eval E x with
        | some p => v (A.fa fo p H)
        | none => none
    | none => none
  | .field t x i => match E.fieldOf t i with
    | some f => match E.isAgg f.type, E.size f.type, st.eval E x with
      | some ag, some sz, some x => v (A.field ag sz f.offset x)
      | _, _, _ => none
    | none => none
  | .indexAddr t x i => match st.eval E i with
    | some i => match E.P.underlying t with
      | some (.slice e) => match E.size e, st.eval E x with
        | some sz, some x => v (A.idx sz x i H)
        | _, _ => none
      | some (.array n e) => match E.size e, x with
        | some sz, .tmp q => match st.get q with
          | .lp s off => match i with
            | .int _ j => if 0 ≤ j ∧ j < n then k (.lp s (off + j.toNat * sz)) st H else none
            | _ => none
          | .val p => v (A.idxArr sz n p i H)
          | .no => none
        | some sz, y => match st.eval E y with
          | some p => v (A.idxArr sz n p i H)
          | none => none
        | none, _ => none
      | _ => none
    | none => none
  | .index t x i => match st.eval E x, st.eval E i with
    | some x, some i => match E.P.underlying t with
      | some .string => v (A.index x i)
      | some (.array n e) => match E.isAgg e, E.size e with
        | some ag, some sz => v (A.indexArr ag sz n x i)
        | _, _ => none
      | _ => none
    | _, _ => none
  | .makeMap t r => match E.P.underlying t with
    | some (.map kt et) => match r with
      | none => k (.val (.mp H.length)) st (H ++ [.map kt et []])
      | some y => match st.eval E y with
        | some (.int _ _) => k (.val (.mp H.length)) st (H ++ [.map kt et []])
        | _ => none
    | _ => none
  | .lookup t x i ok => match E.P.underlying t, st.eval E x, st.eval E i with
    | some (.map kt et), some x, some i => match A.entries x H, E.zero et with
      | some es, some z => v (A.lookup (E.P.underlying kt) ok z i es)
      | _, _ => none
    | _, _, _ => none
  | .mapUpdate t m i x | .insert t m i x => match E.P.underlying t, st.eval E m, st.eval E i, st.eval E x with
    | some (.map kt _), some (.mp id), some i, some x => match H[id]? with
      | some (.map kt' et es) => match A.update (E.P.underlying kt) i x es with
        | some es' => k (.val .undef) st (H.set id (.map kt' et es'))
        | none => none
      | _ => none
    | _, _, _, _ => none
  | .mapEntry t m i => match E.P.underlying t, st.eval E m, st.eval E i with
    | some (.map kt et), some (.mp id), some i => match H[id]?, E.zero et with
      | some (.map kt' et' es), some z => match A.entry (E.P.underlying kt) z i es with
        | some p => k (.val p.1) st (H.set id (.map kt' et' p.2))
        | none => none
      | _, _ => none
    | _, _, _ => none
  | .entryStore _ m s x => match st.eval E m, st.eval E s, st.eval E x with
    | some (.mp id), some s, some x => match H[id]? with
      | some (.map kt' et' es) => match A.entrySet s x es with
        | some es' => k (.val .undef) st (H.set id (.map kt' et' es'))
        | none => none
      | _ => none
    | _, _, _ => none
  | .range t x => match E.P.underlying t, st.eval E x with
    | some .string, some (.str l) => k (.val (.it H.length)) st (H ++ [.iter l 0])
    | _, _ => none
  | .next x true => match st.eval E x with
    | some (.it id) => match H[id]? with
      | some (.iter l pos) =>
        if pos < l.length then
          let d := Utf8.decode ⟨l.toArray⟩ pos
          k (.val (.tup [.bool true, .int .i64 pos, .int .i32 d.1])) st (H.set id (.iter l (pos + d.2)))
        else k (.val (.tup [.bool false])) st H
      | _ => none
    | _ => none
  | .typeAssert x _ t ok => match st.eval E x, E.P.underlying t with
    | some (.iface d w), some u => match u with
      | .interface _ => none
      | _ => bif ok then (if d = t then k (.val (.tup [w, .bool true])) st H else match E.zero t with
          | some z => k (.val (.tup [z, .bool false])) st H
          | none => none)
        else (if d = t then k (.val w) st H else none)
    | _, _ => none
  | .extract x i => match st.eval E x with
    | some (.tup vs) => v vs[i]?
    | _ => none
  | .call c => match evals E st c.args.toList with
    | some args => match c.callee with
      | .value f => match site with
        | none => match st.eval E f with
          | some f => callV E cf f args H fun w H' => k (.val w) st H'
          | none => none
        | some _ => match f with
          | .func g => callQ E g args H fun w H' => k (.val w) st H'
          | _ => none
      | .builtin b => q17 E b c.argTypes.toList args H fun w H' => k (.val w) st H'
      | .invoke r m => match st.eval E r with
        | some (.iface t x) => match (E.P.info? t).bind fun i => i.methods.find? (·.name == m) with
          | some mt => match mt.func, mt.path.toList with
            | some (f, ptr), [] => match E.P.underlying t with
              | some (.pointer _) => bif ptr then callK E cf f (x :: args) H fun w H' => k (.val w) st H' else none
              | some _ => bif ptr then none else callK E cf f (x :: args) H fun w H' => k (.val w) st H'
              | none => none
            | _, _ => none
          | none => none
        | _ => none
    | none => none
  | _ => none
def keepsL (st : St) (o : Oper) : Bool :=
  match o.op with
  | .store _ (.tmp q) _ => match st.get q with
    | .lp .. => false
    | _ => true
  | _ => true
def q32 (ops : Array Oper) (st : St) (j : Nat) (want : Bool) : Option Bool :=
  match (ops[j]?).bind (·.dst) with
  | some d => match st.get d with
    | .val v => A.asG want v
    | _ => none
  | none => none
def qbr (b want : Bool) (H : Heap) (x : Option (AV × Heap)) : Option (AV × Heap) :=
  bif b == want then x else some (.tup [], H)
def q5o (E : Env) (cf : CallFn) (o : Oper) (st : St) (H : Heap) : Option (AV × Heap) :=
  bif keepsL st o then opK E cf none o st H fun x _ H' => match x with | .val v => some (v, H') | _ => none else none
def siteOf (sites : List (Nat × Nat × Nat)) (rid i : Nat) : Option Nat :=
  match sites with
  | [] => none
  | (r, j, s) :: rest => bif Nat.beq r rid && Nat.beq j i then some s else siteOf rest rid i
def stPut (st : St) (d : Option Tmp) (x : SV) : St :=
  match d with
  | some t => if t < st.N then st.put t x else st
  | none => st
def opsK (E : Env) (cf : CallFn) (sites : List (Nat × Nat × Nat)) (rid : Nat) (ops : Array Oper) {R : Type} : List Oper → Nat → St → Heap → (St → Heap → Option R) → Option R
  | [], _, st, H, k => k st H
  | o :: rest, i, st, H, k =>
    match o.guard with
    | none => opK E cf (siteOf sites rid i) o st H fun x st' H' => opsK E cf sites rid ops rest (i + 1) (stPut st' o.dst x) H' k
    | some (j, want) =>
      match q32 ops st j want with
      | some b =>
        match qbr b want H (q5o E cf o st H) with
        | some p => opsK E cf sites rid ops rest (i + 1) (stPut st o.dst (.val p.1)) p.2 k
        | none => none
      | none => none
end Go.Den

/- DEN, part C: regions of open order, control, calls: the whole reading. Nothing is proved here. -/
namespace Go.Den
structure Rec where
  st : St
  H : Heap
  x : SV
  st1 : St
  H1 : Heap
def winOf (i : Nat) : List (Nat × Nat × Nat) → Option (Nat × Nat)
  | [] => none
  | (j, lo, hi) :: r => bif Nat.beq j i then some (lo, hi) else winOf i r
def q0j (st : St) (site : Option Nat) (o : Oper) : Option (Nat × Bool) :=
  match o.op with
  | .load _ (.tmp q) => match st.get q with
    | .lp s _ => some (s, false)
    | _ => none
  | .store _ (.tmp q) _ => match st.get q with
    | .lp s _ => some (s, true)
    | _ => none
  | .alloc _ => site.map fun s => (s, true)
  | .box _ _ => match site with
    | some s => bif Nat.ble 1000 s then none else some (s, true)
    | none => none
  | _ => none
def siteAt (sites : List (Nat × Nat × Nat)) (rid i : Nat) (o : Oper) : Option Nat :=
  match o.guard with
  | none => siteOf sites rid i
  | some _ => none
def isLoud (E : Env) (site : Option Nat) (o : Oper) : Bool :=
  match o.op with
  | .store .. | .makeSlice .. | .range .. | .next .. | .mapUpdate .. | .insert .. | .makeMap .. | .mapEntry .. | .entryStore .. => true
  | .alloc _ | .box .. | .buildSlice .. => site.isNone
  | .slice t _ _ _ _ => match E.P.underlying t with
    | some (.array _ _) => true
    | _ => false
  | .convert s d _ => match E.P.underlying s, E.P.underlying d with
    | some (.int _), some (.int _) => false
    | some .string, some .string => false
    | some (.int _), some .string => false
    | some (.slice _), some .string => false
    | _, _ => true
  | .call c => match c.callee with
    | .builtin b => match b with
      | .len | .max | .min => false
      | _ => true
    | .value _ => site.isNone
    | _ => true
  | _ => false
def reads (o : Oper) : Bool :=
  match o.op with
  | .load .. | .nilCheck _ | .fieldAddr .. | .indexAddr .. | .slice .. | .binOp .. | .lookup .. | .convert .. => true
  | .call c => match c.callee with
    | .builtin _ => true
    | _ => false
  | _ => false
def AV.heapy (v : AV) : Bool := !v.imm
def heapy (st : St) (o : Oper) : Bool :=
  o.op.operands.toList.any fun y => match y with
    | .tmp t => match st.get t with
      | .val v => v.heapy
      | _ => false
    | _ => false
def acts (ops : Array Oper) (st : St) (o : Oper) : Bool :=
  match o.guard with
  | none => true
  | some (j, want) => match q32 ops st j want with
    | some b => b == want
    | none => true
def qc3 : CallFn := fun _ _ _ _ _ => none
def sameAt (E : Env) (o : Oper) (r : Rec) (G : Heap) : Bool :=
  match opK E qc3 none o r.st G (fun x _ _ => some x) with
  | some (.val w) => match r.x with
    | .val v => AV.beq v w
    | _ => false
  | _ => false
def allOk (ok : Heap → Bool) : Nat → List Heap → Bool
  | 0, _ => true
  | _ + 1, [] => true
  | n + 1, G :: r => ok G && allOk ok n r
def dropK {α : Type} : Nat → List α → List α
  | 0, l => l
  | _ + 1, [] => []
  | n + 1, _ :: l => dropK n l
def versOf (E : Env) (sites : List (Nat × Nat × Nat)) (rid : Nat) : List Oper → Nat → List Rec → List Heap
  | o :: os, i, r :: rs => bif isLoud E (siteAt sites rid i o) o then r.H1 :: versOf E sites rid os (i + 1) rs else versOf E sites rid os (i + 1) rs
  | _, _, _ => []
def winsOk (E : Env) (sites : List (Nat × Nat × Nat)) (wins : List (Nat × Nat × Nat)) (rid : Nat) (ops : Array Oper) (vers : List Heap) : List Oper → Nat → List Rec → Bool
  | o :: os, i, r :: rs =>
    (match winOf i wins with
      | some (lo, hi) => bif !isLoud E (siteAt sites rid i o) o && reads o && heapy r.st o && acts ops r.st o then allOk (sameAt E o r) (hi - lo + 1) (dropK lo vers) else true
      | none => true) && winsOk E sites wins rid ops vers os (i + 1) rs
  | _, _, _ => true
def q3d (sites : List (Nat × Nat × Nat)) (rid : Nat) : List Oper → Nat → List Rec → List (Nat × Nat × Bool)
  | o :: os, i, r :: rs => match q0j r.st (siteAt sites rid i o) o with
    | some (s, w) => (i, s, w) :: q3d sites rid os (i + 1) rs
    | none => q3d sites rid os (i + 1) rs
  | _, _, _ => []
def bef (d : DInfo) (i j : Nat) : Bool := Nat.testBit (d.before.getD i 0) j
def qcn (d : DInfo) (j s : Nat) (w : Bool) : List (Nat × Nat × Bool) → Bool
  | [] => true
  | (i, s', w') :: r => (bif Nat.beq s s' && (w || w') then bef d i j else true) && qcn d j s w r
def q3p (d : DInfo) : List (Nat × Nat × Bool) → Bool
  | [] => true
  | (j, s, w) :: r => qcn d j s w r && q3p d r
def qci (st : St) (o : Oper) : Option Nat :=
  match o.guard with
  | none => match o.op with
    | .store _ (.tmp q) _ => match st.get q with
      | .val (.ptr id _ _ _) => some id
      | _ => none
    | _ => none
  | some _ => none
def storeH (E : Env) (o : Oper) (st : St) (H : Heap) : Option Heap := opK E qc3 none o st H fun _ _ H' => some H'
def qck (E : Env) (sites : List (Nat × Nat × Nat)) (d : DInfo) (rid : Nat) (ops : Array Oper) (a b : Nat) (Hx : Heap) : List Oper → Nat → List Rec → Bool
  | o :: os, i, r :: rs =>
    (bif !isLoud E (siteAt sites rid i o) o && reads o && heapy r.st o && acts ops r.st o && !bef d i a && !bef d b i then sameAt E o r Hx else true) && qck E sites d rid ops a b Hx os (i + 1) rs
  | _, _, _ => true
def swapOk (E : Env) (sites : List (Nat × Nat × Nat)) (d : DInfo) (rid : Nat) (ops : Array Oper) (tr : List Rec) : Bool :=
  match d.swap with
  | none => true
  | some (a, b) => match ops[a]?, ops[b]?, tr[a]?, tr[b]? with
    | some oa, some ob, some ra, some rb => match qci ra.st oa, qci rb.st ob with
      | some x, some y => match storeH E ob rb.st ra.H with
        | some Hx => !Nat.beq x y && qck E sites d rid ops a b Hx ops.toList 0 tr
        | none => false
      | _, _ => false
    | _, _, _, _ => false
def drawOk (E : Env) (sites : List (Nat × Nat × Nat)) (d : DInfo) (rid : Nat) (ops : Array Oper) (H0 : Heap) (tr : List Rec) : Bool :=
  q3p d (q3d sites rid ops.toList 0 tr) && swapOk E sites d rid ops tr &&
  (match d.wins with
    | [] => true
    | wins => winsOk E sites wins rid ops (H0 :: versOf E sites rid ops.toList 0 tr) ops.toList 0 tr)
def opsD (E : Env) (cf : CallFn) (sites : List (Nat × Nat × Nat)) (d : DInfo) (rid : Nat) (ops : Array Oper) (H0 : Heap) {R : Type} : List Oper → Nat → List Rec → St → Heap → (St → Heap → Option R) → Option R
  | [], _, tr, st, H, k => bif drawOk E sites d rid ops H0 tr.reverse then k st H else none
  | o :: rest, i, tr, st, H, k =>
    match o.guard with
    | none => opK E cf (siteOf sites rid i) o st H fun x st' H' => opsD E cf sites d rid ops H0 rest (i + 1) (⟨st, H, x, stPut st' o.dst x, H'⟩ :: tr) (stPut st' o.dst x) H' k
    | some (j, want) =>
      match q32 ops st j want with
      | some b =>
        match qbr b want H (q5o E cf o st H) with
        | some p => opsD E cf sites d rid ops H0 rest (i + 1) (⟨st, H, .val p.1, stPut st o.dst (.val p.1), p.2⟩ :: tr) (stPut st o.dst (.val p.1)) p.2 k
        | none => none
      | none => none
/-! ### what must stand of such a region's text -/
def q0c (E : Env) (sites : List (Nat × Nat × Nat)) (rid : Nat) (ops : Array Oper) (p : Nat → Bool) : Nat :=
  ((List.range ops.size).filter fun j => (match ops[j]? with | some o => isLoud E (siteAt sites rid j o) o | none => false) && p j).length
def tmpOf : Operand → Option Tmp
  | .tmp t => some t
  | _ => none
def looks (ops : Array Oper) (o : Oper) : List Tmp :=
  o.op.operands.toList.filterMap tmpOf ++ (match o.guard with
    | some (g, _) => match (ops[g]?).bind (·.dst) with
      | some t => [t]
      | none => []
    | none => [])
def q75 (x y : Oper) (ops : Array Oper) : Bool :=
  match y.dst with
  | some t => !(looks ops x).contains t
  | none => true
def swapped (d : DInfo) (a b : Nat) : Bool :=
  match d.swap with
  | some (x, y) => Nat.beq x a && Nat.beq y b
  | none => false
def pairOk (E : Env) (sites : List (Nat × Nat × Nat)) (rid : Nat) (ops : Array Oper) (d : DInfo) (i : Nat) (o : Oper) (j : Nat) : Bool :=
  match ops[j]? with
  | some q =>
    (!bef d i j || o.after.any fun e => Region.binds .any e && decide (e.on < i) && (Nat.beq e.on j || bef d e.on j)) &&
    (!(decide (j < i) && isLoud E (siteAt sites rid i o) o && isLoud E (siteAt sites rid j q) q) || bef d i j || swapped d j i) &&
    (Nat.beq i j || q75 o q ops || bef d i j || bef d j i) &&
    (Nat.beq i j || o.dst.isNone || o.dst != q.dst)
  | none => true
def opOk (E : Env) (sites : List (Nat × Nat × Nat)) (rid : Nat) (ops : Array Oper) (d : DInfo) (i : Nat) : Bool :=
  match ops[i]? with
  | some o =>
    (List.range ops.size).all (pairOk E sites rid ops d i o) && (o.after.all fun e => !Region.binds .any e || decide (e.on < i)) &&
    (isLoud E (siteAt sites rid i o) o || !reads o ||
      (let lo := q0c E sites rid ops fun j => bef d i j
       let hi := q0c E sites rid ops fun j => !bef d j i
       Nat.ble hi lo || (match winOf i d.wins with | some (l, h) => Nat.ble l lo && Nat.ble hi h | none => false)))
  | none => true
def qh5 (E : Env) (sites : List (Nat × Nat × Nat)) (rid : Nat) (ops : Array Oper) (d : DInfo) : Bool :=
  match d.swap with
  | some (a, b) => match ops[a]?, ops[b]? with
    | some oa, some ob => Nat.blt a b && isLoud E (siteAt sites rid a oa) oa && isLoud E (siteAt sites rid b ob) ob && Nat.beq (q0c E sites rid ops fun j => decide (j < b)) (q0c E sites rid ops (fun j => decide (j < a)) + 1)
    | _, _ => false
  | none => true
def q1f (E : Env) (sites : List (Nat × Nat × Nat)) (rid : Nat) (ops : Array Oper) (d : DInfo) : Bool :=
  (List.range ops.size).all (opOk E sites rid ops d) && qh5 E sites rid ops d
def iter {σ R : Type} (G : σ → Heap → (σ → Heap → Option R) → Option R) : Nat → σ → Heap → Option R
  | 0, _, _ => none
  | m + 1, st, H => G st H (iter G m)
def Ann.strip : Ann → Ann
  | .keep _ _ a => a
  | a => a
def Ann.fst : Ann → Ann
  | .two a _ => a
  | .one a => a
  | _ => .nil
def Ann.snd : Ann → Ann
  | .two _ b => b
  | _ => .nil
def AExit.is : AExit → AExit → Bool
  | .normal, .normal => true
  | .exit i, .exit j => Nat.beq i j
  | .ret, .ret => true
  | _, _ => false
def idxOf (e : AExit) : List AExit → Nat → Option Nat
  | [], _ => none
  | x :: r, i => bif e.is x then some i else idxOf e r (i + 1)
def pairL (k : LK) (outs : List AExit) : AExit → St → Heap → Option (Nat × Live × Heap) := fun e st H =>
  match idxOf e outs 0 with
  | some i => match st.live k with
    | some l => some (i, l, H)
    | none => none
  | none => none
def pickK {R : Type} (k : AExit → Option R) (i : Nat) : List AExit → Nat → Option R
  | [], _ => none
  | x :: r, j => bif Nat.beq i j then k x else pickK k i r (j + 1)
def bindX {R : Type} (x : Option (Nat × Live × Heap)) (k : Nat → Live → Heap → Option R) : Option R :=
  match x with
  | some (e, l, H) => k e l H
  | none => none
def bar {R : Type} (an : Ann) (N : Nat) (F : (S : Type) → (AExit → St → Heap → Option S) → Option S) (k : AExit → St → Heap → Option R) : Option R :=
  match an with
  | .keep kp outs _ => bindX (F (Nat × Live × Heap) (pairL kp outs)) fun i l H => pickK (fun e => k e (St.ofLive kp N l) H) i outs 0
  | _ => F R k
def loopK {R : Type} (kh : LK) (rec : Live → Heap → Option R) (k : AExit → St → Heap → Option R) : AExit → St → Heap → Option R := fun e st H =>
  match e with
  | .normal => match st.live kh with
    | some l => rec l H
    | none => none
  | .exit j => k (.exit j) st H
  | .ret => k .ret st H
def loopS {R : Type} (rec : St → Heap → Option R) (k : AExit → St → Heap → Option R) : AExit → St → Heap → Option R := fun e st H =>
  match e with
  | .normal => rec st H
  | .exit j => k (.exit j) st H
  | .ret => k .ret st H
def seqK {R : Type} (next : St → Heap → Option R) (k : AExit → St → Heap → Option R) : AExit → St → Heap → Option R := fun e st H =>
  match e with
  | .normal => next st H
  | .exit id => k (.exit id) st H
  | .ret => k .ret st H
def blockK {R : Type} (id : Nat) (k : AExit → St → Heap → Option R) : AExit → St → Heap → Option R := fun e st H =>
  match e with
  | .normal => k .normal st H
  | .exit j => bif Nat.beq j id then k .normal st H else k (.exit j) st H
  | .ret => k .ret st H
def drawOf (rid : Nat) : List (Nat × DInfo) → Option DInfo
  | [] => none
  | (r, d) :: l => bif Nat.beq r rid then some d else drawOf rid l
def q55 (E : Env) (f : FuncId) : Bool :=
  match E.P.funcs[f]? with
  | some fn => fn.body.isSome
  | none => false
def noRF : Code → Bool
  | .seq a b => noRF a && noRF b
  | .cond _ a b => noRF a && noRF b
  | .block _ c | .loop c | .scope c => noRF c
  | .rangeFunc .. => false
  | _ => true
def SV.own : SV → SV
  | .lp _ _ => .no
  | x => x
def St.snap (st : St) : St := { slots := st.slots.map SV.own, L := .lf, N := st.N }
def exec (E : Env) (cf : CallFn) (n : Nat) (fa : FAnn) : Code → Ann → (R : Type) → St → Heap → (AExit → St → Heap → Option R) → Option R
  | .skip, _, _, st, H, k => k .normal st H
  | .label _, _, _, st, H, k => k .normal st H
  | .exit id, _, _, st, H, k => k (.exit id) st H
  | .ret, _, _, st, H, k => k .ret st H
  | .region rid ops draw, _, _, st, H, k =>
    bif draw then
      match drawOf rid fa.draws with
      | some d => opsD E cf fa.sites d rid ops H ops.toList 0 [] st H (k .normal)
      | none => none
    else opsK E cf fa.sites rid ops ops.toList 0 st H (k .normal)
  | .seq a b, an, _, st, H, k =>
    bar an st.N (fun S k => exec E cf n fa a an.strip.fst S st H (seqK (fun st H => exec E cf n fa b an.strip.snd S st H k) k)) k
  | .cond c x y, an, _, st, H, k => match st.eval E c with
    | some v => bar an st.N (fun S k => A.test v (exec E cf n fa x an.strip.fst S st H k) (exec E cf n fa y an.strip.snd S st H k)) k
    | none => none
  | .block id c, an, _, st, H, k =>
    bar an st.N (fun S k => exec E cf n fa c an.strip.fst S st H (blockK id k)) k
  | .loop c, an, _, st, H, k => match an.strip with
    | .lp kp a => match st.live kp with
      | some l => bar an st.N (fun S k => iter (fun l H rec => exec E cf n fa c a S (St.ofLive kp st.N l) H (loopK kp rec k)) n l H) k
      | none => none
    | a => bar an st.N (fun S k => iter (fun st H rec => exec E cf n fa c a.fst S st H (loopS rec k)) n st H) k
  | .scope c, an, _, st, H, k => bar an st.N (fun S k => exec E cf n fa c an.strip.fst S st H k) k
  | .rangeFunc g ps assign body, an, _, st, H, k =>
    bif noRF assign && noRF body then
      match st.eval E g with
      | some (.fn (.func f) [] cap) =>
        bif !q55 E f then none else callK E cf f (.yl H.length :: cap) (H ++ [.loop ⟨st.snap, fa, ps.toList, assign, body, an.strip, 0, none⟩]) fun _ H1 =>
          match H1[H.length]? with
          | some (.loop L) => bif Nat.beq L.state 1 then none else match L.pending with
            | none => k .normal st (H1.set H.length .dead)
            | some e => k e st (H1.set H.length .dead)
          | _ => none
      | _ => none
    else none
  | .goto _, _, _, _, _, _ => none
  | .refuse _, _, _, _, _, _ => none
def q61 (E : Env) (st : St) (H : Heap) : ResultVar → Option AV
  | .tmp t => match st.get t with
    | .val v => some v
    | _ => none
  | .cell a t => match E.isAgg t, E.size t with
    | some ag, some sz => match st.get a with
      | .lp s off => match st.var s with
        | some cs => A.ofList ag sz cs off
        | none => none
      | .val p => A.load ag sz p H
      | .no => none
    | _, _ => none
def q1l (E : Env) (st : St) (H : Heap) {R : Type} : List ResultVar → List AV → (List AV → Option R) → Option R
  | [], acc, k => k acc.reverse
  | r :: rs, acc, k => match q61 E st H r with
    | some v => q1l E st H rs (v :: acc) k
    | none => none
def qc5 : List AV → AV
  | [v] => v
  | vs => .tup vs
def q27 (d : Nat) : List AV → Nat → Tr SV → Tr SV
  | [], _, t => t
  | v :: vs, i, t => q27 d vs (i + 1) (t.set i (.val v))
def St.start (d N : Nat) (args : List AV) : St := { slots := q27 d args 0 (Tr.full .no d), L := Tr.full none d, N := N }
def q26 (st : St) : List Nat → List AV → St
  | t :: ts, v :: vs => q26 (bif Nat.blt t st.N then st.put t (.val v) else st) ts vs
  | _, _ => st
def roundK {R : Type} (id : Nat) (k : AV → Heap → Option R) (e : AExit) (H : Heap) : Option R :=
  match H[id]? with
  | some (.loop L) => bif Nat.beq L.state 1 then (match e with
      | .normal => k (.bool true) (H.set id (.loop { L with state := 0, pending := none }))
      | e => k (.bool false) (H.set id (.loop { L with state := 2, pending := some e })))
    else none
  | _ => none
def q40 (E : Env) (cf : CallFn) (n : Nat) {R : Type} (id : Nat) (args : List AV) (H : Heap) (k : AV → Heap → Option R) : Option R :=
  match H[id]? with
  | some (.loop L) => bif Nat.beq args.length L.ps.length then
      exec E cf n L.fa L.assign L.an.fst R (q26 L.st L.ps args) H fun e st H1 => match e with
        | .normal => match H1[id]? with
          | some (.loop L1) => bif Nat.beq L1.state 0 then exec E cf n L.fa L.body L.an.snd R st (H1.set id (.loop { L1 with state := 1 })) fun e _ H2 => roundK id k e H2 else none
          | _ => none
        | _ => none
    else none
  | _ => none
def callF (E : Env) : Nat → CallFn
  | 0 => fun _ _ _ _ _ => none
  | n + 1 => fun R f args H k =>
    bif !Nat.blt f yBase then q40 E (callF E n) n (R := R) (f - yBase) args H k else
    match E.P.funcs[f]? with
    | some fn => match fn.body with
      | some c => if args.length ≤ fn.ntmps then exec E (callF E n) n (E.ann f) c (E.ann f).ann _ (St.start (E.ann f).depth fn.ntmps args) H fun e st H => match e with
        | .exit _ => none
        | _ => q1l E st H fn.results.toList [] fun vs => k (qc5 vs) H
        else none
      | none => none
    | none => none
def answer (E : Env) (n : Nat) (f : FuncId) (args : List AV) : Option AV := callF E n AV f args [] fun v _ => some v
end Go.Den

/- DEN, part D: what it means that an abstract value stands for a value of memory; what a step may change. -/
namespace Go.Den
open Go.RowKit
/-! ### slots -/
namespace Tr
variable {α : Type} {z : α}
theorem get_set_ne : ∀ {t : Tr α} {i j : Nat} {x : α}, i ≠ j → get z (set t i x) j = get z t j
  | .lf, _, _, _, _ => rfl
  | .nd l v r, i, j, x, h => by
    unfold set
    by_cases hi : i = 0
    · subst hi
      have hj : Nat.beq j 0 = false := by
        cases hb : Nat.beq j 0
        · rfl
        · exact absurd (Nat.eq_of_beq_eq_true hb).symm h
      have h0 : Nat.beq 0 0 = true := rfl
      simp only [h0, cond_true]
      simp only [get, hj, cond_false]
    · have hi' : Nat.beq i 0 = false := by
        cases hb : Nat.beq i 0
        · rfl
        · exact absurd (Nat.eq_of_beq_eq_true hb) hi
      simp only [hi', cond_false]
      cases hm : Nat.beq (i % 2) 1
      · simp only [cond_false, get]
        cases hj0 : Nat.beq j 0
        · simp only [cond_false]
          cases hj1 : Nat.beq (j % 2) 1
          · simp only [cond_false]
            refine get_set_ne (t := r) ?_
            intro e
            have h1 : i % 2 = 0 := by
              have := Nat.mod_two_eq_zero_or_one i
              rcases this with h | h
              · exact h
              · rw [h] at hm; simp at hm
            have h2 : j % 2 = 0 := by
              have := Nat.mod_two_eq_zero_or_one j
              rcases this with h | h
              · exact h
              · rw [h] at hj1; simp at hj1
            have : j ≠ 0 := by intro e; subst e; simp at hj0
            omega
          · simp only [cond_true]
        · simp only [cond_true]
      · simp only [cond_true, get]
        cases hj0 : Nat.beq j 0
        · simp only [cond_false]
          cases hj1 : Nat.beq (j % 2) 1
          · simp only [cond_false]
          · simp only [cond_true]
            refine get_set_ne (t := l) ?_
            intro e
            have h1 := Nat.eq_of_beq_eq_true hm
            have h2 := Nat.eq_of_beq_eq_true hj1
            omega
        · simp only [cond_true]
theorem get_set_self : ∀ {t : Tr α} {i : Nat} {x : α}, get z (set t i x) i = x ∨ (get z (set t i x) i = z ∧ get z t i = z)
  | .lf, _, _ => .inr ⟨rfl, rfl⟩
  | .nd l v r, i, x => by
    unfold set
    cases hi : Nat.beq i 0
    · simp only [cond_false]
      cases hm : Nat.beq (i % 2) 1
      · simp only [cond_false, get, hi, hm]
        exact get_set_self
      · simp only [cond_true, get, hi, hm, cond_false]
        exact get_set_self
    · simp only [cond_true, get, hi]
      exact .inl trivial
theorem get_full : ∀ (d i : Nat), get z (full z d) i = z
  | 0, _ => rfl
  | d + 1, i => by
    unfold full get
    cases Nat.beq i 0
    · cases Nat.beq (i % 2) 1
      · exact get_full d _
      · exact get_full d _
    · rfl
theorem get_mk {d : Nat} (l : List (Nat × α)) (i : Nat) : get z (mk z d l) i = z ∨ (i, get z (mk z d l) i) ∈ l := by
  have key : ∀ (l : List (Nat × α)) (t : Tr α), get z (l.foldl (fun t p => t.set p.1 p.2) t) i = get z t i ∨ get z (l.foldl (fun t p => t.set p.1 p.2) t) i = z ∨ (i, get z (l.foldl (fun t p => t.set p.1 p.2) t) i) ∈ l := by
    intro l
    induction l with
    | nil => exact fun t => .inl rfl
    | cons p l ih =>
      intro t
      rcases ih (t.set p.1 p.2) with h | h | h
      · by_cases e : p.1 = i
        · rcases get_set_self (z := z) (t := t) (i := i) (x := p.2) with h2 | h2
          · refine .inr (.inr ?_)
            simp only [List.foldl_cons]
            rw [h, e, h2, ← e]
            exact List.mem_cons_self
          · refine .inr (.inl ?_)
            simp only [List.foldl_cons]
            rw [h, e, h2.1]
        · refine .inl ?_
          simp only [List.foldl_cons]
          rw [h, get_set_ne e]
      · exact .inr (.inl h)
      · exact .inr (.inr (List.mem_cons_of_mem _ h))
  rcases key l (full z d) with h | h | h
  · exact .inl (h.trans (get_full d i))
  · exact .inl h
  · exact .inr h
end Tr
/-! ### the roles of blocks -/
inductive Role where
  | imm
  | obj (id : Nat)
  | loc (site : Nat)
  | oth
structure Ctx where
  w : World
  κ : Nat → Role
  ρ : Nat → Nat × Nat
  H : Heap
def PtrOk (C : Ctx) (id ver i off : Nat) (u : Value) : Prop :=
  id < C.H.length ∧ ∀ v sz ty es, C.H[id]? = some (.row v sz ty es) → ver ≤ v ∧ (ver = v → u = .pointer (some ⟨(C.ρ id).1, (C.ρ id).2 + (i * sz + off), none⟩))
def SlOk (C : Ctx) (id ver off n cap : Nat) (u : Value) : Prop :=
  id < C.H.length ∧ ∀ v sz ty es, C.H[id]? = some (.row v sz ty es) → ver ≤ v ∧ (ver = v → ∃ a c, u = .slice (some a) n c ∧ n ≤ cap ∧ cap ≤ c ∧ c ≤ maxLen ∧
    (0 < c → a = ⟨(C.ρ id).1, (C.ρ id).2 + off * sz, none⟩) ∧ ∀ cells t fr, C.w.heap[(C.ρ id).1]? = some (.cells cells t fr) → (C.ρ id).2 + (off + c) * sz ≤ cells.size)
def ItOk (C : Ctx) (id : Nat) (u : Value) : Prop :=
  id < C.H.length ∧ ∀ l pos, C.H[id]? = some (.iter l pos) → u = .pointer (some ⟨(C.ρ id).1, 0, none⟩)
def MpOk (C : Ctx) (id : Nat) (u : Value) : Prop :=
  id < C.H.length ∧ ∀ k e es, C.H[id]? = some (.map k e es) → u = .map (some (C.ρ id).1)
def YlOk (C : Ctx) (id : Nat) (u : Value) : Prop :=
  id < C.H.length ∧ ∀ L, C.H[id]? = some (.loop L) → u = .func (.yield (C.ρ id).1) #[] #[]
mutual
inductive V (C : Ctx) : Bool → AV → Value → Prop
  | undef (u : Value) : V C false .undef u
  | bool (p : Bool) (b : Bool) : V C p (.bool b) (.bool b)
  | int (p : Bool) (k : IntKind) (n : Int) : V C p (.int k n) (.int k n)
  | str (p : Bool) (s : ByteArray) : V C p (.str s.data.toList) (.string s)
  | nilp (p : Bool) : V C p .nilp (.pointer none)
  | nils (p : Bool) : V C p .nils (.slice none 0 0)
  | nilf (p : Bool) : V C p .nilf .nilFunc
  | nili (p : Bool) : V C p .nili .nilIface
  | nilm (p : Bool) : V C p .nilm (.map none)
  | fn (p : Bool) (f : Fn) (a b : List AV) (as bs : Array Value) : Vs C p a as.toList → Vs C p b bs.toList → V C p (.fn f a b) (.func f as bs)
  | iface (p : Bool) (t : TypeId) (v : AV) (u : Value) : V C p v u → V C p (.iface t v) (.iface t u)
  | agg (p : Bool) (cs : List AV) (us : Array Value) : (∀ c ∈ cs, c.one = true) → Vs C p cs us.toList → V C p (.agg cs) (.agg us)
  | tup (p : Bool) (cs : List AV) (us : Array Value) : Vs C p cs us.toList → V C p (.tup cs) (.tuple us)
  | rop (p : Bool) (cs : List AV) (a : Addr) (us : List Value) : (∀ c ∈ cs, c.one = true) → Vs C true cs us → (∀ j u, us[j]? = some u → C.w.cell? (a.add j) = some u) → C.κ a.block = .imm → a.block < C.w.heap.size → V C p (.rop cs) (.pointer (some a))
  | sh (p : Bool) (z : Nat) (es : List AV) (a : Addr) (c : Nat) (us : List Value) : Vs C true (es.flatMap AV.cells) us → (∀ e ∈ es, e.cells.length = z ∧ ∀ c ∈ e.cells, c.one = true) → (∀ j u, us[j]? = some u → C.w.cell? (a.add j) = some u) →
      (es ≠ [] → C.κ a.block = .imm ∧ a.block < C.w.heap.size) → es.length ≤ c → c ≤ maxLen → V C p (.sh z es) (.slice (some a) es.length c)
  | lit (p : Bool) (z : Nat) (es : List AV) (a : Addr) (us : List Value) : Vs C true (es.flatMap AV.cells) us → (∀ e ∈ es, e.cells.length = z ∧ ∀ c ∈ e.cells, c.one = true) → (∀ j u, us[j]? = some u → C.w.cell? (a.add j) = some u) →
      (es ≠ [] → C.κ a.block = .imm ∧ a.block < C.w.heap.size) → es.length ≤ maxLen → V C p (.lit z es) (.slice (some a) es.length es.length)
  | ptr (id ver i off : Nat) (u : Value) : u.oneCell' = true → PtrOk C id ver i off u → V C false (.ptr id ver i off) u
  | sl (id ver off n cap : Nat) (u : Value) : u.oneCell' = true → SlOk C id ver off n cap u → V C false (.sl id ver off n cap) u
  | it (id : Nat) (u : Value) : u.oneCell' = true → ItOk C id u → V C false (.it id) u
  | mp (id : Nat) (u : Value) : u.oneCell' = true → MpOk C id u → V C false (.mp id) u
  | yl (id : Nat) (u : Value) : u.oneCell' = true → YlOk C id u → V C false (.yl id) u
inductive Vs (C : Ctx) : Bool → List AV → List Value → Prop
  | nil (p : Bool) : Vs C p [] []
  | cons (p : Bool) (v : AV) (u : Value) (vs : List AV) (us : List Value) : V C p v u → Vs C p vs us → Vs C p (v :: vs) (u :: us)
end
structure Ev (C C' : Ctx) : Prop where
  os : C'.w.os = C.w.os
  tape : C'.w.tape = C.w.tape
  output : C'.w.output = C.w.output
  size : C.w.heap.size ≤ C'.w.heap.size
  keep : ∀ b, b < C.w.heap.size → (C.κ b = .imm ∨ C.κ b = .oth) → C'.w.heap[b]? = C.w.heap[b]? ∧ C'.κ b = C.κ b
  hlen : C.H.length ≤ C'.H.length
  rows : ∀ id, id < C.H.length → ∀ v' sz' ty' es', C'.H[id]? = some (.row v' sz' ty' es') → ∃ v es, C.H[id]? = some (.row v sz' ty' es) ∧ v ≤ v' ∧
    (v = v' → C'.ρ id = C.ρ id ∧ ∀ cells t fr, C'.w.heap[(C.ρ id).1]? = some (.cells cells t fr) → ∃ cells' t' fr', C.w.heap[(C.ρ id).1]? = some (.cells cells' t' fr') ∧ cells.size = cells'.size)
  oths : ∀ id, id < C.H.length → ∀ o', o'.oth = true → C'.H[id]? = some o' → (∃ o, C.H[id]? = some o ∧ o.kd = o'.kd) ∧ C'.ρ id = C.ρ id
structure EvV (C C' : Ctx) : Prop where
  size : C.w.heap.size ≤ C'.w.heap.size
  imm : ∀ b, b < C.w.heap.size → C.κ b = .imm → C'.w.heap[b]? = C.w.heap[b]? ∧ C'.κ b = .imm
  hlen : C.H.length ≤ C'.H.length
  rows : ∀ id, id < C.H.length → ∀ v' sz' ty' es', C'.H[id]? = some (.row v' sz' ty' es') → ∃ v es, C.H[id]? = some (.row v sz' ty' es) ∧ v ≤ v' ∧
    (v = v' → C'.ρ id = C.ρ id ∧ ∀ cells t fr, C'.w.heap[(C.ρ id).1]? = some (.cells cells t fr) → ∃ cells' t' fr', C.w.heap[(C.ρ id).1]? = some (.cells cells' t' fr') ∧ cells.size = cells'.size)
  oths : ∀ id, id < C.H.length → ∀ o', o'.oth = true → C'.H[id]? = some o' → (∃ o, C.H[id]? = some o ∧ o.kd = o'.kd) ∧ C'.ρ id = C.ρ id
theorem Ev.toV {C C' : Ctx} (h : Ev C C') : EvV C C' :=
  ⟨h.size, fun b hb hi => ⟨(h.keep b hb (.inl hi)).1, (h.keep b hb (.inl hi)).2.trans hi⟩, h.hlen, h.rows, h.oths⟩
theorem Ev.refl (C : Ctx) : Ev C C :=
  ⟨rfl, rfl, rfl, Nat.le_refl _, fun _ _ _ => ⟨rfl, rfl⟩, Nat.le_refl _, fun _ _ v' sz' ty' es' h => ⟨v', es', h, Nat.le_refl _, fun _ => ⟨rfl, fun cells t fr h => ⟨cells, t, fr, h, rfl⟩⟩⟩,
    fun _ _ o _ h => ⟨⟨o, h, rfl⟩, rfl⟩⟩
theorem Ev.trans {A B C : Ctx} (h : Ev A B) (g : Ev B C) : Ev A C := by
  refine ⟨g.os.trans h.os, g.tape.trans h.tape, g.output.trans h.output, Nat.le_trans h.size g.size, ?_, Nat.le_trans h.hlen g.hlen, ?_, ?_⟩
  · intro b hb hr
    obtain ⟨h1, h2⟩ := h.keep b hb hr
    obtain ⟨g1, g2⟩ := g.keep b (Nat.lt_of_lt_of_le hb h.size) (by rw [h2]; exact hr)
    exact ⟨g1.trans h1, g2.trans h2⟩
  · intro id hid v' sz' ty' es' hc
    obtain ⟨v1, es1, hb, hv1, g1⟩ := g.rows id (Nat.lt_of_lt_of_le hid h.hlen) v' sz' ty' es' hc
    obtain ⟨v0, es0, ha, hv0, h1⟩ := h.rows id hid v1 sz' ty' es1 hb
    refine ⟨v0, es0, ha, Nat.le_trans hv0 hv1, fun e => ?_⟩
    have e1 : v1 = v' := by omega
    have e0 : v0 = v1 := by omega
    obtain ⟨g2, g3⟩ := g1 e1
    obtain ⟨h2, h3⟩ := h1 e0
    refine ⟨g2.trans h2, fun cells t fr hx => ?_⟩
    obtain ⟨c1, t1, f1, hc1, hs1⟩ := g3 cells t fr (by rw [h2]; exact hx)
    obtain ⟨c2, t2, f2, hc2, hs2⟩ := h3 c1 t1 f1 (by rw [← h2]; exact hc1)
    exact ⟨c2, t2, f2, hc2, hs1.trans hs2⟩
  · intro id hid o' ho hc
    obtain ⟨⟨o1, hb, k1⟩, e1⟩ := g.oths id (Nat.lt_of_lt_of_le hid h.hlen) o' ho hc
    obtain ⟨⟨o0, ha, k0⟩, e0⟩ := h.oths id hid o1 (by cases o1 <;> cases o' <;> first | rfl | (simp [HObj.kd] at k1; done) | exact ho) hb
    exact ⟨⟨o0, ha, k0.trans k1⟩, e1.trans e0⟩
theorem HObj.kd_iter {o : HObj} (h : o.kd = 1) : ∃ l pos, o = .iter l pos := by
  cases o <;> first | exact ⟨_, _, rfl⟩ | (simp [HObj.kd] at h)
theorem HObj.kd_map {o : HObj} (h : o.kd = 2) : ∃ k e es, o = .map k e es := by
  cases o <;> first | exact ⟨_, _, _, rfl⟩ | (simp [HObj.kd] at h)
theorem HObj.kd_loop {o : HObj} (h : o.kd = 3) : ∃ L, o = .loop L := by
  cases o <;> first | exact ⟨_, rfl⟩ | (simp [HObj.kd] at h)
section
variable {C C' : Ctx}
mutual
theorem V.weaken {C : Ctx} {v : AV} {u : Value} : V C true v u → V C false v u
  | .bool _ b => .bool _ b
  | .int _ k n => .int _ k n
  | .str _ s => .str _ s
  | .nilp _ => .nilp _
  | .nils _ => .nils _
  | .nilf _ => .nilf _
  | .nili _ => .nili _
  | .nilm _ => .nilm _
  | .fn _ f a b as bs h1 h2 => .fn _ f a b as bs h1.weaken h2.weaken
  | .iface _ t v u h => .iface _ t v u h.weaken
  | .agg _ cs us h0 h => .agg _ cs us h0 h.weaken
  | .tup _ cs us h => .tup _ cs us h.weaken
  | .rop _ cs a us h0 h1 h2 h3 h4 => .rop _ cs a us h0 h1 h2 h3 h4
  | .sh _ z es a c us h1 h2 h3 h4 h5 h6 => .sh _ z es a c us h1 h2 h3 h4 h5 h6
  | .lit _ z es a us h1 h2 h3 h4 h5 => .lit _ z es a us h1 h2 h3 h4 h5
theorem Vs.weaken {C : Ctx} {vs : List AV} {us : List Value} : Vs C true vs us → Vs C false vs us
  | .nil _ => .nil _
  | .cons _ v u vs us h1 h2 => .cons _ v u vs us h1.weaken h2.weaken
end
theorem V.weakenB {C : Ctx} {p : Bool} {v : AV} {u : Value} (h : V C p v u) : V C false v u := by
  cases p
  · exact h
  · exact h.weaken
theorem Vs.weakenB {C : Ctx} {p : Bool} {v : List AV} {u : List Value} (h : Vs C p v u) : Vs C false v u := by
  cases p
  · exact h
  · exact h.weaken
theorem q8a (h : EvV C C') {a : Addr} {u : Value} (hk : C.κ a.block = .imm) (hb : a.block < C.w.heap.size) {j : Nat} (hc : C.w.cell? (a.add j) = some u) : C'.w.cell? (a.add j) = some u := by
  have hab : (a.add j).block = a.block := by unfold Addr.add; split <;> rfl
  have := (h.imm a.block hb hk).1
  rw [← hc]
  exact World.cell?_of_block (by rw [hab]; exact this)
mutual
theorem V.evV {C C' : Ctx} (h : EvV C C') {p : Bool} {v : AV} {u : Value} : V C p v u → V C' p v u
  | .undef u => .undef u
  | .bool _ b => .bool _ b
  | .int _ k n => .int _ k n
  | .str _ s => .str _ s
  | .nilp _ => .nilp _
  | .nils _ => .nils _
  | .nilf _ => .nilf _
  | .nili _ => .nili _
  | .nilm _ => .nilm _
  | .fn _ f a b as bs h1 h2 => .fn _ f a b as bs (h1.evV h) (h2.evV h)
  | .iface _ t v u h1 => .iface _ t v u (h1.evV h)
  | .agg _ cs us h0 h1 => .agg _ cs us h0 (h1.evV h)
  | .tup _ cs us h1 => .tup _ cs us (h1.evV h)
  | .rop _ cs a us h0 h1 h2 h3 h4 => .rop _ cs a us h0 (h1.evV h) (fun j u hu => q8a h h3 h4 (h2 j u hu)) (h.imm _ h4 h3).2 (Nat.lt_of_lt_of_le h4 h.size)
  | .sh _ z es a c us h1 h2 h3 h4 h5 h6 => .sh _ z es a c us (h1.evV h) h2 (fun j u hu => by
      have hne : es ≠ [] := by
        rintro rfl
        cases h1
        simp at hu
      exact q8a h (h4 hne).1 (h4 hne).2 (h3 j u hu)) (fun hne => ⟨(h.imm _ (h4 hne).2 (h4 hne).1).2, Nat.lt_of_lt_of_le (h4 hne).2 h.size⟩) h5 h6
  | .lit _ z es a us h1 h2 h3 h4 h5 => .lit _ z es a us (h1.evV h) h2 (fun j u hu => by
      have hne : es ≠ [] := by
        rintro rfl
        cases h1
        simp at hu
      exact q8a h (h4 hne).1 (h4 hne).2 (h3 j u hu)) (fun hne => ⟨(h.imm _ (h4 hne).2 (h4 hne).1).2, Nat.lt_of_lt_of_le (h4 hne).2 h.size⟩) h5
  | .ptr id ver i off u h0 h1 => .ptr id ver i off u h0 ⟨Nat.lt_of_lt_of_le h1.1 h.hlen, fun v' sz ty es hr => by
      obtain ⟨v, es0, hz, hv, hx⟩ := h.rows id h1.1 v' sz ty es hr
      obtain ⟨h2, h3⟩ := h1.2 v sz ty es0 hz
      refine ⟨Nat.le_trans h2 hv, fun e => ?_⟩
      have e0 : v = v' := by omega
      rw [(hx e0).1]
      exact h3 (by omega)⟩
  | .sl id ver off n cap u h0 h1 => .sl id ver off n cap u h0 ⟨Nat.lt_of_lt_of_le h1.1 h.hlen, fun v' sz ty es hr => by
      obtain ⟨v, es0, hz, hv, hx⟩ := h.rows id h1.1 v' sz ty es hr
      obtain ⟨h2, h3⟩ := h1.2 v sz ty es0 hz
      refine ⟨Nat.le_trans h2 hv, fun e => ?_⟩
      have e0 : v = v' := by omega
      obtain ⟨a, c, g1, g2, g3, g4, g5, g6⟩ := h3 (by omega)
      obtain ⟨hx1, hx2⟩ := hx e0
      refine ⟨a, c, g1, g2, g3, g4, by rw [hx1]; exact g5, fun cells t fr hc => ?_⟩
      rw [hx1] at hc ⊢
      obtain ⟨c', t', f', hc', hs⟩ := hx2 cells t fr hc
      rw [hs]
      exact g6 c' t' f' hc'⟩
  | .it id u h0 h1 => .it id u h0 ⟨Nat.lt_of_lt_of_le h1.1 h.hlen, fun l pos hr => by
      obtain ⟨⟨o, hz, k⟩, e⟩ := h.oths id h1.1 _ rfl hr
      obtain ⟨l0, p0, rfl⟩ := HObj.kd_iter k
      rw [e]
      exact h1.2 l0 p0 hz⟩
  | .mp id u h0 h1 => .mp id u h0 ⟨Nat.lt_of_lt_of_le h1.1 h.hlen, fun k e es hr => by
      obtain ⟨⟨o, hz, k⟩, r⟩ := h.oths id h1.1 _ rfl hr
      obtain ⟨k0, e0, es0, rfl⟩ := HObj.kd_map k
      rw [r]
      exact h1.2 k0 e0 es0 hz⟩
  | .yl id u h0 h1 => .yl id u h0 ⟨Nat.lt_of_lt_of_le h1.1 h.hlen, fun L hr => by
      obtain ⟨⟨o, hz, k⟩, r⟩ := h.oths id h1.1 _ rfl hr
      obtain ⟨L0, rfl⟩ := HObj.kd_loop k
      rw [r]
      exact h1.2 L0 hz⟩
theorem Vs.evV {C C' : Ctx} (h : EvV C C') {p : Bool} {vs : List AV} {us : List Value} : Vs C p vs us → Vs C' p vs us
  | .nil _ => .nil _
  | .cons _ v u vs us h1 h2 => .cons _ v u vs us (h1.evV h) (h2.evV h)
end
theorem V.ev {C C' : Ctx} {p : Bool} {v : AV} {u : Value} (g : V C p v u) (h : Ev C C') : V C' p v u := g.evV h.toV
theorem Vs.ev {C C' : Ctx} {p : Bool} {vs : List AV} {us : List Value} (g : Vs C p vs us) (h : Ev C C') : Vs C' p vs us := g.evV h.toV
end
end Go.Den

/- DEN, part E: the small heap and the frame stand for memory; what follows for values, slots and operands. -/
namespace Go.Den
open Go.RowKit
section lists
variable {C : Ctx} {p : Bool}
theorem Vs.length {vs : List AV} {us : List Value} (h : Vs C p vs us) : us.length = vs.length := by
  induction vs generalizing us with
  | nil => cases h; rfl
  | cons v vs ih => cases h with | cons _ _ u _ us h1 h2 => simp [ih h2]
theorem Vs.append {a b : List AV} {x y : List Value} (h : Vs C p a x) (g : Vs C p b y) : Vs C p (a ++ b) (x ++ y) := by
  induction a generalizing x with
  | nil => cases h; exact g
  | cons v a ih => cases h with | cons _ _ u _ us h1 h2 => exact .cons _ _ _ _ _ h1 (ih h2)
theorem Vs.get {vs : List AV} {us : List Value} (h : Vs C p vs us) {i : Nat} {v : AV} (hv : vs[i]? = some v) : ∃ u, us[i]? = some u ∧ V C p v u := by
  induction vs generalizing us i with
  | nil => simp at hv
  | cons x vs ih =>
    cases h with
    | cons _ _ u _ us h1 h2 =>
      cases i with
      | zero => simp at hv; subst hv; exact ⟨u, by simp, h1⟩
      | succ i => simp at hv; simpa using ih h2 hv
theorem Vs.take {vs : List AV} {us : List Value} (h : Vs C p vs us) (n : Nat) : Vs C p (vs.take n) (us.take n) := by
  induction vs generalizing us n with
  | nil => cases h; simp; exact .nil _
  | cons x vs ih =>
    cases h with
    | cons _ _ u _ us h1 h2 =>
      cases n with
      | zero => exact .nil _
      | succ n => exact .cons _ _ _ _ _ h1 (ih h2 n)
theorem Vs.drop {vs : List AV} {us : List Value} (h : Vs C p vs us) (n : Nat) : Vs C p (vs.drop n) (us.drop n) := by
  induction vs generalizing us n with
  | nil => cases h; simp; exact .nil _
  | cons x vs ih =>
    cases h with
    | cons _ _ u _ us h1 h2 =>
      cases n with
      | zero => exact .cons _ _ _ _ _ h1 h2
      | succ n => exact ih h2 n
theorem Vs.split {a b : List AV} {us : List Value} (h : Vs C p (a ++ b) us) : Vs C p a (us.take a.length) ∧ Vs C p b (us.drop a.length) := by
  have h1 := h.take a.length
  have h2 := h.drop a.length
  simp at h1 h2
  exact ⟨h1, h2⟩
end lists
theorem q45 {u : Value} (h : u.oneCell' = true) : u.cells.toList = [u] := by
  cases u <;> first | rfl | simp [Value.oneCell'] at h
theorem V.one {C : Ctx} {p : Bool} {v : AV} {u : Value} (h : V C p v u) (hv : v.one = true) : u.oneCell' = true := by
  cases h with
  | undef _ => simp [AV.one] at hv
  | agg _ _ _ _ _ => simp [AV.one] at hv
  | tup _ _ _ _ => simp [AV.one] at hv
  | ptr _ _ _ _ _ h0 _ => exact h0
  | sl _ _ _ _ _ _ h0 _ => exact h0
  | it _ _ h0 _ => exact h0
  | mp _ _ h0 _ => exact h0
  | yl _ _ h0 _ => exact h0
  | _ => rfl
theorem Vs.one {C : Ctx} {p : Bool} {vs : List AV} {us : List Value} (h : Vs C p vs us) (hv : ∀ v ∈ vs, v.one = true) : ∀ u ∈ us, u.oneCell' = true := by
  induction vs generalizing us with
  | nil => cases h; simp
  | cons v vs ih =>
    cases h with
    | cons _ _ u _ us h1 h2 =>
      intro x hx
      rcases List.mem_cons.1 hx with rfl | hx
      · exact h1.one (hv v List.mem_cons_self)
      · exact ih h2 (fun y hy => hv y (List.mem_cons_of_mem _ hy)) x hx
def Good (z : Nat) (e : AV) : Prop := e.cells.length = z ∧ ∀ c ∈ e.cells, c.one = true
theorem V.cells {C : Ctx} {p : Bool} {v : AV} {u : Value} (h : V C p v u) (hv : v.isDef = true) : Vs C p v.cells u.cells.toList ∧ ∀ c ∈ v.cells, c.one = true := by
  cases h with
  | undef u => simp [AV.isDef] at hv
  | agg _ cs us h0 h => exact ⟨h, h0⟩
  | tup _ cs us h => simp [AV.isDef] at hv
  | ptr _ _ _ _ _ h0 h1 => rw [q45 h0]; exact ⟨.cons _ _ _ _ _ (.ptr _ _ _ _ _ h0 h1) (.nil _), by simp [AV.cells, AV.one]⟩
  | sl _ _ _ _ _ _ h0 h1 => rw [q45 h0]; exact ⟨.cons _ _ _ _ _ (.sl _ _ _ _ _ _ h0 h1) (.nil _), by simp [AV.cells, AV.one]⟩
  | it _ _ h0 h1 => rw [q45 h0]; exact ⟨.cons _ _ _ _ _ (.it _ _ h0 h1) (.nil _), by simp [AV.cells, AV.one]⟩
  | mp _ _ h0 h1 => rw [q45 h0]; exact ⟨.cons _ _ _ _ _ (.mp _ _ h0 h1) (.nil _), by simp [AV.cells, AV.one]⟩
  | yl _ _ h0 h1 => rw [q45 h0]; exact ⟨.cons _ _ _ _ _ (.yl _ _ h0 h1) (.nil _), by simp [AV.cells, AV.one]⟩
  | rop _ cs a us h0 h1 h2 h3 h4 => exact ⟨.cons _ _ _ _ _ (.rop _ _ _ _ h0 h1 h2 h3 h4) (.nil _), by simp [AV.cells, AV.one]⟩
  | sh _ z es a c us h1 h2 h3 h4 h5 h6 => exact ⟨.cons _ _ _ _ _ (.sh _ _ _ _ _ _ h1 h2 h3 h4 h5 h6) (.nil _), by simp [AV.cells, AV.one]⟩
  | lit _ z es a us h1 h2 h3 h4 h5 => exact ⟨.cons _ _ _ _ _ (.lit _ _ _ _ _ h1 h2 h3 h4 h5) (.nil _), by simp [AV.cells, AV.one]⟩
  | fn _ f a b as bs h1 h2 => exact ⟨.cons _ _ _ _ _ (.fn _ _ _ _ _ _ h1 h2) (.nil _), by simp [AV.cells, AV.one]⟩
  | iface _ t v u h1 => exact ⟨.cons _ _ _ _ _ (.iface _ _ _ _ h1) (.nil _), by simp [AV.cells, AV.one]⟩
  | _ => exact ⟨.cons _ _ _ _ _ (by constructor) (.nil _), by simp [AV.cells, AV.one]⟩
theorem nofr {n : Nat} {fr : Nat × Nat} (h : fr.1 = fr.2 ∨ n ≤ fr.1) : ∀ j, j < n → ¬ (fr.1 ≤ j ∧ j < fr.2) := fun j hj hc => by omega
def RowAt (C : Ctx) (id sz : Nat) (ty : TypeId) (es : List AV) : Prop :=
  0 < sz ∧ (∀ e ∈ es, Good sz e) ∧ C.κ (C.ρ id).1 = .obj id ∧
    ∃ cur fr us, C.w.heap[(C.ρ id).1]? = some (.cells cur ty fr) ∧ (fr.1 = fr.2 ∨ cur.size ≤ fr.1) ∧ Vs C false (es.flatMap AV.cells) us ∧ ∀ j u, us[j]? = some u → cur[(C.ρ id).2 + j]? = some u
def KeyOk (x : AV) : Prop := (∃ k n, x = .int k n) ∨ (∃ l, x = .str l) ∨ ∃ b, x = .bool b
inductive EsV (C : Ctx) : List (AV × AV) → List MapEntry → Prop
  | nil : EsV C [] []
  | cons (k v : AV) (e : MapEntry) (es : List (AV × AV)) (us : List MapEntry) : KeyOk k → V C true k e.key → V C false v e.val → EsV C es us → EsV C ((k, v) :: es) (e :: us)
theorem EsV.evV {C C' : Ctx} (ev : EvV C C') {es : List (AV × AV)} {us : List MapEntry} (h : EsV C es us) : EsV C' es us := by
  induction h with
  | nil => exact .nil
  | cons k v e es us h0 h1 h2 _ ih => exact .cons k v e es us h0 (h1.evV ev) (h2.evV ev) ih
def AExit.code : AExit → Code
  | .normal => .skip
  | .exit id => .exit id
  | .ret => .ret
def loopState : Nat → LoopState
  | 0 => .ready
  | 1 => .busy
  | _ => .done
def SlotV (C : Ctx) (st : St) (tmps : Array Value) (t : Nat) : Prop :=
  match st.get t with
  | .val v => V C false v (tmps.getD t undef)
  | .lp _ _ => False
  | .no => True
def codeOk (draws : List (Nat × DInfo)) (ok : Nat → Array Oper → DInfo → Bool) : Code → Bool
  | .region rid ops draw => bif draw then (match drawOf rid draws with | some d => ok rid ops d | none => true) else true
  | .seq a b => codeOk draws ok a && codeOk draws ok b
  | .cond _ a b => codeOk draws ok a && codeOk draws ok b
  | .block _ c => codeOk draws ok c
  | .loop c => codeOk draws ok c
  | .scope c => codeOk draws ok c
  | .rangeFunc _ _ a b => codeOk draws ok a && codeOk draws ok b
  | _ => true
structure LoopV (E : Env) (C : Ctx) (L : LoopD) (rec : Loop) : Prop where
  state : rec.state = loopState L.state
  pending : rec.pending = L.pending.map AExit.code
  params : rec.params.toList = L.ps
  assign : rec.assign = L.assign
  body : rec.body = L.body
  size : rec.tmps.size = L.st.N
  slots : ∀ t, SlotV C L.st rec.tmps t
  novar : ∀ s, L.st.var s = none
  ok1 : codeOk L.fa.draws (q1f E L.fa.sites) L.assign = true
  ok2 : codeOk L.fa.draws (q1f E L.fa.sites) L.body = true
  rf1 : noRF L.assign = true
  rf2 : noRF L.body = true
theorem SlotV.evV {C C' : Ctx} (ev : EvV C C') {st : St} {tmps : Array Value} {t : Nat} (h : SlotV C st tmps t) : SlotV C' st tmps t := by
  unfold SlotV at h ⊢
  split at h
  · exact h.evV ev
  · exact h
  · trivial
theorem LoopV.evV {E : Env} {C C' : Ctx} (ev : EvV C C') {L : LoopD} {rec : Loop} (h : LoopV E C L rec) : LoopV E C' L rec :=
  ⟨h.state, h.pending, h.params, h.assign, h.body, h.size, fun t => (h.slots t).evV ev, h.novar, h.ok1, h.ok2, h.rf1, h.rf2⟩
def OthV (E : Env) (C : Ctx) (ob : Option Obj) : HObj → Prop
  | .iter l pos => ∃ s, s.data.toList = l ∧ ob = some (.stringIter s pos)
  | .map _ _ es => ∃ us, ob = some (.map us us.size) ∧ EsV C es us.toList ∧ ∀ (i : Nat) (e : MapEntry), us[i]? = some e → e.born = i
  | .loop L => ∃ rec, ob = some (.loop rec) ∧ LoopV E C L rec
  | _ => True
def OthAt (E : Env) (C : Ctx) (id : Nat) (o : HObj) : Prop :=
  C.κ (C.ρ id).1 = .obj id ∧ OthV E C C.w.heap[(C.ρ id).1]? o
theorem OthV.evV {E : Env} {C C' : Ctx} (ev : EvV C C') {ob : Option Obj} {o : HObj} (h : OthV E C ob o) : OthV E C' ob o := by
  cases o with
  | iter l pos => exact h
  | map k e es => obtain ⟨us, h1, h2, h3⟩ := h; exact ⟨us, h1, h2.evV ev, h3⟩
  | loop L => obtain ⟨rec, h1, h2⟩ := h; exact ⟨rec, h1, h2.evV ev⟩
  | _ => trivial
theorem OthV.no_cells {E : Env} {C : Ctx} {ob : Option Obj} {o : HObj} (h : OthV E C ob o) (ho : o.oth = true) {cells : Array Value} {t : TypeId} {fr : Nat × Nat} : ob ≠ some (.cells cells t fr) := by
  intro e
  cases o with
  | iter l pos => obtain ⟨s, _, h⟩ := h; rw [h] at e; cases e
  | map k e' es => obtain ⟨us, h1, h2, _⟩ := h; rw [h1] at e; cases e
  | loop L => obtain ⟨rec, h1, h2⟩ := h; rw [h1] at e; cases e
  | _ => cases ho
theorem OthV.some {E : Env} {C : Ctx} {ob : Option Obj} {o : HObj} (h : OthV E C ob o) (ho : o.oth = true) : ∃ x, ob = Option.some x := by
  cases o with
  | iter l pos => obtain ⟨s, _, h⟩ := h; exact ⟨_, h⟩
  | map k e' es => obtain ⟨us, h1, h2, _⟩ := h; exact ⟨_, h1⟩
  | loop L => obtain ⟨rec, h1, h2⟩ := h; exact ⟨_, h1⟩
  | _ => cases ho
structure HR (E : Env) (C : Ctx) : Prop where
  row : ∀ id v sz ty es, C.H[id]? = some (.row v sz ty es) → RowAt C id sz ty es
  oth : ∀ id o, o.oth = true → C.H[id]? = some o → OthAt E C id o
  new : ∀ b, C.w.heap.size ≤ b → C.κ b = .oth
  glob : ∀ g cs, E.glob g = some cs → V C true (.rop cs) (.pointer (some ⟨g, 0, none⟩))
  al : ∀ id v sz ty es, C.H[id]? = some (.row v sz ty es) → (C.ρ id).2 % sz = 0
theorem HR.step {E : Env} {C C' : Ctx} (hr : HR E C) (ev : Ev C C')
    (hrow : ∀ id v sz ty es, C'.H[id]? = some (.row v sz ty es) → (C.H[id]? = some (.row v sz ty es) ∧ C'.ρ id = C.ρ id ∧ C'.κ (C.ρ id).1 = .obj id ∧ C'.w.heap[(C.ρ id).1]? = C.w.heap[(C.ρ id).1]?) ∨ (RowAt C' id sz ty es ∧ (C'.ρ id).2 % sz = 0))
    (hiter : ∀ id o, o.oth = true → C'.H[id]? = some o → (C.H[id]? = some o ∧ C'.ρ id = C.ρ id ∧ C'.κ (C.ρ id).1 = .obj id ∧ C'.w.heap[(C.ρ id).1]? = C.w.heap[(C.ρ id).1]?) ∨ OthAt E C' id o)
    (hnew : ∀ b, C'.w.heap.size ≤ b → C'.κ b = .oth) : HR E C' := by
  refine ⟨fun id v sz ty es h => ?_, fun id o ho h => ?_, hnew, fun g cs h => (hr.glob g cs h).ev ev, fun id v sz ty es h => ?_⟩
  · rcases hrow id v sz ty es h with ⟨h1, h2, h3, h4⟩ | h1
    · obtain ⟨g0, g1, g2, cur, fr, us, g3, g4, g5, g6⟩ := hr.row id v sz ty es h1
      exact ⟨g0, g1, by rw [h2]; exact h3, cur, fr, us, by rw [h2, h4]; exact g3, g4, g5.ev ev, by rw [h2]; exact g6⟩
    · exact h1.1
  · rcases hiter id o ho h with ⟨h1, h2, h3, h4⟩ | h1
    · obtain ⟨g0, g1⟩ := hr.oth id o ho h1
      exact ⟨by rw [h2]; exact h3, by rw [h2, h4]; exact g1.evV ev.toV⟩
    · exact h1
  · rcases hrow id v sz ty es h with ⟨h1, h2, _, _⟩ | h1
    · rw [h2]
      exact hr.al id v sz ty es h1
    · exact h1.2
def SlotOk (C : Ctx) (lam : Nat → Nat) (st : St) (a : Act) (t : Nat) : Prop :=
  match st.get t with
  | .val v => V C false v (a.tmps.getD t undef)
  | .lp s off => a.tmps.getD t undef = .pointer (some ⟨lam s, off, none⟩) ∧ st.var s ≠ none
  | .no => True
def Marks (C : Ctx) : List Deferred → Prop
  | [] => True
  | d :: ds => (∃ D s, d = { target := .collected D, args := #[] } ∧ D < C.w.heap.size ∧ C.κ D = .loc s ∧ C.w.heap[D]? = some (.deferred (some []))) ∧ d ∉ ds ∧ Marks C ds
structure FrameR (C : Ctx) (lam : Nat → Nat) (st : St) (a : Act) : Prop where
  size : a.tmps.size = st.N
  defers : Marks C a.defers
  slots : ∀ t, SlotOk C lam st a t
  vars : ∀ s cs, st.var s = some cs → C.κ (lam s) = .loc s ∧ lam s < C.w.heap.size ∧ ∃ cur ty fr, C.w.heap[lam s]? = some (.cells cur ty fr) ∧ (∀ j, j < cur.size → ¬ (fr.1 ≤ j ∧ j < fr.2)) ∧ Vs C false cs cur.toList ∧ ∀ c ∈ cs, c.one = true
structure EvL (C C' : Ctx) : Prop where
  ev : Ev C C'
  loc : ∀ b, b < C.w.heap.size → ∀ s, C.κ b = .loc s → C'.w.heap[b]? = C.w.heap[b]? ∧ C'.κ b = .loc s
theorem EvL.refl (C : Ctx) : EvL C C := ⟨Ev.refl C, fun _ _ _ h => ⟨rfl, h⟩⟩
theorem Marks.step {C C' : Ctx} (hs : C.w.heap.size ≤ C'.w.heap.size) (h : ∀ b s, b < C.w.heap.size → C.κ b = .loc s → C.w.heap[b]? = some (.deferred (some [])) → C'.w.heap[b]? = C.w.heap[b]? ∧ C'.κ b = .loc s) : ∀ {ds : List Deferred}, Marks C ds → Marks C' ds
  | [], _ => trivial
  | d :: ds, hm => by
    obtain ⟨⟨D, s, h1, h2, h3, h4⟩, h5, h6⟩ := hm
    obtain ⟨g1, g2⟩ := h D s h2 h3 h4
    exact ⟨⟨D, s, h1, Nat.lt_of_lt_of_le h2 hs, g2, g1.trans h4⟩, h5, Marks.step hs h h6⟩
theorem qgn {C : Ctx} : ∀ {ds : List Deferred}, Marks C ds → ({ target := .collected C.w.heap.size, args := #[] } : Deferred) ∉ ds
  | [], _ => by simp
  | d :: ds, hm => by
    obtain ⟨⟨D, s, h1, h2, _, _⟩, _, h6⟩ := hm
    intro h
    rcases List.mem_cons.1 h with h | h
    · rw [h1] at h
      injection h with h _
      injection h with h
      omega
    · exact qgn h6 h
theorem Marks.ev {C C' : Ctx} (g : EvL C C') {ds : List Deferred} (h : Marks C ds) : Marks C' ds :=
  h.step g.ev.size fun b s hb hk _ => g.loc b hb s hk
theorem EvL.trans {A B C : Ctx} (h : EvL A B) (g : EvL B C) : EvL A C :=
  ⟨h.ev.trans g.ev, fun b hb s hs => by
    obtain ⟨h1, h2⟩ := h.loc b hb s hs
    obtain ⟨g1, g2⟩ := g.loc b (Nat.lt_of_lt_of_le hb h.ev.size) s h2
    exact ⟨g1.trans h1, g2⟩⟩
theorem FrameR.ev {C C' : Ctx} {lam : Nat → Nat} {st : St} {a : Act} (h : FrameR C lam st a) (g : EvL C C') : FrameR C' lam st a := by
  refine ⟨h.size, h.defers.ev g, fun t => ?_, fun s cs hs => ?_⟩
  · have ht := h.slots t
    unfold SlotOk at ht ⊢
    split at ht
    · exact ht.ev g.ev
    · exact ht
    · trivial
  · obtain ⟨h1, h2, cur, ty, fr, h3, h4, h5, h6⟩ := h.vars s cs hs
    obtain ⟨g1, g2⟩ := g.loc _ h2 s h1
    exact ⟨g2, Nat.lt_of_lt_of_le h2 g.ev.size, cur, ty, fr, g1.trans h3, h4, h5.ev g.ev, h6⟩
theorem q5n {xs : Array Value} {i : Nat} {v : Value} (h : i < xs.size) : (xs.setIfInBounds i v).getD i undef = v := by
  simp [Array.getD_eq_getD_getElem?, h]
theorem q8n {xs : Array Value} {i j : Nat} {v : Value} (h : i ≠ j) : (xs.setIfInBounds i v).getD j undef = xs.getD j undef := by
  simp [Array.getD_eq_getD_getElem?, Array.getElem?_setIfInBounds_ne h]
theorem St.get_put_ne {st : St} {i j : Nat} {x : SV} (h : i ≠ j) : (st.put i x).get j = st.get j := Tr.get_set_ne h
theorem St.get_put_self {st : St} {i : Nat} {x : SV} : (st.put i x).get i = x ∨ (st.put i x).get i = .no := by
  rcases Tr.get_set_self (z := SV.no) (t := st.slots) (i := i) (x := x) with h | h
  · exact .inl h
  · exact .inr h.1
theorem FrameR.put {C : Ctx} {lam : Nat → Nat} {st : St} {a : Act} (h : FrameR C lam st a) {d : Option Tmp} {x : SV} {u : Value}
    (hx : match x with | .val v => V C false v u | .lp s off => u = .pointer (some ⟨lam s, off, none⟩) ∧ st.var s ≠ none | .no => True) : FrameR C lam (stPut st d x) (a.put d u) := by
  cases d with
  | none => exact h
  | some t =>
    show FrameR C lam (if t < st.N then st.put t x else st) { a with tmps := a.tmps.setIfInBounds t u }
    by_cases hlt : t < st.N
    · rw [if_pos hlt]
      refine ⟨by rw [Array.size_setIfInBounds]; exact h.size, h.defers, fun i => ?_, h.vars⟩
      by_cases e : t = i
      · subst e
        have hg : (a.tmps.setIfInBounds t u).getD t undef = u := q5n (by rw [h.size]; exact hlt)
        show SlotOk C lam (st.put t x) _ t
        unfold SlotOk
        rcases St.get_put_self (st := st) (i := t) (x := x) with h1 | h1
        · rw [h1]
          dsimp only
          rw [hg]
          exact hx
        · rw [h1]
          trivial
      · have hi := h.slots i
        show SlotOk C lam (st.put t x) _ i
        unfold SlotOk at hi ⊢
        rw [St.get_put_ne e]
        dsimp only
        rw [q8n e]
        exact hi
    · rw [if_neg hlt]
      have : a.tmps.setIfInBounds t u = a.tmps := by
        simp [Array.setIfInBounds, h.size, hlt]
      rw [this]
      exact h
theorem St.put_var {st : St} {d : Option Tmp} {x : SV} {s : Nat} : (stPut st d x).var s = st.var s := by
  cases d with
  | none => rfl
  | some t =>
    show (if t < st.N then st.put t x else st).var s = st.var s
    split <;> rfl
section consts
theorem mapM_vs {C : Ctx} {f : Value → Option AV} (hf : ∀ u v, f u = some v → V C true v u) : ∀ {us : List Value} {vs : List AV}, us.mapM f = some vs → Vs C true vs us
  | [], vs, h => by simp at h; subst h; exact .nil _
  | u :: us, vs, h => by
    rw [List.mapM_cons] at h
    simp only [Option.bind_eq_bind, Option.bind_eq_some_iff] at h
    obtain ⟨v, hv, ws, hw, e⟩ := h
    simp only [Option.pure_def, Option.some.injEq] at e
    subst e
    exact .cons _ _ _ _ _ (hf _ _ hv) (mapM_vs hf hw)
theorem q25 {C : Ctx} : ∀ {n : Nat} {u : Value} {v : AV}, q21 n u = some v → V C true v u
  | 0, _, _, h => by simp [q21] at h
  | n + 1, u, v, h => by
    unfold q21 at h
    split at h
    · simp at h; subst h; exact .bool _ _
    · simp at h; subst h; exact .int _ _ _
    · simp at h; subst h; exact .str _ _
    · simp at h; subst h; exact .nilp _
    · simp at h; subst h; exact .nils _
    · simp at h; subst h; exact .nilm _
    · simp at h; subst h; exact .nilf _
    · simp at h; subst h; exact .nili _
    · rename_i cs
      split at h
      · rename_i vs h1
        cases ho : vs.all AV.one
        · rw [ho] at h; simp at h
        · rw [ho] at h
          simp at h
          subst h
          exact .agg _ _ _ (fun c hc => List.all_eq_true.1 ho c hc) (mapM_vs (fun u v => q25) h1)
      · simp at h
    · simp at h
end consts
theorem q22 {C : Ctx} {lam : Nat → Nat} {st : St} {a : Act} (h : FrameR C lam st a) {t : Nat} {v : AV} (hv : st.get t = .val v) : V C false v (a.eval (.tmp t)) := by
  have := h.slots t
  unfold SlotOk at this
  rw [hv] at this
  exact this
theorem q5g {C : Ctx} {lam : Nat → Nat} {st : St} {a : Act} (h : FrameR C lam st a) {t s off : Nat} (hv : st.get t = .lp s off) : a.eval (.tmp t) = .pointer (some ⟨lam s, off, none⟩) ∧ st.var s ≠ none := by
  have := h.slots t
  unfold SlotOk at this
  rw [hv] at this
  exact this
theorem q09 {E : Env} {C : Ctx} {lam : Nat → Nat} {st : St} {a : Act} (hr : HR E C) (h : FrameR C lam st a) {x : Operand} {v : AV} (hv : st.eval E x = some v) : V C false v (a.eval x) := by
  cases x with
  | tmp t =>
    change (match st.get t with | .val v => some v | _ => none) = some v at hv
    split at hv
    · rename_i w hw
      simp at hv
      subst hv
      exact q22 h hw
    · simp at hv
  | const u => exact (q25 hv).weaken
  | func f =>
    simp [St.eval] at hv
    subst hv
    exact .fn _ _ _ _ _ _ (.nil _) (.nil _)
  | global g =>
    simp only [St.eval, Option.map_eq_some_iff] at hv
    obtain ⟨cs, h1, rfl⟩ := hv
    exact (hr.glob g cs h1).weaken
theorem q5m {E : Env} {C : Ctx} {lam : Nat → Nat} {st : St} {a : Act} (hr : HR E C) (h : FrameR C lam st a) : ∀ {xs : List Operand} {vs : List AV}, evals E st xs = some vs → Vs C false vs (xs.map a.eval)
  | [], vs, hv => by simp [evals] at hv; subst hv; exact .nil _
  | x :: xs, vs, hv => by
    unfold evals at hv
    split at hv
    · rename_i v h1
      split at hv
      · rename_i ws h2
        simp at hv
        subst hv
        exact .cons _ _ _ _ _ (q09 hr h h1) (q5m hr h h2)
      · simp at hv
    · simp at hv
end Go.Den

/- DEN, part F: what the operations on plain values come to. -/
namespace Go.Den
open Go.RowKit
section
variable {E : Env} {C : Ctx} {p q : Bool} {w : World}
theorem V.int_inv {u : Value} {k : IntKind} {n : Int} (h : V C p (.int k n) u) : u = .int k n := by cases h; rfl
theorem V.bool_inv {u : Value} {b : Bool} (h : V C p (.bool b) u) : u = .bool b := by cases h; rfl
theorem V.str_inv {u : Value} {l : List UInt8} (h : V C p (.str l) u) : ∃ s : ByteArray, s.data.toList = l ∧ u = .string s := by
  generalize e : AV.str l = v at h
  cases h <;> first | (injection e with e; exact ⟨_, e.symm, rfl⟩) | (exact absurd e (by simp))
theorem V.agg_inv {u : Value} {cs : List AV} (h : V C p (.agg cs) u) : ∃ us : Array Value, u = .agg us ∧ Vs C p cs us.toList := by
  cases h with | agg _ _ us h0 h => exact ⟨us, rfl, h⟩
theorem bin_int {op : BinOp} {k k' : IntKind} {a b : Int} {v : AV} (t : TypeId) (hk : k = k' ∨ op = .shl ∨ op = .shr) (h : A.binInt op k a b = some v) :
    (binOp op t (.int k a) (.int k' b)).run E.P w = .ok (match v with | .int j n => .int j n | .bool b => .bool b | _ => undef) w ∧ V C true v (match v with | .int j n => .int j n | .bool b => .bool b | _ => undef) := by
  cases op <;> simp only [A.binInt, A.bits] at h
  all_goals first
    | (rcases hk with rfl | hk | hk)
    | skip
  all_goals first
    | (simp at hk; done)
    | skip
  all_goals (try (split at h <;> first | (simp at h; done) | skip))
  all_goals (simp only [Option.some.injEq, Option.map_some] at h; subst h)
  all_goals refine ⟨?_, by first | exact .int _ _ _ | exact .bool _ _⟩
  all_goals simp [binOp, Op.intArith, Op.intDiv, Op.intBits, Op.intCmp, Op.shift, *]
theorem qb8 {op : BinOp} {k k' : IntKind} {a b : Int} {v : AV} (E : Env) (C : Ctx) (w : World) (t : TypeId) (hk : k = k' ∨ op = .shl ∨ op = .shr) (h : A.binInt op k a b = some v) :
    ∃ u, (binOp op t (.int k a) (.int k' b)).run E.P w = .ok u w ∧ V C true v u :=
  ⟨_, bin_int (E := E) (C := C) (w := w) t hk h⟩
theorem bin_str {op : BinOp} {s s' : ByteArray} {v : AV} (t : TypeId) (h : A.binStr op s.data.toList s'.data.toList = some v) :
    ∃ u, (binOp op t (.string s) (.string s')).run E.P w = .ok u w ∧ V C true v u := by
  cases op <;> simp only [A.binStr] at h
  case add =>
    split at h
    · rename_i hl
      simp only [Option.some.injEq] at h
      subst h
      refine ⟨.string (s ++ s'), ?_, ?_⟩
      · simp only [binOp, Op.stringOp]
        have h1 : ¬ (((s.size + s'.size : Nat) : Int) > IntKind.i64.max) := by
          have e1 : s.size = s.data.toList.length := by rw [Array.length_toList]; rfl
          have e2 : s'.size = s'.data.toList.length := by rw [Array.length_toList]; rfl
          rw [e1, e2]
          have : IntKind.i64.max = 9223372036854775807 := by decide
          rw [this]
          omega
        rw [if_neg h1]
        rfl
      · have : s.data.toList ++ s'.data.toList = (s ++ s').data.toList := by simp
        rw [this]
        exact .str _ _
    · simp at h
  all_goals first
    | (simp only [Option.some.injEq] at h; subst h; refine ⟨.bool _, ?_, .bool _ _⟩; simp [binOp, Op.stringOp, ByteArray.toList_eq]; done)
    | (exact absurd h (by simp))
theorem qd9 {P : Program} {t : TypeId} {x y : AV} {u1 u2 : Value} {b : Bool} (d : Nat) (h : A.eqFlat (P.underlying t) x y = some b) (hx : V C p x u1) (hy : V C q y u2) : (Op.equalIn (d + 1) t u1 u2).run P w = .ok b w := by
  unfold A.eqFlat at h
  split at h
  · rename_i j k a k' b' hd
    have e1 := hx.int_inv
    have e2 := hy.int_inv
    subst e1 e2
    by_cases hk : k = k'
    · subst hk
      simp at h
      subst h
      exact run_equalIn_int w d t k _ a b' hd
    · simp [hk] at h
  · rename_i a b' hd
    obtain ⟨s, rfl, rfl⟩ := hx.str_inv
    obtain ⟨s', rfl, rfl⟩ := hy.str_inv
    simp only [Option.some.injEq] at h
    subst h
    have := run_equalIn_string (P := P) w d t s s' hd
    rw [ByteArray.toList_eq, ByteArray.toList_eq] at this
    exact this
  · rename_i a b' hd
    have e1 := hx.bool_inv
    have e2 := hy.bool_inv
    subst e1 e2
    simp only [Option.some.injEq] at h
    subst h
    exact run_equalIn_bool' w d t _ _ hd
  · simp at h
theorem q7b {P : Program} {t : TypeId} {x y : AV} {b : Bool} (h : A.eqFlat (P.underlying t) x y = some b) : (isAgg t).run P w = .ok false w := by
  unfold A.eqFlat at h
  split at h <;> first | (rename_i hd; simp [isAgg, underlying, hd]; done) | (simp at h; done)
theorem q60 {P : Program} {t : TypeId} {us : Array Value} {off : Nat} {u : Value} (h1 : (isAgg t).run P w = .ok false w) (h2 : us[off]? = some u) : (part t us off).run P w = .ok u w := by
  simp [part, h1, h2]
theorem q53 {P : Program} (d : Nat) {xs ys : List AV} {us vs : Array Value} (hx : Vs C p xs us.toList) (hy : Vs C q ys vs.toList) : ∀ {fs : List Field} {b : Bool}, A.eqFields P fs xs ys = some b → (Op.eqFields (d + 1) us vs fs).run P w = .ok b w
  | [], b, h => by
    simp [A.eqFields] at h
    subst h
    simp [Op.eqFields]
  | f :: fs, b, h => by
    unfold A.eqFields at h
    unfold Op.eqFields
    by_cases hn : f.name = "_"
    · have hb : (f.name == "_") = true := by simp [hn]
      rw [hb] at h
      rw [if_neg (by simpa using hn)]
      exact q53 d hx hy h
    · have hb : (f.name == "_") = false := by simp [hn]
      rw [hb] at h
      rw [if_pos hn]
      dsimp only [cond_false] at h
      split at h
      · rename_i x y h1 h2
        obtain ⟨u1, g1, k1⟩ := hx.get h1
        obtain ⟨u2, g2, k2⟩ := hy.get h2
        have g1' : us[f.offset]? = some u1 := by simpa using g1
        have g2' : vs[f.offset]? = some u2 := by simpa using g2
        split at h
        · rename_i he
          have ha := q7b (w := w) he
          simp only [Sem.run_bind, q60 ha g1', q60 ha g2', Result.andThen_ok, qd9 (w := w) d he k1 k2]
          simpa using q53 d hx hy h
        · rename_i he
          have ha := q7b (w := w) he
          simp only [Sem.run_bind, q60 ha g1', q60 ha g2', Result.andThen_ok, qd9 (w := w) d he k1 k2]
          simp at h
          subst h
          simp
        · simp at h
      · simp at h
def Other (u : Value) : Prop :=
  match u with
  | .int _ _ | .string _ | .float _ _ | .complex _ _ _ | .agg _ => False
  | _ => True
theorem q1i {P : Program} {t : TypeId} {u1 u2 : Value} {b : Bool} (h : ∀ d, (Op.equalIn (d + 1) t u1 u2).run P w = .ok b w) : (Op.equal t u1 u2).run P w = .ok b w := h 9999
theorem qg6 {P : Program} {t : TypeId} {x y : AV} {u1 u2 : Value} {b yc : Bool} {xo yo : Operand} {op : BinOp} (hc : yc = true → ∃ c, yo = .const c) (h : A.eqNil (P.underlying t) x y yc = some b) (hx : V C p x u1) (hy : V C q y u2) :
    (eqGuard op t xo yo u1 u2).run P w = .ok () w ∧ (Op.equal t u1 u2).run P w = .ok b w ∧ Other u1 := by
  unfold A.eqNil at h
  split at h
  · rename_i e hd
    split at h
    · cases hy
      split at h
      · cases hx
        simp only [Option.some.injEq] at h
        subst h
        exact ⟨by cases op <;> rfl, q1i fun d => by simp only [Op.equalIn, Sem.run_bind, run_underlying hd, Result.andThen_ok]; rfl, trivial⟩
      · cases hx
        simp only [Option.some.injEq] at h
        subst h
        exact ⟨by cases op <;> rfl, q1i fun d => by simp only [Op.equalIn, Sem.run_bind, run_underlying hd, Result.andThen_ok]; rfl, trivial⟩
      · simp at h
    · simp at h
  · rename_i e hd
    split at h
    · cases hy
      split at h
      · cases hx
        simp only [Option.some.injEq] at h
        subst h
        exact ⟨by cases op <;> rfl, q1i fun d => by simp only [Op.equalIn, Sem.run_bind, run_underlying hd, Result.andThen_ok]; rfl, trivial⟩
      · cases hx
        simp only [Option.some.injEq] at h
        subst h
        exact ⟨by cases op <;> rfl, q1i fun d => by simp only [Op.equalIn, Sem.run_bind, run_underlying hd, Result.andThen_ok]; rfl, trivial⟩
      · simp at h
    · simp at h
  · rename_i hd
    split at h
    · cases hy
      split at h
      · cases hx
        simp only [Option.some.injEq] at h
        subst h
        exact ⟨by cases op <;> rfl, q1i fun d => by simp only [Op.equalIn, Sem.run_bind, run_underlying hd, Result.andThen_ok]; rfl, trivial⟩
      · cases hx
        simp only [Option.some.injEq] at h
        subst h
        exact ⟨by cases op <;> rfl, q1i fun d => by simp only [Op.equalIn, Sem.run_bind, run_underlying hd, Result.andThen_ok]; rfl, trivial⟩
      · simp at h
    · simp at h
  · rename_i hd
    split at h
    · cases hy
      split at h
      · cases hx
        simp only [Option.some.injEq] at h
        subst h
        exact ⟨by cases op <;> rfl, q1i fun d => by simp only [Op.equalIn, Sem.run_bind, run_underlying hd, Result.andThen_ok]; rfl, trivial⟩
      · simp at h
    · simp at h
  · rename_i hd
    cases yc
    · simp at h
    · obtain ⟨c, rfl⟩ := hc rfl
      dsimp only [cond_true] at h
      split at h
      · cases hy
        split at h
        · cases hx
          simp only [Option.some.injEq] at h
          subst h
          exact ⟨by cases op <;> cases xo <;> rfl, q1i fun d => by simp only [Op.equalIn, Sem.run_bind, run_underlying hd, Result.andThen_ok]; rfl, trivial⟩
        · cases hx
          simp only [Option.some.injEq] at h
          subst h
          exact ⟨by cases op <;> rfl, q1i fun d => by simp only [Op.equalIn, Sem.run_bind, run_underlying hd, Result.andThen_ok]; rfl, trivial⟩
        · simp at h
      · simp at h
  · simp at h
theorem q1y {H : Heap} {id ver : Nat} (h : A.alive H id ver = true) : ∃ sz ty es, H[id]? = some (.row ver sz ty es) := by
  unfold A.alive at h
  split at h
  · rename_i v sz ty es hr
    have : v = ver := by simpa using h
    subst this
    exact ⟨sz, ty, es, hr⟩
  · simp at h
theorem qda {P : Program} {t : TypeId} {x y : AV} {u1 u2 : Value} {b : Bool} {xo yo : Operand} {op : BinOp} (h : A.eqNilH (P.underlying t) x y C.H = some b) (hx : V C p x u1) (hy : V C q y u2) :
    (eqGuard op t xo yo u1 u2).run P w = .ok () w ∧ (Op.equal t u1 u2).run P w = .ok b w ∧ Other u1 := by
  unfold A.eqNilH at h
  split at h
  · rename_i e hd
    split at h
    · cases hy
      split at h
      · rename_i id ver i off
        cases hx with
        | ptr _ _ _ _ _ h0 h1 =>
          cases ha : A.alive C.H id ver
          · rw [ha] at h; simp at h
          · rw [ha] at h
            simp only [cond_true, Option.some.injEq] at h
            subst h
            obtain ⟨sz, ty, es, hr⟩ := q1y ha
            have := (h1.2 ver sz ty es hr).2 rfl
            subst this
            exact ⟨by cases op <;> rfl, q1i fun d => by simp only [Op.equalIn, Sem.run_bind, run_underlying hd, Result.andThen_ok]; rfl, trivial⟩
      · simp at h
    · simp at h
  · rename_i e hd
    split at h
    · cases hy
      split at h
      · rename_i id ver off n cap
        cases hx with
        | sl _ _ _ _ _ _ h0 h1 =>
          cases ha : A.alive C.H id ver
          · rw [ha] at h; simp at h
          · rw [ha] at h
            simp only [cond_true, Option.some.injEq] at h
            subst h
            obtain ⟨sz, ty, es, hr⟩ := q1y ha
            obtain ⟨a, c, hu, _⟩ := (h1.2 ver sz ty es hr).2 rfl
            subst hu
            exact ⟨by cases op <;> rfl, q1i fun d => by simp only [Op.equalIn, Sem.run_bind, run_underlying hd, Result.andThen_ok]; rfl, trivial⟩
      · simp at h
    · simp at h
  · rename_i ke e hd
    split at h
    · cases hy
      split at h
      · rename_i id
        cases hx with
        | mp _ _ h0 h1 =>
          split at h
          · rename_i k e' es hm
            simp only [Option.some.injEq] at h
            subst h
            have := h1.2 k e' es hm
            subst this
            exact ⟨by cases op <;> rfl, q1i fun d => by simp only [Op.equalIn, Sem.run_bind, run_underlying hd, Result.andThen_ok]; rfl, trivial⟩
          · simp at h
      · simp at h
    · simp at h
  · simp at h
theorem qg7 {t : TypeId} {x y : AV} {u1 u2 : Value} {b : Bool} {xo yo : Operand} {op : BinOp} (h : A.eqPtr E.P (E.P.underlying t) x y C.H = some b) (hx : V C p x u1) (hy : V C q y u2) :
    (eqGuard op t xo yo u1 u2).run E.P w = .ok () w ∧ (Op.equal t u1 u2).run E.P w = .ok b w ∧ Other u1 := by
  unfold A.eqPtr at h
  split at h
  · rename_i e hd
    split at h
    · rename_i id ver i off
      split at h
      · rename_i id' ver' i' off'
        cases hc : (A.alive C.H id ver && (E.P.info? e).isSome && Nat.beq id id' && Nat.beq ver ver' && Nat.beq i i' && Nat.beq off off')
        · rw [hc] at h; simp at h
        · rw [hc] at h
          simp only [cond_true, Option.some.injEq] at h
          subst h
          simp only [Bool.and_eq_true, Nat.beq_eq] at hc
          obtain ⟨⟨⟨⟨⟨ha, hi⟩, rfl⟩, rfl⟩, rfl⟩, rfl⟩ := hc
          cases hx with
          | ptr _ _ _ _ _ h0 h1 =>
            cases hy with
            | ptr _ _ _ _ _ h2 h3 =>
              obtain ⟨sz, ty, es, hr⟩ := q1y ha
              have e1 := (h1.2 ver sz ty es hr).2 rfl
              have e2 := (h3.2 ver sz ty es hr).2 rfl
              subst e1 e2
              obtain ⟨j, hj⟩ := Option.isSome_iff_exists.1 hi
              exact ⟨by cases op <;> rfl, q1i fun d => by simp [Op.equalIn, run_underlying hd, sizeOf, typeInfo, hj, run_sameAddr_same], trivial⟩
      · simp at h
    · simp at h
  · simp at h
theorem q1r {P : Program} {t : TypeId} {u1 u2 : Value} {b : Bool} (h1 : (Op.equal t u1 u2).run P w = .ok b w) (ho : Other u1) :
    (binOp .eql t u1 u2).run P w = .ok (.bool b) w ∧ (binOp .neq t u1 u2).run P w = .ok (.bool !b) w := by
  constructor
  · have : binOp .eql t u1 u2 = (do pure (.bool (← Op.equal t u1 u2)) : Sem Value) := by
      cases u1 <;> first | rfl | exact ho.elim
    rw [this]
    simp [h1]
  · have : binOp .neq t u1 u2 = (do pure (.bool (!(← Op.equal t u1 u2))) : Sem Value) := by
      cases u1 <;> first | rfl | exact ho.elim
    rw [this]
    simp [h1]
theorem q0y {P : Program} {op : BinOp} {t : TypeId} {xo yo : Operand} {u1 u2 u : Value} (h1 : (eqGuard op t xo yo u1 u2).run P w = .ok () w) (h2 : (binOp op t u1 u2).run P w = .ok u w) :
    (do eqGuard op t xo yo u1 u2; binOp op t u1 u2 : Sem Value).run P w = .ok u w := by simp [h1, h2]
theorem bin_ok {op : BinOp} {t : TypeId} {x y v : AV} {u1 u2 : Value} {yc : Bool} {xo yo : Operand} (hc : yc = true → ∃ c, yo = .const c) (h : A.bin E.P op t x y yc C.H = some v) (hx : V C p x u1) (hy : V C q y u2) :
    ∃ u, (do eqGuard op t xo yo u1 u2; binOp op t u1 u2 : Sem Value).run E.P w = .ok u w ∧ V C true v u := by
  unfold A.bin at h
  split at h
  · rename_i k a k' b
    have e1 := hx.int_inv
    have e2 := hy.int_inv
    subst e1 e2
    have hg : (eqGuard op t xo yo (.int k a) (.int k' b)).run E.P w = .ok () w := by rw [eqGuard_at_int]; rfl
    split at h
    · obtain ⟨u, g1, g2⟩ := qb8 (k' := k') E C w t (.inr (.inl rfl)) h
      exact ⟨u, q0y hg g1, g2⟩
    · obtain ⟨u, g1, g2⟩ := qb8 (k' := k') E C w t (.inr (.inr rfl)) h
      exact ⟨u, q0y hg g1, g2⟩
    · by_cases hk : k = k'
      · have hd : decide (k = k') = true := by simpa using hk
        rw [hd] at h
        obtain ⟨u, g1, g2⟩ := qb8 (k' := k') E C w t (.inl hk) h
        exact ⟨u, q0y hg g1, g2⟩
      · have hd : decide (k = k') = false := by simpa using hk
        rw [hd] at h
        simp at h
  · obtain ⟨s, rfl, rfl⟩ := hx.str_inv
    obtain ⟨s', rfl, rfl⟩ := hy.str_inv
    obtain ⟨u, h1, h2⟩ := bin_str (E := E) (C := C) (w := w) t h
    exact ⟨u, q0y (by rw [eqGuard_at_string]; rfl) h1, h2⟩
  · rename_i a b
    have e1 := hx.bool_inv
    have e2 := hy.bool_inv
    subst e1 e2
    split at h
    · rename_i hd
      have hq : (Op.equal t (.bool a) (.bool b)).run E.P w = .ok (a == b) w := q1i fun d => run_equalIn_bool' w d t a b hd
      have ho := q1r hq trivial
      split at h
      · simp only [Option.some.injEq] at h
        subst h
        exact ⟨_, q0y (by rw [eqGuard_at_bool]; rfl) ho.1, .bool _ _⟩
      · simp only [Option.some.injEq] at h
        subst h
        exact ⟨_, q0y (by rw [eqGuard_at_bool]; rfl) ho.2, .bool _ _⟩
      · simp at h
    · simp at h
  · rename_i xs ys
    obtain ⟨us, rfl, h1⟩ := hx.agg_inv
    obtain ⟨vs, rfl, h2⟩ := hy.agg_inv
    split at h
    · rename_i fs hd
      cases hst : E.P.stoodInHeld t
      · cases heg : E.P.eqGuardType E.P.depth t
        · rw [hst, heg] at h
          simp only [Bool.or_false, cond_false] at h
          have hff : E.P.fieldsOf t = fs := by unfold Program.fieldsOf; rw [hd]
          have hqq : ∀ {b : Bool}, A.eqFields E.P fs.toList xs ys = some b → (Op.equalIn 10000 t (.agg us) (.agg vs)).run E.P w = .ok b w := fun hb => by
            have := run_equalIn_struct (P := E.P) w 9999 t us vs (by rw [hff]; exact hd) hst
            rw [show (10000 : Nat) = 9999 + 1 from rfl, this, hff]
            exact q53 9998 h1 h2 hb
          split at h
          · rw [Option.map_eq_some_iff] at h
            obtain ⟨b, hb, rfl⟩ := h
            exact ⟨.bool b, q0y (run_eqGuard_agg w _ t xo yo us vs heg) (by rw [run_eql_struct, hqq hb]; rfl), .bool _ _⟩
          · rw [Option.map_eq_some_iff] at h
            obtain ⟨b, hb, rfl⟩ := h
            exact ⟨.bool !b, q0y (run_eqGuard_agg w _ t xo yo us vs heg) (by rw [run_neq_struct, hqq hb]; rfl), .bool _ _⟩
          · simp at h
        · rw [hst, heg] at h; simp at h
      · rw [hst] at h; simp at h
    · simp at h
  · split at h
    · split at h
      · rename_i b hb
        simp only [Option.some.injEq] at h
        subst h
        obtain ⟨g1, g2, g3⟩ := qg6 (w := w) (op := .eql) (xo := xo) hc hb hx hy
        exact ⟨_, q0y g1 (q1r g2 g3).1, .bool _ _⟩
      · rw [Option.map_eq_some_iff] at h
        obtain ⟨b, hb, rfl⟩ := h
        rcases Option.or_eq_some_iff.1 hb with hb | ⟨_, hb⟩
        · obtain ⟨g1, g2, g3⟩ := qda (w := w) (op := .eql) (xo := xo) (yo := yo) hb hx hy
          exact ⟨_, q0y g1 (q1r g2 g3).1, .bool _ _⟩
        · obtain ⟨g1, g2, g3⟩ := qg7 (E := E) (w := w) (op := .eql) (xo := xo) (yo := yo) hb hx hy
          exact ⟨_, q0y g1 (q1r g2 g3).1, .bool _ _⟩
    · split at h
      · rename_i b hb
        simp only [Option.some.injEq] at h
        subst h
        obtain ⟨g1, g2, g3⟩ := qg6 (w := w) (op := .neq) (xo := xo) hc hb hx hy
        exact ⟨_, q0y g1 (q1r g2 g3).2, .bool _ _⟩
      · rw [Option.map_eq_some_iff] at h
        obtain ⟨b, hb, rfl⟩ := h
        rcases Option.or_eq_some_iff.1 hb with hb | ⟨_, hb⟩
        · obtain ⟨g1, g2, g3⟩ := qda (w := w) (op := .neq) (xo := xo) (yo := yo) hb hx hy
          exact ⟨_, q0y g1 (q1r g2 g3).2, .bool _ _⟩
        · obtain ⟨g1, g2, g3⟩ := qg7 (E := E) (w := w) (op := .neq) (xo := xo) (yo := yo) hb hx hy
          exact ⟨_, q0y g1 (q1r g2 g3).2, .bool _ _⟩
    · simp at h
theorem un_ok {op : UnOp} {x v : AV} {u1 : Value} (h : A.un op x = some v) (hx : V C p x u1) : ∃ u, (Op.unary op u1).run E.P w = .ok u w ∧ V C true v u := by
  unfold A.un at h
  split at h
  · have e1 := hx.int_inv
    subst e1
    simp only [Option.some.injEq] at h
    subst h
    exact ⟨_, rfl, .int _ _ _⟩
  · have e1 := hx.int_inv
    subst e1
    simp only [A.bits, Option.map_some, Option.some.injEq] at h
    subst h
    exact ⟨_, rfl, .int _ _ _⟩
  · have e1 := hx.bool_inv
    subst e1
    simp only [Option.some.injEq] at h
    subst h
    exact ⟨_, rfl, .bool _ _⟩
  · simp at h
end
end Go.Den

/- DEN, part G: how the small heap and memory go together where memory is read, written, made. -/
namespace Go.Den
open Go.RowKit
/-! ### cells set one by one -/
theorem q2g (b : Nat) : ∀ (vs : List Value) (o : Nat) (w : World) (i : Nat), i ≠ b → (w.setCells b o vs).heap[i]? = w.heap[i]?
  | [], _, _, _, _ => rfl
  | v :: r, o, w, i, h => by
    rw [World.setCells, q2g b r _ _ _ h]
    exact Below.heap_setCell _ _ _ _ h
theorem q2f (b : Nat) : ∀ (vs : List Value) (o : Nat) (w : World), (w.setCells b o vs).heap.size = w.heap.size ∧ (w.setCells b o vs).os = w.os ∧ (w.setCells b o vs).tape = w.tape ∧ (w.setCells b o vs).output = w.output
  | [], _, _ => ⟨rfl, rfl, rfl, rfl⟩
  | v :: r, o, w => by
    rw [World.setCells]
    obtain ⟨h1, h2, h3, h4⟩ := q2f b r (o + 1) (w.setCell ⟨b, o, none⟩ v)
    exact ⟨h1.trans (by simp [World.setCell]), h2, h3, h4⟩
theorem q2u (b : Nat) : ∀ (vs : List Value) (o : Nat) (w : World) (cur : Array Value) (ty : TypeId) (fr : Nat × Nat), w.heap[b]? = some (.cells cur ty fr) → o + vs.length ≤ cur.size →
    ∃ cur' : Array Value, (w.setCells b o vs).heap[b]? = some (.cells cur' ty fr) ∧ cur'.size = cur.size ∧ ∀ j, cur'[j]? = if o ≤ j ∧ j < o + vs.length then vs[j - o]? else cur[j]?
  | [], o, w, cur, ty, fr, h, _ => ⟨cur, h, rfl, fun j => by rw [if_neg (by simp only [List.length_nil]; omega)]⟩
  | v :: r, o, w, cur, ty, fr, h, hl => by
    simp only [List.length_cons] at hl
    have h1 : (w.setCell ⟨b, o, none⟩ v).heap[b]? = some (.cells (cur.setIfInBounds o v) ty fr) := by
      simp [World.setCell, Array.getElem?_modify, h]
    obtain ⟨cur', g1, g2, g3⟩ := q2u b r (o + 1) _ _ ty fr h1 (by simp; omega)
    refine ⟨cur', g1, by simpa using g2, fun j => ?_⟩
    rw [g3 j]
    simp only [List.length_cons]
    by_cases hj : j = o
    · subst hj
      rw [if_neg (by omega), if_pos (by omega)]
      simp
      rw [Array.getElem?_setIfInBounds_self_of_lt (by omega)]
    · by_cases h2 : o + 1 ≤ j ∧ j < o + 1 + r.length
      · rw [if_pos h2, if_pos (by omega)]
        rw [show j - o = (j - (o + 1)) + 1 by omega]
        simp
      · rw [if_neg h2, if_neg (by omega)]
        exact Array.getElem?_setIfInBounds_ne (Ne.symm hj)
section
variable {E : Env} {C : Ctx} {p : Bool}
/-! ### what is read -/
theorem q5p {P : Program} {t : TypeId} {w : World} {ag : Bool} (h : Env.isAgg E t = some ag) (hP : E.P = P) : (isAgg t).run P w = .ok ag w := by
  subst hP
  unfold Env.isAgg at h
  rw [Option.map_eq_some_iff] at h
  obtain ⟨d, hd, rfl⟩ := h
  simp only [isAgg, Sem.run_bind, run_underlying hd, Result.andThen_ok]
  cases d <;> rfl
theorem q13 {t : TypeId} {w : World} {sz : Nat} (h : E.size t = some sz) : (sizeOf t).run E.P w = .ok sz w := by
  unfold Env.size at h
  rw [Option.map_eq_some_iff] at h
  obtain ⟨i, hi, rfl⟩ := h
  simp [sizeOf, typeInfo, hi]
theorem q8u {ag : Bool} {sz off : Nat} {cs : List AV} {v : AV} (h : A.ofList ag sz cs off = some v) : A.ofList ag sz (cs.drop off) 0 = some v := by
  unfold A.ofList at h ⊢
  cases ag
  · simpa using h
  · simp only [cond_true] at h ⊢
    split at h
    · rename_i hl
      rw [if_pos (by simp; omega)]
      simpa using h
    · simp at h
theorem q6t {t : TypeId} {ag : Bool} {sz : Nat} {cs : List AV} {us : List Value} {v : AV} {a : Addr} (hag : E.isAgg t = some ag) (hsz : E.size t = some sz) (h : A.ofList ag sz cs 0 = some v) (hv : Vs C p cs us) (h1 : ∀ c ∈ cs, c.one = true)
    (hc : ∀ j u, us[j]? = some u → C.w.cell? (a.add j) = some u) : ∃ u, (loadVar t a).run E.P C.w = .ok u C.w ∧ V C p v u := by
  unfold A.ofList at h
  cases ag
  · simp only [cond_false] at h
    obtain ⟨u, g1, g2⟩ := hv.get h
    refine ⟨u, ?_, g2⟩
    have := hc 0 u g1
    rw [Addr.add_zero'] at this
    simp only [loadVar, Sem.run_bind, q5p hag rfl, Result.andThen_ok, Bool.false_eq_true, if_false, run_load, this]
  · simp only [cond_true] at h
    split at h
    · rename_i hl
      simp only [Option.some.injEq, List.drop_zero] at h
      subst h
      refine ⟨.agg (us.take sz).toArray, ?_, .agg _ _ _ (fun c hc => h1 c (List.mem_of_mem_take hc)) (by simpa using hv.take sz)⟩
      have hlen : (us.take sz).length = sz := by
        rw [List.length_take, hv.length]
        omega
      have hl2 := run_loadCells_list (P := E.P) C.w a (us.take sz) (fun j u hu => hc j u (by
        rw [List.getElem?_take] at hu
        split at hu
        · exact hu
        · simp at hu))
      rw [hlen] at hl2
      simp only [loadVar, Sem.run_bind, q5p hag rfl, Result.andThen_ok, if_true, q13 hsz, hl2, Sem.run_pure]
    · simp at h
theorem q0d {z : Nat} : ∀ {es : List AV}, (∀ e ∈ es, Good z e) → (es.flatMap AV.cells).length = es.length * z
  | [], _ => by simp
  | e :: es, h => by
    rw [List.flatMap_cons, List.length_append, (h e List.mem_cons_self).1, q0d (fun x hx => h x (List.mem_cons_of_mem _ hx)), List.length_cons, Nat.succ_mul]
    omega
theorem qah {z : Nat} {es : List AV} {e : AV} {i : Nat} (h : ∀ e ∈ es, Good z e) (hi : es[i]? = some e) : es.flatMap AV.cells = (es.take i).flatMap AV.cells ++ (e.cells ++ (es.drop (i + 1)).flatMap AV.cells) ∧ ((es.take i).flatMap AV.cells).length = i * z := by
  have hlt : i < es.length := (List.getElem?_eq_some_iff.1 hi).1
  have he : es[i] = e := (List.getElem?_eq_some_iff.1 hi).2
  constructor
  · have h2 : es.drop i = e :: es.drop (i + 1) := by rw [List.drop_eq_getElem_cons hlt, he]
    have h3 : es = es.take i ++ e :: es.drop (i + 1) := by rw [← h2, List.take_append_drop]
    rw [← List.flatMap_cons, ← List.flatMap_append, ← h3]
  · rw [q0d (fun x hx => h x (List.mem_of_mem_take hx)), List.length_take, Nat.min_eq_left (by omega)]
theorem qaf {z : Nat} {es : List AV} {e : AV} {i : Nat} {us : List Value} (h : ∀ e ∈ es, Good z e) (hi : es[i]? = some e) (hv : Vs C p (es.flatMap AV.cells) us) : Vs C p e.cells ((us.drop (i * z)).take z) := by
  obtain ⟨h1, h2⟩ := qah h hi
  rw [h1] at hv
  have g := hv.split.2
  rw [h2] at g
  have g2 := g.split.1
  rw [(h e (List.mem_of_getElem? hi)).1] at g2
  exact g2
theorem q6l (a : Addr) (i j : Nat) : (a.add i).add j = a.add (i + j) := by
  unfold Addr.add
  by_cases hi : i = 0
  · subst hi; simp
  · by_cases hj : j = 0
    · subst hj; simp
    · rw [if_neg hi, if_neg hj, if_neg (by omega)]
      simp [Nat.add_assoc]
theorem qgw (hr : HR E C) {id ver i : Nat} {e : AV} (h : A.elemAt C.H id ver i = some e) : ∃ sz ty es us, C.H[id]? = some (.row ver sz ty es) ∧ es[i]? = some e ∧ Good sz e ∧ Vs C false e.cells us ∧
    ∀ j u, us[j]? = some u → C.w.cell? ⟨(C.ρ id).1, (C.ρ id).2 + (i * sz + j), none⟩ = some u := by
  unfold A.elemAt at h
  split at h
  · rename_i v sz ty es hrow
    cases hb : (v == ver)
    · rw [hb] at h; simp at h
    · rw [hb] at h
      have : v = ver := by simpa using hb
      subst this
      simp only [cond_true] at h
      obtain ⟨h0, hg, hk, cur, fr, us, hc, hf, hv, hcell⟩ := hr.row id v sz ty es hrow
      refine ⟨sz, ty, es, _, hrow, h, hg e (List.mem_of_getElem? h), qaf hg h hv, fun j u hu => ?_⟩
      rw [List.getElem?_take] at hu
      split at hu
      · rw [List.getElem?_drop] at hu
        have := hcell _ _ hu
        simp only [World.cell?, hc]
        simpa using this
      · simp at hu
  · simp at h
theorem qbz (hr : HR E C) {t : TypeId} {ag : Bool} {sz : Nat} {x v : AV} {u0 : Value} (hag : E.isAgg t = some ag) (hsz : E.size t = some sz) (h : A.load ag sz x C.H = some v) (hx : V C p x u0) :
    ∃ u, (Instr.loadAt t u0).run E.P C.w = .ok u C.w ∧ V C false v u := by
  unfold A.load at h
  split at h
  · rename_i cs
    cases hx with
    | rop _ _ a us h0 h1 h2 h3 h4 =>
      obtain ⟨u, g1, g2⟩ := q6t hag hsz h h1 h0 h2
      exact ⟨u, by simpa [Instr.loadAt, Instr.sureAddr] using g1, g2.weaken⟩
  · rename_i id ver i off
    rw [Option.bind_eq_some_iff] at h
    obtain ⟨e, he, hl⟩ := h
    obtain ⟨z, ty, es, us, h1, h2, h3, h4, h5⟩ := qgw hr he
    cases hx with
    | ptr _ _ _ _ _ g0 g1 =>
      have := (g1.2 ver z ty es h1).2 rfl
      subst this
      obtain ⟨u, k1, k2⟩ := q6t (a := ⟨(C.ρ id).1, (C.ρ id).2 + (i * z + off), none⟩) hag hsz (q8u hl) (h4.drop off) (fun c hc => h3.2 c (List.mem_of_mem_drop hc)) (fun j u hu => by
        rw [List.getElem?_drop] at hu
        have := h5 _ _ hu
        rw [Addr.add_lit]
        rw [← this]
        congr 2
        omega)
      exact ⟨u, by simpa [Instr.loadAt, Instr.sureAddr] using k1, k2⟩
  · simp at h
end
end Go.Den

/- DEN, part H: the steps that memory takes: a row written in place, a row anew, a row that moves. -/
namespace Go.Den
open Go.RowKit
section
variable {E : Env} {C : Ctx}
structure Same (w w' : World) : Prop where
  os : w'.os = w.os
  tape : w'.tape = w.tape
  output : w'.output = w.output
theorem q10 {α : Type} {l : List α} {i j : Nat} {x y : α} (h : (l.set i x)[j]? = some y) : (i = j ∧ x = y ∧ i < l.length) ∨ (i ≠ j ∧ l[j]? = some y) := by
  rw [List.getElem?_set] at h
  split at h
  · rename_i e
    split at h
    · simp at h; exact .inl ⟨e, h, by assumption⟩
    · simp at h
  · rename_i e
    exact .inr ⟨e, h⟩
theorem qar {κ : Nat → Role} {a b i j : Nat} (h : κ a = .obj i) (g : κ b = .obj j) (hne : i ≠ j) : a ≠ b := by
  rintro rfl
  rw [h] at g
  injection g with g
  exact hne g
theorem qe4 (hr : HR E C) {id ver ver' sz : Nat} {ty : TypeId} {es es' : List AV} (hrow : C.H[id]? = some (.row ver sz ty es)) {w' : World} {base' : Nat} {cur cur' : Array Value} {fr : Nat × Nat} {us' : List Value}
    (hold : C.w.heap[(C.ρ id).1]? = some (.cells cur ty fr)) (hs : Same C.w w') (hsize : w'.heap.size = C.w.heap.size) (hoth : ∀ i, i ≠ (C.ρ id).1 → w'.heap[i]? = C.w.heap[i]?)
    (hnow : w'.heap[(C.ρ id).1]? = some (.cells cur' ty fr)) (hcs : cur'.size = cur.size) (hfz : fr.1 = fr.2 ∨ cur.size ≤ fr.1)
    (hal : base' % sz = 0) (hver : (ver' = ver ∧ base' = (C.ρ id).2) ∨ ver < ver') (hgood : ∀ e ∈ es', Good sz e) (hv : Vs C false (es'.flatMap AV.cells) us') (hcell : ∀ j u, us'[j]? = some u → cur'[base' + j]? = some u) :
    HR E { w := w', κ := C.κ, ρ := fun i => if i = id then ((C.ρ id).1, base') else C.ρ i, H := C.H.set id (.row ver' sz ty es') } ∧
    EvL C { w := w', κ := C.κ, ρ := fun i => if i = id then ((C.ρ id).1, base') else C.ρ i, H := C.H.set id (.row ver' sz ty es') } := by
  have hid : id < C.H.length := (List.getElem?_eq_some_iff.1 hrow).1
  obtain ⟨hz, _, hk, _⟩ := hr.row id ver sz ty es hrow
  have ev : Ev C { w := w', κ := C.κ, ρ := fun i => if i = id then ((C.ρ id).1, base') else C.ρ i, H := C.H.set id (.row ver' sz ty es') } := by
    refine ⟨hs.os, hs.tape, hs.output, Nat.le_of_eq hsize.symm, fun b hb hro => ⟨hoth b ?_, rfl⟩, by simp, ?_, ?_⟩
    · rintro rfl
      rw [hk] at hro
      rcases hro with h | h <;> cases h
    · intro i hi v1 sz1 ty1 es1 h1
      rcases q10 h1 with ⟨rfl, hx, _⟩ | ⟨hne, h2⟩
      · injection hx with e1 e2 e3 e4
        subst e1 e2 e3 e4
        refine ⟨ver, es, hrow, by omega, fun e => ?_⟩
        rcases hver with ⟨_, hb⟩ | hlt
        · refine ⟨by simp [hb], fun cells t f hc => ?_⟩
          have hc' : w'.heap[(C.ρ id).1]? = some (.cells cells t f) := hc
          rw [hnow] at hc'
          injection hc' with hc'
          injection hc' with c1 c2 c3
          exact ⟨cur, ty, fr, hold, by rw [← c1, hcs]⟩
        · omega
      · refine ⟨v1, es1, h2, Nat.le_refl _, fun _ => ⟨by simp [Ne.symm hne], fun cells t f hc => ?_⟩⟩
        obtain ⟨_, _, hk1, _⟩ := hr.row i v1 sz1 ty1 es1 h2
        have : w'.heap[(C.ρ i).1]? = C.w.heap[(C.ρ i).1]? := hoth _ (qar hk1 hk (Ne.symm hne))
        exact ⟨cells, t, f, this ▸ hc, rfl⟩
    · intro i hi o1 ho1 h1
      rcases q10 h1 with ⟨rfl, hx, _⟩ | ⟨hne, h2⟩
      · subst hx
        cases ho1
      · exact ⟨⟨o1, h2, rfl⟩, by simp [Ne.symm hne]⟩
  refine ⟨hr.step ev ?_ ?_ (fun b hb => hr.new b (by rw [← hsize]; exact hb)), ev, fun b hb s hl => ⟨hoth b ?_, hl⟩⟩
  · intro i v1 sz1 ty1 es1 h1
    rcases q10 h1 with ⟨rfl, hx, _⟩ | ⟨hne, h2⟩
    · injection hx with e1 e2 e3 e4
      subst e1 e2 e3 e4
      refine .inr ⟨⟨hz, hgood, by simpa using hk, cur', fr, us', by simpa using hnow, by rw [hcs]; exact hfz, hv.ev ev, by simpa using hcell⟩, by simpa using hal⟩
    · obtain ⟨_, _, hk1, _⟩ := hr.row i v1 sz1 ty1 es1 h2
      exact .inl ⟨h2, by simp [Ne.symm hne], hk1, hoth _ (qar hk1 hk (Ne.symm hne))⟩
  · intro i o1 ho1 h1
    rcases q10 h1 with ⟨rfl, hx, _⟩ | ⟨hne, h2⟩
    · subst hx
      cases ho1
    · obtain ⟨hk1, _⟩ := hr.oth i o1 ho1 h2
      exact .inl ⟨h2, by simp [Ne.symm hne], hk1, hoth _ (qar hk1 hk (Ne.symm hne))⟩
  · rintro rfl
    rw [hk] at hl
    cases hl
theorem q34 (hr : HR E C) {id : Nat} {o o' : HObj} (ho : o.oth = true) (hid : C.H[id]? = some o) (hnr : o'.kd ≠ 0) {ob' : Obj} {w' : World} (hs : Same C.w w') (hheap : w'.heap = C.w.heap.setIfInBounds (C.ρ id).1 ob')
    (hnc : ∀ cells t fr, ob' ≠ .cells cells t fr) (hov : o'.oth = true → o.kd = o'.kd ∧ ∀ C' : Ctx, EvV C C' → OthV E C' (some ob') o') :
    HR E { C with w := w', H := C.H.set id o' } ∧ EvL C { C with w := w', H := C.H.set id o' } := by
  have hlt : id < C.H.length := (List.getElem?_eq_some_iff.1 hid).1
  obtain ⟨hk, hv⟩ := hr.oth id o ho hid
  obtain ⟨ob, hob⟩ := hv.some ho
  have hbl : (C.ρ id).1 < C.w.heap.size := (Array.getElem?_eq_some_iff.1 hob).1
  have hsize : w'.heap.size = C.w.heap.size := by rw [hheap]; simp
  have hoth : ∀ b, b ≠ (C.ρ id).1 → w'.heap[b]? = C.w.heap[b]? := fun b hb => by rw [hheap]; exact Array.getElem?_setIfInBounds_ne (Ne.symm hb)
  have hnow : w'.heap[(C.ρ id).1]? = some ob' := by rw [hheap]; simp [hbl]
  have ev : Ev C { C with w := w', H := C.H.set id o' } := by
    refine ⟨hs.os, hs.tape, hs.output, Nat.le_of_eq hsize.symm, fun b hb hro => ⟨hoth b ?_, rfl⟩, by simp, ?_, ?_⟩
    · rintro rfl
      rw [hk] at hro
      rcases hro with h | h <;> cases h
    · intro i hi v1 sz1 ty1 es1 h1
      rcases q10 h1 with ⟨rfl, hx, _⟩ | ⟨hne, h2⟩
      · subst hx
        exact absurd rfl hnr
      · refine ⟨v1, es1, h2, Nat.le_refl _, fun _ => ⟨rfl, fun cells t f hc => ?_⟩⟩
        obtain ⟨_, _, hk1, _⟩ := hr.row i v1 sz1 ty1 es1 h2
        have : w'.heap[(C.ρ i).1]? = C.w.heap[(C.ρ i).1]? := hoth _ (qar hk1 hk (Ne.symm hne))
        exact ⟨cells, t, f, this ▸ hc, rfl⟩
    · intro i hi o1 ho1 h1
      rcases q10 h1 with ⟨rfl, hx, _⟩ | ⟨hne, h2⟩
      · subst hx
        exact ⟨⟨o, hid, (hov ho1).1⟩, rfl⟩
      · exact ⟨⟨o1, h2, rfl⟩, rfl⟩
  refine ⟨hr.step ev ?_ ?_ (fun b hb => hr.new b (by rw [← hsize]; exact hb)), ev, fun b hb s hl => ⟨hoth b ?_, hl⟩⟩
  · intro i v1 sz1 ty1 es1 h1
    rcases q10 h1 with ⟨rfl, hx, _⟩ | ⟨hne, h2⟩
    · subst hx
      exact absurd rfl hnr
    · obtain ⟨_, _, hk1, _⟩ := hr.row i v1 sz1 ty1 es1 h2
      exact .inl ⟨h2, rfl, hk1, hoth _ (qar hk1 hk (Ne.symm hne))⟩
  · intro i o1 ho1 h1
    rcases q10 h1 with ⟨rfl, hx, _⟩ | ⟨hne, h2⟩
    · subst hx
      refine .inr ⟨hk, ?_⟩
      show OthV E _ w'.heap[(C.ρ id).1]? _
      rw [hnow]
      exact (hov ho1).2 _ ev.toV
    · obtain ⟨hk1, _⟩ := hr.oth i o1 ho1 h2
      exact .inl ⟨h2, rfl, hk1, hoth _ (qar hk1 hk (Ne.symm hne))⟩
  · rintro rfl
    rw [hk] at hl
    cases hl
def Ctx.grow (C : Ctx) (w' : World) (o : HObj) : Ctx :=
  { w := w', κ := fun b => if b = C.w.heap.size then .obj C.H.length else C.κ b, ρ := fun i => if i = C.H.length then (C.w.heap.size, 0) else C.ρ i, H := C.H ++ [o] }
theorem q1h {w' : World} {o : HObj} : (C.grow w' o).ρ C.H.length = (C.w.heap.size, 0) := by simp [Ctx.grow]
theorem q3j {α : Type} {l : List α} {x y : α} {i : Nat} (h : (l ++ [x])[i]? = some y) : l[i]? = some y ∧ i < l.length ∨ i = l.length ∧ x = y := by
  rcases Nat.lt_or_ge i l.length with hi | hi
  · rw [List.getElem?_append_left hi] at h
    exact .inl ⟨h, hi⟩
  · rw [List.getElem?_append_right hi] at h
    have : i - l.length = 0 := by
      have := (List.getElem?_eq_some_iff.1 h).1
      simpa using this
    rw [this] at h
    simp at h
    exact .inr ⟨by omega, h⟩
theorem q8p (hr : HR E C) {w' : World} {b : Obj} {o : HObj} (hs : Same C.w w') (hheap : w'.heap = C.w.heap.push b) : EvL C (C.grow w' o) := by
  have hold : ∀ i, i < C.w.heap.size → w'.heap[i]? = C.w.heap[i]? := fun i hi => by rw [hheap, Array.getElem?_push, if_neg (by omega)]
  have hne : ∀ i, i < C.w.heap.size → (C.grow w' o).κ i = C.κ i := fun i hi => by show (if i = _ then _ else _) = _; rw [if_neg (by omega)]
  refine ⟨⟨hs.os, hs.tape, hs.output, by show _ ≤ w'.heap.size; rw [hheap]; simp, fun i hi _ => ⟨hold i hi, hne i hi⟩, by show _ ≤ (C.H ++ [o]).length; simp, ?_, ?_⟩, fun i hi s hl => ⟨hold i hi, (hne i hi).trans hl⟩⟩
  · intro i hi v sz ty es h
    rcases q3j h with ⟨h1, _⟩ | ⟨rfl, _⟩
    · refine ⟨v, es, h1, Nat.le_refl _, fun _ => ⟨by show (if i = _ then _ else _) = _; rw [if_neg (by omega)], fun cells t f hc => ⟨cells, t, f, ?_, rfl⟩⟩⟩
      obtain ⟨_, _, _, cur, fr, us, hcur, _⟩ := hr.row i v sz ty es h1
      rw [← hold _ (Array.getElem?_eq_some_iff.1 hcur).1]
      exact hc
    · omega
  · intro i hi o1 _ h
    rcases q3j h with ⟨h1, _⟩ | ⟨rfl, _⟩
    · exact ⟨⟨o1, h1, rfl⟩, by show (if i = _ then _ else _) = _; rw [if_neg (by omega)]⟩
    · omega
theorem qbq (hr : HR E C) {w' : World} {b : Obj} {o : HObj} (hs : Same C.w w') (hheap : w'.heap = C.w.heap.push b)
    (hrow : ∀ v sz ty es, o = .row v sz ty es → RowAt (C.grow w' o) C.H.length sz ty es) (hoth : o.oth = true → OthV E (C.grow w' o) (some b) o) : HR E (C.grow w' o) := by
  have hold : ∀ i, i < C.w.heap.size → w'.heap[i]? = C.w.heap[i]? := fun i hi => by rw [hheap, Array.getElem?_push, if_neg (by omega)]
  have hne : ∀ i, i < C.w.heap.size → (C.grow w' o).κ i = C.κ i := fun i hi => by show (if i = _ then _ else _) = _; rw [if_neg (by omega)]
  refine hr.step (q8p hr hs hheap).ev ?_ ?_ ?_
  · intro i v sz ty es h
    rcases q3j h with ⟨h1, hi⟩ | ⟨rfl, e⟩
    · obtain ⟨_, _, hk, cur, fr, us, hcur, _⟩ := hr.row i v sz ty es h1
      have hlt := (Array.getElem?_eq_some_iff.1 hcur).1
      exact .inl ⟨h1, by show (if i = _ then _ else _) = _; rw [if_neg (by omega)], (hne _ hlt).trans hk, hold _ hlt⟩
    · exact .inr ⟨hrow v sz ty es e, by simp [Ctx.grow]⟩
  · intro i o1 ho1 h
    rcases q3j h with ⟨h1, hi⟩ | ⟨rfl, e⟩
    · obtain ⟨hk, hov⟩ := hr.oth i o1 ho1 h1
      obtain ⟨ob, hcur⟩ := hov.some ho1
      have hlt := (Array.getElem?_eq_some_iff.1 hcur).1
      exact .inl ⟨h1, by show (if i = _ then _ else _) = _; rw [if_neg (by omega)], (hne _ hlt).trans hk, hold _ hlt⟩
    · subst e
      refine .inr ⟨by simp [Ctx.grow], ?_⟩
      have : (C.grow w' o).w.heap[((C.grow w' o).ρ C.H.length).1]? = some b := by simp [Ctx.grow, hheap]
      rw [this]
      exact hoth ho1
  · intro i hi
    have hi' : C.w.heap.size + 1 ≤ i := by
      have : (C.grow w' o).w.heap.size = C.w.heap.size + 1 := by show w'.heap.size = _; rw [hheap]; simp
      omega
    show (if i = _ then _ else _) = _
    rw [if_neg (by omega)]
    exact hr.new i (by omega)
theorem q4e (hr : HR E C) {w' : World} {cells : Array Value} {sz ver : Nat} {ty : TypeId} {fr : Nat × Nat} {es : List AV} {us : List Value} (hs : Same C.w w') (hheap : w'.heap = C.w.heap.push (.cells cells ty fr))
    (hz : 0 < sz) (hgood : ∀ e ∈ es, Good sz e) (hfz : fr.1 = fr.2 ∨ cells.size ≤ fr.1) (hv : Vs C false (es.flatMap AV.cells) us) (hc : ∀ (j : Nat) (u : Value), us[j]? = some u → cells[j]? = some u) :
    HR E (C.grow w' (.row ver sz ty es)) ∧ EvL C (C.grow w' (.row ver sz ty es)) := by
  have ev := q8p (o := .row ver sz ty es) hr hs hheap
  refine ⟨qbq hr hs hheap ?_ (fun h => by cases h), ev⟩
  intro v1 sz1 ty1 es1 h
  injection h with e1 e2 e3 e4
  subst e1 e2 e3 e4
  refine ⟨hz, hgood, by simp [Ctx.grow], cells, fr, us, ?_, hfz, hv.ev ev.ev, ?_⟩
  · simp [Ctx.grow, hheap]
  · simpa [Ctx.grow] using hc
theorem row_move (hr : HR E C) {id ver ver' sz : Nat} {ty : TypeId} {es es' : List AV} (hrow : C.H[id]? = some (.row ver sz ty es)) (hver : ver < ver') {w' : World} {cells : Array Value} {fr : Nat × Nat} {us : List Value}
    (hs : Same C.w w') (hheap : w'.heap = C.w.heap.push (.cells cells ty fr)) (hgood : ∀ e ∈ es', Good sz e) (hfz : fr.1 = fr.2 ∨ cells.size ≤ fr.1) (hv : Vs C false (es'.flatMap AV.cells) us) (hc : ∀ (j : Nat) (u : Value), us[j]? = some u → cells[j]? = some u) :
    HR E { w := w', κ := fun b => if b = C.w.heap.size then .obj id else C.κ b, ρ := fun i => if i = id then (C.w.heap.size, 0) else C.ρ i, H := C.H.set id (.row ver' sz ty es') } ∧
    EvL C { w := w', κ := fun b => if b = C.w.heap.size then .obj id else C.κ b, ρ := fun i => if i = id then (C.w.heap.size, 0) else C.ρ i, H := C.H.set id (.row ver' sz ty es') } := by
  have hid : id < C.H.length := (List.getElem?_eq_some_iff.1 hrow).1
  obtain ⟨hz, _, hk, _⟩ := hr.row id ver sz ty es hrow
  have hold : ∀ i, i < C.w.heap.size → w'.heap[i]? = C.w.heap[i]? := fun i hi => by rw [hheap, Array.getElem?_push, if_neg (by omega)]
  have ev : Ev C { w := w', κ := fun b => if b = C.w.heap.size then .obj id else C.κ b, ρ := fun i => if i = id then (C.w.heap.size, 0) else C.ρ i, H := C.H.set id (.row ver' sz ty es') } := by
    refine ⟨hs.os, hs.tape, hs.output, by show _ ≤ w'.heap.size; rw [hheap]; simp, fun b hb _ => ⟨hold b hb, by show (if b = _ then _ else _) = _; rw [if_neg (by omega)]⟩, by simp, ?_, ?_⟩
    · intro i hi v1 sz1 ty1 es1 h1
      rcases q10 h1 with ⟨rfl, hx, _⟩ | ⟨hne, h2⟩
      · injection hx with e1 e2 e3 e4
        subst e1 e2 e3 e4
        exact ⟨ver, es, hrow, by omega, fun e => by omega⟩
      · refine ⟨v1, es1, h2, Nat.le_refl _, fun _ => ⟨by simp [Ne.symm hne], fun cells t f hc => ⟨cells, t, f, ?_, rfl⟩⟩⟩
        obtain ⟨_, _, _, cur, fr, us, hcur, _⟩ := hr.row i v1 sz1 ty1 es1 h2
        rw [← hold _ (Array.getElem?_eq_some_iff.1 hcur).1]
        exact hc
    · intro i hi o1 ho1 h1
      rcases q10 h1 with ⟨rfl, hx, _⟩ | ⟨hne, h2⟩
      · subst hx
        cases ho1
      · exact ⟨⟨o1, h2, rfl⟩, by simp [Ne.symm hne]⟩
  refine ⟨hr.step ev ?_ ?_ ?_, ev, fun b hb s hl => ⟨hold b hb, by show (if b = _ then _ else _) = _; rw [if_neg (by omega)]; exact hl⟩⟩
  · intro i v1 sz1 ty1 es1 h1
    rcases q10 h1 with ⟨rfl, hx, _⟩ | ⟨hne, h2⟩
    · injection hx with e1 e2 e3 e4
      subst e1 e2 e3 e4
      exact .inr ⟨⟨hz, hgood, by simp, cells, fr, us, by simp [hheap], hfz, hv.ev ev, by simpa using hc⟩, by simp⟩
    · obtain ⟨_, _, hk1, cur, fr, us, hcur, _⟩ := hr.row i v1 sz1 ty1 es1 h2
      have hlt := (Array.getElem?_eq_some_iff.1 hcur).1
      exact .inl ⟨h2, by simp [Ne.symm hne], by show (if _ = _ then _ else _) = _; rw [if_neg (by omega)]; exact hk1, hold _ hlt⟩
  · intro i o1 ho1 h1
    rcases q10 h1 with ⟨rfl, hx, _⟩ | ⟨hne, h2⟩
    · subst hx
      cases ho1
    · obtain ⟨hk1, hov⟩ := hr.oth i o1 ho1 h2
      obtain ⟨ob, hcur⟩ := hov.some ho1
      have hlt := (Array.getElem?_eq_some_iff.1 hcur).1
      exact .inl ⟨h2, by simp [Ne.symm hne], by show (if _ = _ then _ else _) = _; rw [if_neg (by omega)]; exact hk1, hold _ hlt⟩
  · intro i hi
    have hi' : C.w.heap.size + 1 ≤ i := by
      have : w'.heap.size = C.w.heap.size + 1 := by rw [hheap]; simp
      have : w'.heap.size ≤ i := hi
      omega
    show (if i = _ then _ else _) = _
    rw [if_neg (by omega)]
    exact hr.new i (by omega)
end
end Go.Den
