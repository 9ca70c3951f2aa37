/- DEN, tables: what exec wants to know of a function's regions, reckoned off its code (to be printed; not trusted). -/
import Derived.Test.YtikkpecdkdgmfaaDoorDenC
namespace Go.Den

def regionsOf : Code → List (Nat × Array Oper × Bool)
  | .region id ops d => [(id, ops, d)]
  | .seq a b => regionsOf a ++ regionsOf b
  | .cond _ a b => regionsOf a ++ regionsOf b
  | .block _ a | .loop a | .scope a => regionsOf a
  | .rangeFunc _ _ a b => regionsOf a ++ regionsOf b
  | _ => []

def dinfo (E : Env) (sites : List (Nat × Nat × Nat)) (rid : Nat) (ops : Array Oper) : DInfo :=
  let b := Region.before ops
  let bf (i j : Nat) : Bool := (b.getD i 0).testBit j
  let wins := (List.range ops.size).filterMap fun i =>
    let o := ops.getD i default
    if reads o && !isLoud E (siteAt sites rid i o) o then
      let lo := countLoud E sites rid ops fun j => bf i j
      let hi := countLoud E sites rid ops fun j => !bf j i
      if lo < hi then some (i, lo, hi) else none
    else none
  { before := b.toList, wins }

def mkDraws (E : Env) (sites : List (Nat × Nat × Nat)) (fn : Func) : List (Nat × DInfo) :=
  match fn.body with
  | some c => (regionsOf c).filterMap fun (id, ops, d) => if d then some (id, dinfo E sites id ops) else none
  | none => []

end Go.Den
