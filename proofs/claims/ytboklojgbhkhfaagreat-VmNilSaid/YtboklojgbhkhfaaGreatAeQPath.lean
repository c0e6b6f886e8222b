/- The operations of a function's region, by the region's number; tables of compiled functions. No condition. -/
import Derived.Test.YtboklojgbhkhfaaGreatAeQFun
namespace Go.Ae
def opsIn (id : Nat) : Code → Option (List Oper)
  | .region i ops _ => match Nat.beq i id with
    | true => some ops.toList
    | false => none
  | .seq a b => match opsIn id a with
    | some l => some l
    | none => opsIn id b
  | .cond _ a b => match opsIn id a with
    | some l => some l
    | none => opsIn id b
  | .block _ a => opsIn id a
  | .loop a => opsIn id a
  | .scope a => opsIn id a
  | _ => none
def opsAt (f : Func) (id : Nat) : List Oper :=
  match f.body with
  | some c => match opsIn id c with
    | some l => l
    | none => []
  | none => []
def opAt (f : Func) (id j : Nat) : Op :=
  match nthO (opsAt f id) j with
  | some o => o.op
  | none => .move (.tmp 0)
end Go.Ae
