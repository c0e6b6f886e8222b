/- The abstract evaluator's run over regions, code and functions. Definitions alone. -/
import Derived.Test.YtboklojgbhkhfaaGreatAeOps
import Derived.Orders
namespace Go.Ae

/-- In which order a region that draws its order is gone through: an operation that yields a value whenever it is taken; the only one that may be taken; one of some that may be taken, and the others. -/
inductive Plan where
  | done
  | first (i : Nat) (c : List Nat) (p : Plan)
  | only (i : Nat) (p : Plan)
  | alt (i : Nat) (p q : Plan)

def nthO : List Oper → Nat → Option Oper
  | [], _ => none
  | o :: _, 0 => some o
  | _ :: l, n + 1 => nthO l n

def entBeq : List (AV × AV × Nat) → List (AV × AV × Nat) → Bool
  | [], [] => true
  | (a, b, n) :: l, (c, d, m) :: r => match beq a c, beq b d, Nat.beq n m with
    | true, true, true => entBeq l r
    | _, _, _ => false
  | _, _ => false

def natsBeq : List Nat → List Nat → Bool
  | [], [] => true
  | a :: l, b :: m => match Nat.beq a b with
    | true => natsBeq l m
    | false => false
  | _, _ => false

def boolBeq : Bool → Bool → Bool
  | true, true => true
  | false, false => true
  | _, _ => false

def aoBeq : Option AO → Option AO → Bool
  | none, none => true
  | some (.cells a x), some (.cells b y) => match boolBeq x y with
    | true => beqL a b
    | false => false
  | some (.map a m), some (.map b n) => match Nat.beq m n with
    | true => entBeq a b
    | false => false
  | some (.iter a m), some (.iter b n) => match Nat.beq m n with
    | true => strBeq a b
    | false => false
  | some (.miter none s1 l1 c1), some (.miter none s2 l2 c2) => Nat.beq s1 s2 && (Nat.beq c1 c2 && natsBeq l1 l2)
  | some (.miter (some a) s1 l1 c1), some (.miter (some b) s2 l2 c2) => Nat.beq a b && (Nat.beq s1 s2 && (Nat.beq c1 c2 && natsBeq l1 l2))
  | _, _ => false

def trBeq : Tr AO → Tr AO → Bool
  | .lf, .lf => true
  | .nd l x r, .nd m y s => match aoBeq x y with
    | true => match trBeq l m with
      | true => trBeq r s
      | false => false
    | false => false
  | _, _ => false

def stBeq (s t : St) : Bool :=
  match Nat.beq s.n t.n with
  | true => match beqL s.t t.t with
    | true => trBeq s.h t.h
    | false => false
  | false => false

def hasN (j : Nat) : List Nat → Bool
  | [] => false
  | i :: l => match Nat.beq i j with
    | true => true
    | false => hasN j l
def meets (on : List Nat) : List Nat → Bool
  | [] => false
  | j :: l => match hasN j on with
    | true => true
    | false => meets on l
/-- The store is as it was at each name that is still to be looked at: one that an operation of 'on' does not wait for. -/
def sameAt (h0 h : Tr AO) (on : List Nat) : List (Nat × List Nat) → Bool
  | [] => true
  | (i, c) :: l => match meets on c with
    | true => sameAt h0 h on l
    | false => match aoBeq (h.get i) (h0.get i) with
      | true => sameAt h0 h on l
      | false => false
def stable (ids : List (Nat × List Nat)) (h0 : Tr AO) : List (List Nat × Tr AO) → Bool
  | [] => true
  | (on, h) :: l => match sameAt h0 h on ids with
    | true => stable ids h0 l
    | false => false
def covs (c : List Nat) : List Nat → List (Nat × List Nat)
  | [] => []
  | i :: l => (i, c) :: covs c l

/-- The operations of a region that draws its order, as planned: what has come of them; the names that were looked at before their turn; the stores behind each operation that is not one that only yields a value. -/
def xplan (T : TT) (cf : CF) (ops : List Oper) (r : Nat) (h0 : Tr AO) : Plan → List Nat → List AV → Tr AO → Nat → Option (St × List (Nat × List Nat) × List (List Nat × Tr AO))
  | .done, _, t, h, n => some (⟨t, h, n⟩, [], [])
  | .first i c p, on, t, h, n => match nthO ops i with
    | none => none
    | some o => match want ops t o.guard with
      | false => putK t o.dst (.tup []) fun t => xplan T cf ops r h0 p on t h n
      | true => match quiet o.op with
        | false => none
        | true => match xop T o.op t h0 (Nat.add r i) with
          | some (.val v _) => match putK t o.dst v fun t => xplan T cf ops r h0 p on t h n with
            | some (s, ids, hs) => some (s, covs c (readsOf t o.op) ++ ids, hs)
            | none => none
          | _ => none
  | .only i p, on, t, h, n => match nthO ops i with
    | none => none
    | some o => step T cf ops o (Nat.add r i) t h n fun t h n => match xplan T cf ops r h0 p (i :: on) t h n with
      | some (s, ids, hs) => some (s, ids, (i :: on, h) :: hs)
      | none => none
  | .alt i p q, on, t, h, n => match nthO ops i with
    | none => none
    | some o => match (step T cf ops o (Nat.add r i) t h n fun t h n => match xplan T cf ops r h0 p (i :: on) t h n with
        | some (s, ids, hs) => some (s, ids, (i :: on, h) :: hs)
        | none => none) with
      | none => none
      | some (s1, a1, b1) => match xplan T cf ops r h0 q on t h n with
        | none => none
        | some (s2, a2, b2) => match stBeq s2 s1 with
          | true => some (s1, a1 ++ a2, b1 ++ b2)
          | false => none

def planAt : List (Nat × Plan) → Nat → Option Plan
  | [], _ => none
  | (i, p) :: l, k => match Nat.beq i k with
    | true => some p
    | false => planAt l k

def region (T : TT) (cf : CF) (plans : List (Nat × Plan)) (id : Nat) (ops : List Oper) (draw : Bool) (s : St) : Option St :=
  match draw with
  | false => forceN (Nat.add s.n ops.length) fun n => steps T cf ops ops s.n s.t s.h n
  | true => match planAt plans id with
    | none => none
    | some p => forceN (Nat.add s.n ops.length) fun n => match xplan T cf ops s.n s.h p [] s.t s.h n with
      | some (r, ids, hs) => match stable ids s.h hs with
        | true => some r
        | false => none
      | none => none

/-- Rounds of a loop. -/
def iter (f : St → Option (Ex × St)) : Nat → St → Option (Ex × St)
  | 0, _ => none
  | k + 1, s => match f s with
    | some (.normal, s) => iter f k s
    | r => r

def code (T : TT) (cf : CF) (plans : List (Nat × Plan)) (k : Nat) : Code → St → Option (Ex × St)
  | .skip, s => some (.normal, s)
  | .label _, s => some (.normal, s)
  | .region id ops draw, s => match region T cf plans id ops.toList draw s with
    | some s => some (.normal, s)
    | none => none
  | .seq a b, s => match code T cf plans k a s with
    | some (.normal, s) => code T cf plans k b s
    | r => r
  | .cond c a b, s => match opd s.t c with
    | some (.bool true) => code T cf plans k a s
    | some (.bool false) => code T cf plans k b s
    | _ => none
  | .block id c, s => match code T cf plans k c s with
    | some (.exit i, s) => match Nat.beq i id with
      | true => some (.normal, s)
      | false => some (.exit i, s)
    | r => r
  | .loop c, s => iter (code T cf plans k c) k s
  | .exit id, s => some (.exit id, s)
  | .scope c, s => code T cf plans k c s
  | .ret, s => some (.ret, s)
  | _, _ => none

/-- A function, with the plans of its regions that draw their order. -/
structure FE where
  fn : Func
  plans : List (Nat × Plan)

def resA (T : TT) (t : List AV) (h : Tr AO) : List ResultVar → Option (List AV)
  | [] => some []
  | .tmp i :: l => match getN t i with
    | none => none
    | some v => match resA T t h l with
      | some r => some (v :: r)
      | none => none
  | .cell i ty :: l => match getN t i with
    | none => none
    | some u => match xload T ty u h with
      | none => none
      | some v => match resA T t h l with
        | some r => some (v :: r)
        | none => none

def resV : List AV → AV
  | [v] => v
  | l => .tup l

def repU : Nat → List AV
  | 0 => []
  | n + 1 => .tup [] :: repU n

/-- A call, so many calls within one another at most, and so many rounds of a loop. -/
def call (T : TT) (F : Nat → Option FE) (k : Nat) : Nat → CF
  | 0 => fun _ _ _ _ => none
  | d + 1 => fun f args h n => match F f with
    | none => none
    | some e => match e.fn.body with
      | none => none
      | some c => match appK args (repU (Nat.sub e.fn.ntmps args.length)) fun t => code T (call T F k d) e.plans k c ⟨t, h, n⟩ with
        | some (.normal, s) => match resA T s.t s.h e.fn.results.toList with
          | some l => some (resV l, s.h, s.n)
          | none => none
        | some (.ret, s) => match resA T s.t s.h e.fn.results.toList with
          | some l => some (resV l, s.h, s.n)
          | none => none
        | _ => none

/-! ### what is asked of plans, once a function -/

/-- The operations that a plan takes to be those that may be taken. -/
def alts : Plan → List Nat
  | .only i _ => [i]
  | .alt i _ q => i :: alts q
  | _ => []

/-- The operations that a plan takes first somewhere. -/
def firsts : Plan → List Nat
  | .done => []
  | .first i _ p => i :: firsts p
  | .only _ p => firsts p
  | .alt _ p q => firsts p ++ firsts q

def waits (ops : Array Oper) (l : List Nat) (j : Nat) : Bool :=
  match ops[j]? with
  | none => false
  | some o => o.after.any fun e => Region.binds .any e && hasN e.on l

def covOk (ops : Array Oper) (L : Array Bool) (i : Nat) (c : List Nat) : Bool := c.all fun j => !L.getD j true && waits ops (i :: c) j

def planOk (ops : Array Oper) (FS : List Nat) : Plan → Bool → Nat → Array Bool → Bool
  | .done, _, _, L => (Region.ready .any ops L).isEmpty
  | .first i c p, _, f, L => match f with
    | 0 => false
    | f + 1 => (Region.free .any ops L i && (Region.ready .any ops L).contains i) && (hasN i FS && covOk ops L i c) && planOk ops FS p false f (L.setIfInBounds i true)
  | .only i p, c, f, L => match f with
    | 0 => false
    | f + 1 => (c || natsBeq (Region.ready .any ops L) [i]) && !hasN i FS && planOk ops FS p false f (L.setIfInBounds i true)
  | .alt i p q, c, f, L => match f with
    | 0 => false
    | f + 1 => (c || natsBeq (Region.ready .any ops L) (i :: alts q)) && !hasN i FS && (planOk ops FS p false f (L.setIfInBounds i true) && planOk ops FS q true (f + 1) L)

def chk (plans : List (Nat × Plan)) : Code → Bool
  | .region id ops draw => match draw with
    | false => true
    | true => match planAt plans id with
      | none => true
      | some p => Region.noSelect ops && planOk ops (firsts p) p false ops.size (Array.replicate ops.size false)
  | .seq a b => chk plans a && chk plans b
  | .cond _ a b => chk plans a && chk plans b
  | .block _ c => chk plans c
  | .loop c => chk plans c
  | .scope c => chk plans c
  | _ => true

end Go.Ae
