/- The operations of the abstract evaluator, and its run over a program's own code. Definitions alone. -/
import Derived.Test.YtboklojgbhkhfaaGreatAeVal
namespace Go.Ae

/-- What a block holds: a row of cells (open: the block may have more cells, of which nothing is said), a map, an iterator. -/
inductive AO where
  | cells (cs : List AV) (op : Bool)
  | map (es : List (AV × AV × Nat)) (clk : Nat)
  | iter (l : List UInt8) (pos : Nat)
  | miter (m : Option Nat) (since : Nat) (seen : List Nat) (stepped : Nat)

/-- A type, as far as the evaluator asks. -/
inductive TK where
  | bool
  | int (k : IntKind)
  | str
  | slice (elem : Nat)
  | arr (n elem : Nat)
  | map (key elem : Nat)
  | st (fs : List (Nat × Nat))
  | ptr
  | fn
  | word
  | iface
structure TI where
  k : TK
  size : Nat
  bytes : Nat
  zero : List AV
  eqs : List TK

section force
variable {β : Type}
def forceN : Nat → (Nat → Option β) → Option β
  | 0, K => K 0
  | n + 1, K => K (Nat.succ n)
theorem forceN_eq (n : Nat) (K : Nat → Option β) : forceN n K = K n := by cases n <;> rfl
def forceI : Int → (Int → Option β) → Option β
  | .ofNat n, K => forceN n fun n => K (.ofNat n)
  | .negSucc n, K => forceN n fun n => K (.negSucc n)
theorem forceI_eq (n : Int) (K : Int → Option β) : forceI n K = K n := by cases n <;> simp [forceI, forceN_eq]
def half : IntKind → Nat
  | .i8 => 128
  | .i16 => 32768
  | .i32 => 2147483648
  | .i64 => 9223372036854775808
  | .u8 => 256
  | .u16 => 65536
  | .u32 => 4294967296
  | .u64 => 18446744073709551616
def wrapK (k : IntKind) (n : Int) (K : Int → Option β) : Option β :=
  match n with
  | .ofNat m => match Nat.blt m (half k) with
    | true => forceI (.ofNat m) K
    | false => forceI (k.wrap (.ofNat m)) K
  | .negSucc m => forceI (k.wrap (.negSucc m)) K
def boolK (b : Bool) (K : AV → Option β) : Option β :=
  match b with
  | true => K (.bool true)
  | false => K (.bool false)
theorem boolK_eq (b : Bool) (K : AV → Option β) : boolK b K = K (.bool b) := by cases b <;> rfl
def setNK : List AV → Nat → AV → (List AV → Option β) → Option β
  | [], _, _, K => K []
  | _ :: l, 0, v, K => K (v :: l)
  | a :: l, n + 1, v, K => setNK l n v fun l => K (a :: l)
theorem setNK_eq : ∀ (l : List AV) (n : Nat) (v : AV) (K : List AV → Option β), setNK l n v K = K (l.set n v)
  | [], _, _, _ => by simp [setNK]
  | _ :: _, 0, _, _ => by simp [setNK]
  | a :: l, n + 1, v, K => by simp [setNK, setNK_eq l n v]
variable {α : Type}
def takeK : List α → Nat → (List α → Option β) → Option β
  | _, 0, K => K []
  | [], _ + 1, K => K []
  | a :: l, n + 1, K => takeK l n fun l => K (a :: l)
theorem takeK_eq : ∀ (l : List α) (n : Nat) (K : List α → Option β), takeK l n K = K (l.take n)
  | _, 0, _ => by simp [takeK]
  | [], _ + 1, _ => by simp [takeK]
  | a :: l, n + 1, K => by simp [takeK, takeK_eq l n]
def dropK : List α → Nat → (List α → Option β) → Option β
  | l, 0, K => K l
  | [], _ + 1, K => K []
  | _ :: l, n + 1, K => dropK l n K
theorem dropK_eq : ∀ (l : List α) (n : Nat) (K : List α → Option β), dropK l n K = K (l.drop n)
  | _, 0, _ => by simp [dropK]
  | [], _ + 1, _ => by simp [dropK]
  | a :: l, n + 1, K => by simp [dropK, dropK_eq l n]
def appK : List α → List α → (List α → Option β) → Option β
  | [], m, K => K m
  | a :: l, m, K => appK l m fun r => K (a :: r)
theorem appK_eq : ∀ (l m : List α) (K : List α → Option β), appK l m K = K (l ++ m)
  | [], _, _ => by simp [appK]
  | a :: l, m, K => by simp [appK, appK_eq l m]
end force

def ltI : Int → Int → Bool
  | .ofNat a, .ofNat b => Nat.blt a b
  | .ofNat _, .negSucc _ => false
  | .negSucc _, .ofNat _ => true
  | .negSucc a, .negSucc b => Nat.blt b a

/-! ### constants and operands -/

mutual
def ofV : Value → Option AV
  | .bool b => some (.bool b)
  | .int k n => some (.int k n)
  | .string ⟨⟨l⟩⟩ => some (.str l)
  | .pointer none => some .ptrN
  | .slice none 0 0 => some .slcN
  | .map none => some .mapN
  | .nilFunc => some .fnN
  | .nilIface => some .ifN
  | .agg ⟨l⟩ => match ofVL l with
    | some l => some (.agg l)
    | none => none
  | .tuple ⟨l⟩ => match ofVL l with
    | some l => some (.tup l)
    | none => none
  | _ => none
def ofVL : List Value → Option (List AV)
  | [] => some []
  | v :: l => match ofV v with
    | some a => match ofVL l with
      | some b => some (a :: b)
      | none => none
    | none => none
end

def getN : List AV → Nat → Option AV
  | [], _ => none
  | v :: _, 0 => some v
  | _ :: l, n + 1 => getN l n

def opd (t : List AV) : Operand → Option AV
  | .tmp i => getN t i
  | .const v => ofV v
  | .func f => some (.fn (.func f) [] [])
  | .global _ => none

def opds (t : List AV) : List Operand → Option (List AV)
  | [] => some []
  | x :: l => match opd t x with
    | some v => match opds t l with
      | some r => some (v :: r)
      | none => none
    | none => none

def opdsI (t : List AV) : List (Nat × Operand) → Option (List (Nat × AV))
  | [] => some []
  | (i, x) :: l => match opd t x with
    | some v => match opdsI t l with
      | some r => some ((i, v) :: r)
      | none => none
    | none => none

def cellsOf : AV → List AV
  | .agg l => l
  | v => [v]

/-- One cell's value. -/
def one : AV → Bool
  | .agg _ => false
  | .tup _ => false
  | _ => true
def allOne : List AV → Bool
  | [] => true
  | v :: l => match one v with
    | true => allOne l
    | false => false

/-- `vs` written over a list from a place on; none: it does not fit. -/
def over : List AV → Nat → List AV → Option (List AV)
  | l, 0, [] => some l
  | [], 0, _ :: _ => none
  | _ :: l, 0, v :: vs => match over l 0 vs with
    | some r => some (v :: r)
    | none => none
  | [], _ + 1, _ => none
  | a :: l, n + 1, vs => match over l n vs with
    | some r => some (a :: r)
    | none => none

/-- A part of a list; none: it is not all there. -/
def seg : List AV → Nat → Nat → Option (List AV)
  | _, 0, 0 => some []
  | [], 0, _ + 1 => none
  | a :: l, 0, n + 1 => match seg l 0 n with
    | some r => some (a :: r)
    | none => none
  | [], _ + 1, _ => none
  | _ :: l, k + 1, n => seg l k n

def natBytes : List UInt8 → List AV
  | [] => []
  | b :: l => .int .u8 (.ofNat b.toNat) :: natBytes l

def bytesNat : List AV → Option (List UInt8)
  | [] => some []
  | .int .u8 (.ofNat n) :: l => match bytesNat l with
    | some r => some (UInt8.ofNat n :: r)
    | none => none
  | _ => none

/-! ### the operations -/

inductive OR where
  | val (v : AV) (h : Tr AO)
  | call (f : Nat) (args : List AV)

abbrev TT := Nat → Option TI

def deep : Nat := 64

def binInt (op : BinOp) (k : IntKind) (a b : Int) (K : AV → Option OR) : Option OR :=
  match op with
  | .add => wrapK k (Int.add a b) fun n => K (.int k n)
  | .sub => wrapK k (Int.sub a b) fun n => K (.int k n)
  | .mul => wrapK k (Int.mul a b) fun n => K (.int k n)
  | .quo => match intBeq b 0 with
    | true => none
    | false => wrapK k (Int.tdiv a b) fun n => K (.int k n)
  | .rem => match intBeq b 0 with
    | true => none
    | false => forceI (Int.tmod a b) fun n => K (.int k n)
  | .eql => boolK (intBeq a b) K
  | .neq => boolK (!(intBeq a b)) K
  | .lss => boolK (ltI a b) K
  | .leq => boolK (!(ltI b a)) K
  | .gtr => boolK (ltI b a) K
  | .geq => boolK (!(ltI a b)) K
  | .and => match a, b with
    | .ofNat x, .ofNat y => match Nat.blt x (half k), Nat.blt y (half k) with
      | true, true => forceN (Nat.land x y) fun n => K (.int k (.ofNat n))
      | _, _ => none
    | _, _ => none
  | .or => match a, b with
    | .ofNat x, .ofNat y => match Nat.blt x (half k), Nat.blt y (half k) with
      | true, true => forceN (Nat.lor x y) fun n => K (.int k (.ofNat n))
      | _, _ => none
    | _, _ => none
  | .xor => match a, b with
    | .ofNat x, .ofNat y => match Nat.blt x (half k), Nat.blt y (half k) with
      | true, true => forceN (Nat.xor x y) fun n => K (.int k (.ofNat n))
      | _, _ => none
    | _, _ => none
  | _ => none

def binShift (op : BinOp) (k : IntKind) (a b : Int) (K : AV → Option OR) : Option OR :=
  match b with
  | .ofNat y => match op with
    | .shl => wrapK k (Int.mul a (.ofNat (Nat.pow 2 (Nat.min y k.bits)))) fun n => K (.int k n)
    | .shr => match a with
      | .ofNat x => forceN (Nat.div x (Nat.pow 2 (Nat.min y k.bits))) fun n => K (.int k (.ofNat n))
      | _ => none
    | _ => none
  | .negSucc _ => none

def binStr (op : BinOp) (a b : List UInt8) (K : AV → Option OR) : Option OR :=
  match op with
  | .add => match Nat.ble (Nat.add a.length b.length) 9223372036854775807 with
    | true => appK a b fun r => K (.str r)
    | false => none
  | .eql => boolK (strBeq a b) K
  | .neq => boolK (!(strBeq a b)) K
  | .lss => boolK (Op.bytesLess a b) K
  | .leq => boolK (Op.bytesLess a b || strBeq a b) K
  | .gtr => boolK (!(Op.bytesLess a b || strBeq a b)) K
  | .geq => boolK (!(Op.bytesLess a b)) K
  | _ => none

/-- Cells of these kinds (numbers, texts, bools), in pairs: are all alike? -/
def eqCells : List TK → List AV → List AV → Option Bool
  | [], [], [] => some true
  | .int _ :: ks, .int k a :: l, .int j b :: m => match ikBeq k j with
    | false => none
    | true => match eqCells ks l m with
      | none => none
      | some r => match intBeq a b with
        | true => some r
        | false => some false
  | .str :: ks, .str a :: l, .str b :: m => match eqCells ks l m with
      | none => none
      | some r => match strBeq a b with
        | true => some r
        | false => some false
  | .bool :: ks, .bool a :: l, .bool b :: m => match eqCells ks l m with
      | none => none
      | some r => match a, b with
        | true, true => some r
        | false, false => some r
        | _, _ => some false
  | _, _, _ => none

/-- Equality of what is no number and no text: some answer. -/
def eqOther (T : TT) (t : Nat) (x y : Operand) (a b : AV) : Option Bool :=
  match T t with
  | none => none
  | some D => match D.k, a, b with
    | .bool, .bool a, .bool b => some (match a, b with
      | true, true => true
      | false, false => true
      | _, _ => false)
    | .st _, .agg a, .agg b => match D.eqs with
      | [] => none
      | k :: ks => eqCells (k :: ks) a b
    | .ptr, .ptrN, .ptrN => some true
    | .ptr, .ptrN, .ptr _ _ => some false
    | .ptr, .ptr _ _, .ptrN => some false
    | .slice _, .slcN, .slcN => some true
    | .slice _, .slc _ _ _ _ _, .slcN => some false
    | .slice _, .slcN, .slc _ _ _ _ _ => some false
    | .map _ _, .mapN, .mapN => some true
    | .map _ _, .map _, .mapN => some false
    | .map _ _, .mapN, .map _ => some false
    | .fn, .fnN, .fnN => some true
    | .fn, .fn _ _ _, .fnN => some false
    | .fn, .fnN, .fn _ _ _ => some false
    | .iface, .ifN, .ifN => match x, y with
      | .const _, _ => some true
      | _, .const _ => some true
      | _, _ => none
    | .iface, .ifc _ _, .ifN => some false
    | .iface, .ifN, .ifc _ _ => some false
    | _, _, _ => none

def xbin (T : TT) (op : BinOp) (t : Nat) (x y : Operand) (a b : AV) (h : Tr AO) : Option OR :=
  let K : AV → Option OR := fun v => some (.val v h)
  match a, b with
  | .int k a, .int j b => match op with
    | .shl => binShift .shl k a b K
    | .shr => binShift .shr k a b K
    | op => match ikBeq k j with
      | true => binInt op k a b K
      | false => none
  | .str a, .str b => binStr op a b K
  | a, b => match op with
    | .eql => match eqOther T t x y a b with
      | some r => boolK r K
      | none => none
    | .neq => match eqOther T t x y a b with
      | some r => boolK (!r) K
      | none => none
    | _ => none

def xun (op : UnOp) (a : AV) (h : Tr AO) : Option OR :=
  match op, a with
  | .not, .bool b => boolK (!b) fun v => some (.val v h)
  | .neg, .int k n => wrapK k (Int.sub 0 n) fun n => some (.val (.int k n) h)
  | _, _ => none

def xconv (T : TT) (src dst : Nat) (a : AV) (h : Tr AO) (r : Nat) : Option OR :=
  match T src with
  | none => none
  | some S => match T dst with
    | none => none
    | some D => match D.k, a with
      | .int k, .int _ n => wrapK k n fun n => some (.val (.int k n) h)
      | .str, .str l => some (.val (.str l) h)
      | .slice e, .str l => match T e with
        | some { k := .int .u8, .. } => Tr.setK deep h r (some (.cells (natBytes l) true)) fun h => some (.val (.slc r 0 0 l.length 1) h)
        | _ => none
      | .str, .slcN => match S.k with
        | .slice e => match T e with
          | some { k := .int .u8, .. } => some (.val (.str []) h)
          | _ => none
        | _ => none
      | .str, .slc i off _ len _ => match S.k with
        | .slice e => match T e with
          | some { k := .int .u8, size := 1, .. } => match h.get i with
            | some (.cells cs _) => match seg cs off len with
              | some vs => match bytesNat vs with
                | some l => some (.val (.str l) h)
                | none => none
              | none => none
            | _ => none
          | _ => none
        | _ => none
      | _, _ => none

/-- Bounds of a slice expression without a third index. -/
def bounds (t : List AV) (len : Nat) (lo hi : Option Operand) : Option (Nat × Nat) :=
  match (match hi with
    | none => some len
    | some x => match opd t x with
      | some (.int _ (.ofNat n)) => some n
      | _ => none) with
  | none => none
  | some b => match (match lo with
    | none => some 0
    | some x => match opd t x with
      | some (.int _ (.ofNat n)) => some n
      | _ => none) with
    | none => none
    | some a => match Nat.ble a b with
      | true => some (a, b)
      | false => none

def xslice (T : TT) (t : List AV) (ty : Nat) (a : AV) (lo hi : Option Operand) (h : Tr AO) : Option OR :=
  match T ty with
  | none => none
  | some D => match D.k, a with
    | .str, .str l => match bounds t l.length lo hi with
      | some (p, q) => match Nat.ble q l.length with
        | true => dropK l p fun l => takeK l (Nat.sub q p) fun l => some (.val (.str l) h)
        | false => none
      | none => none
    | .slice e, .slcN => match T e with
      | none => none
      | some _ => match bounds t 0 lo hi with
        | some (0, 0) => some (.val .slcN h)
        | _ => none
    | .slice e, .slc i off base len esz => match T e with
      | none => none
      | some EI => match Nat.beq EI.size esz, Nat.ble 1 esz with
        | true, true => match bounds t len lo hi with
          | some (p, q) => match Nat.ble q len with   -- never beyond what is surely there
            | true => match p with
              | 0 => forceN q fun q => some (.val (.slc i off base q esz) h)
              | p + 1 => forceN (Nat.sub q (Nat.succ p)) fun n => forceN (Nat.add off (Nat.mul (Nat.succ p) esz)) fun o => some (.val (.slc i o off n esz) h)
            | false => none
          | none => none
        | _, _ => none
    | .arr n e, .ptr i 0 => match T e with
      | none => none
      | some EI => match h.get i with
        | some (.cells cs false) => match Nat.beq cs.length (Nat.mul n EI.size), Nat.ble 1 EI.size with
          | true, true => match bounds t n lo hi with
            | some (p, q) => match Nat.ble q n with
              | true => match p with
                | 0 => forceN q fun q => some (.val (.slc i 0 0 q EI.size) h)
                | p + 1 => forceN (Nat.sub q (Nat.succ p)) fun m => forceN (Nat.mul (Nat.succ p) EI.size) fun o => some (.val (.slc i o 0 m EI.size) h)
              | false => none
            | none => none
          | _, _ => none
        | _ => none
    | _, _ => none

def fieldOf : List (Nat × Nat) → Nat → Option (Nat × Nat)
  | [], _ => none
  | f :: _, 0 => some f
  | _ :: l, n + 1 => fieldOf l n

def xload (T : TT) (ty : Nat) (a : AV) (h : Tr AO) : Option AV :=
  match a with
  | .ptr i off => match h.get i with
    | some (.cells cs _) => match T ty with
      | some { k := .st _, size, .. } => match seg cs off size with
        | some vs => some (.agg vs)
        | none => none
      | some { k := .arr _ _, size, .. } => match seg cs off size with
        | some vs => some (.agg vs)
        | none => none
      | some _ => getN cs off
      | none => none
    | _ => none
  | _ => none

def xstore (T : TT) (ty : Nat) (a v : AV) (h : Tr AO) : Option OR :=
  match a with
  | .ptr i off => match h.get i with
    | some (.cells cs op) => match T ty with
      | some { size, .. } => match Nat.beq (cellsOf v).length size, allOne (cellsOf v) with
        | true, true => match over cs off (cellsOf v) with
          | some cs => Tr.setK deep h i (some (.cells cs op)) fun h => some (.val (.tup []) h)
          | none => none
        | _, _ => none
      | none => none
    | _ => none
  | _ => none

/-- The parts of a literal laid over its zero: where the parts lie is told by `place`. -/
def fillA (place : Nat → Option (Nat × Nat)) (cells : List AV) : List (Nat × AV) → Option (List AV)
  | [] => some cells
  | (i, v) :: rest => match place i with
    | none => none
    | some (off, size) => match Nat.beq (cellsOf v).length size with
      | false => none
      | true => match over cells off (cellsOf v) with
        | some cells => fillA place cells rest
        | none => none

def repN (z : List AV) : Nat → List AV
  | 0 => []
  | n + 1 => z ++ repN z n

def xbuild (T : TT) (ty : Nat) (parts : List (Nat × AV)) (h : Tr AO) : Option OR :=
  match T ty with
  | some { k := .st fs, zero, .. } =>
    match fillA (fun i => match fieldOf fs i with
      | some (o, t) => match T t with
        | some F => some (o, F.size)
        | none => none
      | none => none) zero parts with
    | some cs => some (.val (.agg cs) h)
    | none => none
  | some { k := .arr _ e, zero, .. } => match T e with
    | some F => match fillA (fun i => some (Nat.mul i F.size, F.size)) zero parts with
      | some cs => some (.val (.agg cs) h)
      | none => none
    | none => none
  | _ => none

def xbuildSlice (T : TT) (ty len : Nat) (parts : List (Nat × AV)) (h : Tr AO) (r : Nat) : Option OR :=
  match T ty with
  | some { k := .slice e, .. } => match T e with
    | some F => match Nat.ble (Nat.mul len F.size) 16777216, Nat.ble 1 F.size, Nat.beq F.zero.length F.size with
      | true, true, true => match fillA (fun i => some (Nat.mul i F.size, F.size)) (repN F.zero len) parts with
        | some cs => match allOne cs with
          | true => Tr.setK deep h r (some (.cells cs false)) fun h => some (.val (.slc r 0 0 len F.size) h)
          | false => none
        | none => none
      | _, _, _ => none
    | none => none
  | _ => none

def xindexAddr (T : TT) (ty : Nat) (a i : AV) : Option AV :=
  match i with
  | .int _ (.ofNat n) => match a with
    | .slc b off _ len esz => match T ty with
      | some { k := .slice e, .. } => match T e with
        | some F => match Nat.beq F.size esz, Nat.ble 1 esz, Nat.blt n len with
          | true, true, true => forceN (Nat.add off (Nat.mul n esz)) fun o => some (.ptr b o)
          | _, _, _ => none
        | none => none
      | _ => none
    | .ptr b off => match T ty with
      | some { k := .arr m e, .. } => match T e with
        | some F => match Nat.blt n m with
          | true => forceN (Nat.add off (Nat.mul n F.size)) fun o => some (.ptr b o)
          | false => none
        | none => none
      | _ => none
    | _ => none
  | _ => none

def getB : List UInt8 → Nat → Option UInt8
  | [], _ => none
  | b :: _, 0 => some b
  | _ :: l, n + 1 => getB l n

def partA (T : TT) (ty : Nat) (cs : List AV) (off : Nat) : Option AV :=
  match T ty with
  | some { k := .st _, size, .. } => match seg cs off size with
    | some vs => some (.agg vs)
    | none => none
  | some { k := .arr _ _, size, .. } => match seg cs off size with
    | some vs => some (.agg vs)
    | none => none
  | some _ => getN cs off
  | none => none

def xindex (T : TT) (ty : Nat) (a i : AV) : Option AV :=
  match i with
  | .int _ (.ofNat n) => match a with
    | .str l => match T ty with
      | some { k := .str, .. } => match getB l n with
        | some b => forceN b.toNat fun m => some (.int .u8 (.ofNat m))
        | none => none
      | _ => none
    | .agg cs => match T ty with
      | some { k := .arr m e, .. } => match T e with
        | some F => match Nat.blt n m with
          | true => partA T e cs (Nat.mul n F.size)
          | false => none
        | none => none
      | _ => none
    | _ => none
  | _ => none

/-! maps: keys are numbers, texts or bools -/

def keyBeq : AV → AV → Option Bool
  | .int k a, .int j b => match ikBeq k j with
    | true => some (intBeq a b)
    | false => none
  | .str a, .str b => some (strBeq a b)
  | .bool a, .bool b => some (match a, b with
      | true, true => true
      | false, false => true
      | _, _ => false)
  | _, _ => none

/-- The number of a key's entry, and its value; none: some key is of no kind that is known. -/
def findA (k : AV) : List (AV × AV × Nat) → Nat → Option (Option (Nat × AV))
  | [], _ => some none
  | (x, v, _) :: es, i => match keyBeq k x with
    | some true => some (some (i, v))
    | some false => findA k es (Nat.succ i)
    | none => none

def keyKind (T : TT) (ty : Nat) (k : AV) : Bool :=
  match T ty, k with
  | some { k := .int _, .. }, .int _ _ => true
  | some { k := .str, .. }, .str _ => true
  | some { k := .bool, .. }, .bool _ => true
  | _, _ => false

def zeroOf (T : TT) (ty : Nat) : Option AV :=
  match T ty with
  | some { k := .st _, zero, .. } => some (.agg zero)
  | some { k := .arr _ _, zero, .. } => some (.agg zero)
  | some { zero := [z], .. } => some z
  | _ => none

def xlookup (T : TT) (ty : Nat) (m k : AV) (ok : Bool) (h : Tr AO) : Option AV :=
  match T ty with
  | some { k := .map kt et, .. } => match keyKind T kt k with
    | false => none
    | true => match (match m with
        | .mapN => some []
        | .map i => match h.get i with
          | some (.map es _) => some es
          | _ => none
        | _ => none) with
      | none => none
      | some es => match findA k es 0 with
        | none => none
        | some (some (_, v)) => match ok with
          | true => some (.tup [v, .bool true])
          | false => some v
        | some none => match zeroOf T et with
          | none => none
          | some z => match ok with
            | true => some (.tup [z, .bool false])
            | false => some z
  | _ => none

def modN (k v : AV) : List (AV × AV × Nat) → Nat → List (AV × AV × Nat)
  | [], _ => []
  | (_, _, b) :: l, 0 => (k, v, b) :: l
  | e :: l, n + 1 => e :: modN k v l n

def xupdate (T : TT) (ty : Nat) (m k v : AV) (h : Tr AO) : Option OR :=
  match T ty with
  | some { k := .map kt _, .. } => match keyKind T kt k with
    | false => none
    | true => match m with
      | .map i => match h.get i with
        | some (.map es clk) => match findA k es 0 with
          | some (some (n, _)) => Tr.setK deep h i (some (.map (modN k v es n) clk)) fun h => some (.val (.tup []) h)
          | some none => Tr.setK deep h i (some (.map (es ++ [(k, v, clk)]) (Nat.succ clk))) fun h => some (.val (.tup []) h)
          | none => none
        | _ => none
      | _ => none
  | _ => none

def delN : List (AV × AV × Nat) → Nat → List (AV × AV × Nat)
  | [], _ => []
  | _ :: l, 0 => l
  | e :: l, n + 1 => e :: delN l n

def xdelete (T : TT) (ty : Nat) (m k : AV) (h : Tr AO) : Option OR :=
  match T ty with
  | some { k := .map kt _, .. } => match keyKind T kt k with
    | false => none
    | true => match m with
      | .mapN => some (.val (.tup []) h)
      | .map i => match h.get i with
        | some (.map es clk) => match findA k es 0 with
          | some (some (n, _)) => Tr.setK deep h i (some (.map (delN es n) clk)) fun h => some (.val (.tup []) h)
          | some none => some (.val (.tup []) h)
          | none => none
        | _ => none
      | _ => none
  | _ => none

/-! calls of what is built in -/

/-- What is appended: so many elements, these cells. -/
def srcOf (h : Tr AO) (F : TI) : AV → Option (Nat × List AV)
  | .slcN => some (0, [])
  | .slc j off _ n esz => match Nat.beq esz F.size with
    | true => match h.get j with
      | some (.cells cs _) => match seg cs off (Nat.mul n F.size) with
        | some vs => some (n, vs)
        | none => none
      | _ => none
    | false => none
  | .str l => match F.size with
    | 1 => some (l.length, natBytes l)
    | _ => none
  | _ => none

/-- append, told by what is appended. -/
def appendA (F : TI) (s : AV) (h : Tr AO) (r : Nat) : Option (Nat × List AV) → Option OR
  | none => none
  | some (0, _) => match s with
    | .slcN => some (.val .slcN h)
    | .slc _ _ _ _ _ => some (.val s h)
    | _ => none
  | some (m + 1, vs) => match allOne vs with
    | false => none
    | true => match s with
      | .slcN => match Nat.ble (Nat.mul (Nat.succ m) F.bytes) 140737488355328, Nat.ble (Nat.succ m) 140737488355328 with
        | true, true => forceN (Nat.succ m) fun n => Tr.setK deep h r (some (.cells vs true)) fun h => some (.val (.slc r 0 0 n F.size) h)
        | _, _ => none
      | .slc i 0 0 len esz => match Nat.beq esz F.size with
        | false => none
        | true => match h.get i with
          | some (.cells cs _) => match seg cs 0 (Nat.mul len F.size) with
            | none => none
            | some old => match Nat.ble (Nat.mul (Nat.add len (Nat.succ m)) F.bytes) 140737488355328, Nat.ble (Nat.add len (Nat.succ m)) 140737488355328 with
              | true, true => appK old vs fun cs => forceN (Nat.add len (Nat.succ m)) fun n =>
                Tr.setK deep h i none fun h => Tr.setK deep h r (some (.cells cs true)) fun h => some (.val (.slc r 0 0 n F.size) h)
              | _, _ => none
          | _ => none
      | _ => none

def rowOrText (T : TT) (tx : Nat) : Bool :=
  match T tx with
  | some { k := .slice _, .. } => true
  | some { k := .str, .. } => true
  | _ => false

def xappend (T : TT) (ty tx : Nat) (s x : AV) (h : Tr AO) (r : Nat) : Option OR :=
  match T ty with
  | some { k := .slice e, .. } => match T e with
    | none => none
    | some F => match rowOrText T tx, Nat.ble 1 F.size, Nat.beq F.zero.length F.size with
      | true, true, true => appendA F s h r (srcOf h F x)
      | _, _, _ => none
  | _ => none

def xcopy (T : TT) (ty : Nat) (d x : AV) (h : Tr AO) : Option OR :=
  match T ty with
  | some { k := .slice e, .. } => match T e with
    | none => none
    | some F => match d, x with
      | .slc i off _ len esz, .slc j o2 _ n ez2 => match Nat.beq esz F.size, Nat.beq ez2 F.size, Nat.ble 1 F.size with
        | true, true, true => forceN (Nat.min n len) fun k => match h.get j with
          | some (.cells cs _) => match seg cs o2 (Nat.mul k F.size) with
            | some vs => match allOne vs, h.get i with
              | true, some (.cells ds op) => match over ds off vs with
                | some ds => Tr.setK deep h i (some (.cells ds op)) fun h => some (.val (.int .i64 (.ofNat k)) h)
                | none => none
              | _, _ => none
            | none => none
          | _ => none
        | _, _, _ => none
      | .slc .., .slcN => some (.val (.int .i64 0) h)
      | .slcN, .slcN => some (.val (.int .i64 0) h)
      | _, _ => none
  | _ => none

def xlen (T : TT) (ty : Nat) (x : AV) (h : Tr AO) : Option AV :=
  match T ty with
  | none => none
  | some D => match D.k, x with
    | .str, .str l => forceN l.length fun n => some (.int .i64 (.ofNat n))
    | .slice _, .slcN => some (.int .i64 0)
    | .slice _, .slc _ _ _ n _ => some (.int .i64 (.ofNat n))
    | .arr n _, _ => some (.int .i64 (.ofNat n))
    | .map _ _, .mapN => some (.int .i64 0)
    | .map _ _, .map i => match h.get i with
      | some (.map es _) => forceN es.length fun n => some (.int .i64 (.ofNat n))
      | _ => none
    | _, _ => none

def xcall (T : TT) (t : List AV) (c : Call) (h : Tr AO) (r : Nat) : Option OR :=
  match opds t c.args.toList with
  | none => none
  | some args => match c.callee with
    | .value f => match opd t f with
      | some (.fn (.func f) first cap) => some (.call f (first ++ (args ++ cap)))
      | _ => none
    | .builtin .len => match args, c.argTypes.toList with
      | [x], [ty] => match xlen T ty x h with
        | some v => some (.val v h)
        | none => none
      | _, _ => none
    | .builtin .append => match args, c.argTypes.toList with
      | [s, x], [ty, tx] => xappend T ty tx s x h r
      | _, _ => none
    | .builtin .copy => match args, c.argTypes.toList with
      | [s, x], [ty, _] => xcopy T ty s x h
      | _, _ => none
    | .builtin .delete => match args, c.argTypes.toList with
      | [m, k], [ty, _] => xdelete T ty m k h
      | _, _ => none
    | .builtin .max => match args with
      | [.int k a, .int j b] => match ikBeq k j with
        | true => match ltI a b with
          | true => some (.val (.int k b) h)
          | false => some (.val (.int k a) h)
        | false => none
      | _ => none
    | .builtin .min => match args with
      | [.int k a, .int j b] => match ikBeq k j with
        | true => match ltI b a with
          | true => some (.val (.int k b) h)
          | false => some (.val (.int k a) h)
        | false => none
      | _ => none
    | _ => none

def xrange (T : TT) (ty : Nat) (x : AV) (h : Tr AO) (r : Nat) : Option OR :=
  match T ty with
  | some { k := .str, .. } => match x with
    | .str l => Tr.setK deep h r (some (.iter l 0)) fun h => some (.val (.ptr r 0) h)
    | _ => none
  | some { k := .map _ _, .. } => match x with
    | .mapN => Tr.setK deep h r (some (.miter none 0 [] 0)) fun h => some (.val (.ptr r 0) h)
    | .map i => match h.get i with
      | some (.map _ clk) => Tr.setK deep h r (some (.miter (some i) clk [] clk)) fun h => some (.val (.ptr r 0) h)
      | _ => none
    | _ => none
  | _ => none

def xnext (x : AV) (isString : Bool) (h : Tr AO) : Option OR :=
  match x with
  | .ptr i 0 => match h.get i, isString with
    | some (.iter l pos), true => match getB l pos with
      | none => some (.val (.tup [.bool false]) h)
      | some b => match Nat.blt b.toNat 128 with
        | true => forceN b.toNat fun c => Tr.setK deep h i (some (.iter l (Nat.succ pos))) fun h =>
          some (.val (.tup [.bool true, .int .i64 (.ofNat pos), .int .i32 (.ofNat c)]) h)
        | false => none
    | some (.miter none _ _ _), false => some (.val (.tup [.bool false]) h)
    | some (.miter (some m) since seen stepped), false => match h.get m with
      | some (.map [] _) => some (.val (.tup [.bool false]) h)
      | some (.map [(k, v, born)] clk) => match seen with
        | [] => match Nat.blt born since with
          | true => Tr.setK deep h i (some (.miter (some m) since [born] clk)) fun h => some (.val (.tup [.bool true, k, v]) h)
          | false => none
        | [s] => match Nat.beq s born, Nat.blt born stepped with
          | true, true => some (.val (.tup [.bool false]) h)
          | _, _ => none
        | _ => none
      | _ => none
    | _, _ => none
  | _ => none

/-- Key and value of the entry that a range over a map of one entry is at. -/
def xentry (x : AV) (h : Tr AO) : Option OR :=
  match x with
  | .ptr i 0 => match h.get i with
    | some (.miter (some m) _ [s] stepped) => match h.get m with
      | some (.map [(k, v, born)] clk) => match Nat.beq clk stepped, Nat.beq born s with
        | true, true => some (.val (.tup [k, v]) h)
        | _, _ => none
      | _ => none
    | _ => none
  | _ => none

def xop (T : TT) (o : Op) (t : List AV) (h : Tr AO) (r : Nat) : Option OR :=
  match o with
  | .move x => match opd t x with
    | some v => some (.val v h)
    | none => none
  | .assign x => match opd t x with
    | some v => some (.val v h)
    | none => none
  | .pick c a b => match opd t c with
    | some (.bool true) => match opd t a with
      | some v => some (.val v h)
      | none => none
    | some (.bool false) => match opd t b with
      | some v => some (.val v h)
      | none => none
    | _ => none
  | .alloc e => match T e with
    | some F => Tr.setK deep h r (some (.cells F.zero false)) fun h => some (.val (.ptr r 0) h)
    | none => none
  | .box _ x => match opd t x with
    | some v => Tr.setK deep h r (some (.cells (cellsOf v) false)) fun h => some (.val (.ptr r 0) h)
    | none => none
  | .build ty parts => match opdsI t parts.toList with
    | some ps => xbuild T ty ps h
    | none => none
  | .buildSlice ty len parts => match opdsI t parts.toList with
    | some ps => xbuildSlice T ty len ps h r
    | none => none
  | .load ty x => match opd t x with
    | some a => match xload T ty a h with
      | some v => some (.val v h)
      | none => none
    | none => none
  | .store ty x y => match opd t x with
    | some a => match opd t y with
      | some v => xstore T ty a v h
      | none => none
    | none => none
  | .nilCheck x => match opd t x with
    | some (.ptr i o) => some (.val (.ptr i o) h)
    | some (.fn (.func f) a b) => some (.val (.fn (.func f) a b) h)
    | _ => none
  | .binOp op ty x y _ => match opd t x with
    | some a => match opd t y with
      | some b => xbin T op ty x y a b h
      | none => none
    | none => none
  | .unOp op _ x => match opd t x with
    | some a => xun op a h
    | none => none
  | .convert s d x => match opd t x with
    | some a => xconv T s d a h r
    | none => none
  | .makeInterface ty x => match opd t x with
    | some a => match T ty with
      | some { k := .iface, .. } => none
      | some _ => some (.val (.ifc ty a) h)
      | none => none
    | none => none
  | .makeFunc f first cap => match opds t first.toList with
    | some a => match opds t cap.toList with
      | some b => some (.val (.fn f a b) h)
      | none => none
    | none => none
  | .makeMap _ none => Tr.setK deep h r (some (.map [] 0)) fun h => some (.val (.map r) h)
  | .makeSlice ty l c => match opd t l with
    | some (.int _ (.ofNat n)) => match opd t c with
      | some (.int _ (.ofNat m)) => match T ty with
        | some { k := .slice e, .. } => match T e with
          | some F => match Nat.ble n m, Nat.ble (Nat.mul F.bytes m) 140737488355328, Nat.ble m 140737488355328, Nat.ble 1 F.size, Nat.beq F.zero.length F.size with
            | true, true, true, true, true => match allOne F.zero with
              | true => Tr.setK deep h r (some (.cells (repN F.zero m) false)) fun h => forceN n fun n => some (.val (.slc r 0 0 n F.size) h)
              | false => none
            | _, _, _, _, _ => none
          | none => none
        | _ => none
      | _ => none
    | _ => none
  | .slice ty x lo hi none => match opd t x with
    | some a => xslice T t ty a lo hi h
    | none => none
  | .fieldAddr ty x f => match opd t x with
    | some (.ptr i o) => match T ty with
      | some { k := .st fs, .. } => match fieldOf fs f with
        | some (fo, ft) => match T ft with
          | some F => match Nat.beq F.size 0 with
            | false => forceN (Nat.add o fo) fun o => some (.val (.ptr i o) h)
            | true => none
          | none => none
        | none => none
      | _ => none
    | _ => none
  | .field ty x f => match opd t x with
    | some (.agg cs) => match T ty with
      | some { k := .st fs, .. } => match fieldOf fs f with
        | some (fo, ft) => match partA T ft cs fo with
          | some v => some (.val v h)
          | none => none
        | none => none
      | _ => none
    | _ => none
  | .indexAddr ty x i => match opd t x with
    | some a => match opd t i with
      | some i => match xindexAddr T ty a i with
        | some v => some (.val v h)
        | none => none
      | none => none
    | none => none
  | .index ty x i => match opd t x with
    | some a => match opd t i with
      | some i => match xindex T ty a i with
        | some v => some (.val v h)
        | none => none
      | none => none
    | none => none
  | .lookup ty x i ok => match opd t x with
    | some a => match opd t i with
      | some i => match xlookup T ty a i ok h with
        | some v => some (.val v h)
        | none => none
      | none => none
    | none => none
  | .mapUpdate ty m k x => match opd t m with
    | some m => match opd t k with
      | some k => match opd t x with
        | some v => xupdate T ty m k v h
        | none => none
      | none => none
    | none => none
  | .range ty x => match opd t x with
    | some a => xrange T ty a h r
    | none => none
  | .entry x => match opd t x with
    | some v => xentry v h
    | none => none
  | .next x s => match opd t x with
    | some a => xnext a s h
    | none => none
  | .typeAssert x _ ty true => match opd t x with
    | some (.ifc u v) => match T ty with
      | some { k := .iface, .. } => none
      | none => none
      | some _ => match Nat.beq u ty with
        | true => some (.val (.tup [v, .bool true]) h)
        | false => match zeroOf T ty with
          | some z => some (.val (.tup [z, .bool false]) h)
          | none => none
    | some .ifN => match T ty with
      | some { k := .iface, .. } => none
      | none => none
      | some _ => match zeroOf T ty with
          | some z => some (.val (.tup [z, .bool false]) h)
          | none => none
    | _ => none
  | .extract x i => match opd t x with
    | some (.tup vs) => match getN vs i with
      | some v => some (.val v h)
      | none => none
    | _ => none
  | .call c => xcall T t c h r
  | _ => none

/-- Operations that only yield a value. -/
def quiet : Op → Bool
  | .move _ | .assign _ | .pick .. | .build .. | .load .. | .nilCheck _ | .binOp .. | .unOp .. | .makeInterface .. | .makeFunc .. | .slice .. | .fieldAddr .. | .field .. | .indexAddr .. | .index ..
  | .lookup .. | .typeAssert .. | .extract .. => true
  | .call { callee := .builtin .len, .. } | .call { callee := .builtin .max, .. } | .call { callee := .builtin .min, .. } => true
  | _ => false

/-- The names that an operation that only yields a value looks at. -/
def readsOf (t : List AV) : Op → List Nat
  | .load _ x => match opd t x with
    | some (.ptr i _) => [i]
    | _ => []
  | .lookup _ x _ _ => match opd t x with
    | some (.map i) => [i]
    | _ => []
  | .slice _ x _ _ _ => match opd t x with
    | some (.ptr i _) => [i]
    | _ => []
  | .call c => match opds t c.args.toList with
    | some [.map i] => [i]
    | _ => []
  | _ => []

/-! ### regions, code, calls -/

/-- What has come of a piece: where it ends, the temporaries, the store, the next name. -/
inductive Ex where
  | normal
  | exit (id : Nat)
  | ret
structure St where
  t : List AV
  h : Tr AO
  n : Nat

abbrev CF := Nat → List AV → Tr AO → Nat → Option (AV × Tr AO × Nat)

/-- Is an operation with this guard carried out? -/
def want (ops : List Oper) (t : List AV) : Option (Nat × Bool) → Bool
  | none => true
  | some (j, b) => match ops[j]? with
    | none => false
    | some o => match o.dst with
      | none => false
      | some d => match getN t d with
        | some (.bool c) => match b, c with
          | true, true => true
          | false, false => true
          | _, _ => false
        | _ => false

def putK {β : Type} (t : List AV) (d : Option Nat) (v : AV) (K : List AV → Option β) : Option β :=
  match d with
  | none => K t
  | some d => setNK t d v K

/-- One operation of a region; `r` is the name that it may give. -/
def step {β : Type} (T : TT) (cf : CF) (ops : List Oper) (o : Oper) (r : Nat) (t : List AV) (h : Tr AO) (n : Nat)
    (K : List AV → Tr AO → Nat → Option β) : Option β :=
  match want ops t o.guard with
  | false => putK t o.dst (.tup []) fun t => K t h n
  | true => match xop T o.op t h r with
    | none => none
    | some (.val v h) => putK t o.dst v fun t => K t h n
    | some (.call f args) => match cf f args h n with
      | none => none
      | some (v, h, n) => putK t o.dst v fun t => K t h n

/-- The operations of a region that draws nothing. -/
def steps (T : TT) (cf : CF) (ops : List Oper) : List Oper → Nat → List AV → Tr AO → Nat → Option St
  | [], _, t, h, n => some ⟨t, h, n⟩
  | o :: l, r, t, h, n => step T cf ops o r t h n fun t h n => steps T cf ops l (Nat.succ r) t h n

end Go.Ae
