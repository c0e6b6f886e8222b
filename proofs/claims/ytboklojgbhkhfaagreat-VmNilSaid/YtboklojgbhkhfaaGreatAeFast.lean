/- The abstract evaluator once more, in small pieces, so that the kernel runs it in less time; and that it is the same. No condition. -/
import Derived.Test.YtboklojgbhkhfaaGreatAeRunD
namespace Go.Ae
section
variable (T : TT) (t : List AV) (h : Tr AO) (r : Nat)

/-! operands -/
noncomputable def fGet : List AV → Nat → Option AV :=
  List.rec (motive := fun _ => Nat → Option AV) (fun _ => none) fun v _ ih n => Nat.rec (motive := fun _ => Option AV) (some v) (fun n _ => ih n) n
theorem fGet_eq : ∀ (l : List AV) (n : Nat), fGet l n = getN l n
  | [], _ => rfl
  | _ :: _, 0 => rfl
  | _ :: l, n + 1 => fGet_eq l n

noncomputable def fOpd (t : List AV) (x : Operand) : Option AV :=
  Operand.rec (motive := fun _ => Option AV) (fun i => fGet t i) (fun v => ofV v) (fun _ => none) (fun f => some (.fn (.func f) [] [])) x
theorem fOpd_eq (x : Operand) : fOpd t x = opd t x := by
  cases x <;> simp only [fOpd, opd, fGet_eq]

def withO {β : Type} (o : Option AV) (K : AV → Option β) : Option β :=
  match o with
  | none => none
  | some v => K v
theorem withO_none {β : Type} (K : AV → Option β) : withO none K = none := rfl
theorem withO_some {β : Type} (v : AV) (K : AV → Option β) : withO (some v) K = K v := rfl

def vOut (h : Tr AO) (v : AV) : Option OR := some (.val v h)

/-! binary operations -/
def fIntEq (a b : Int) (h : Tr AO) : Option OR := boolK (intBeq a b) (vOut h)
def fBinI2 (op : BinOp) (k : IntKind) (a b : Int) (h : Tr AO) : Option OR := binInt op k a b (vOut h)
def fBinI1 (op : BinOp) (k : IntKind) (a : Int) (j : IntKind) (b : Int) (h : Tr AO) : Option OR :=
  match ikBeq k j with
  | true => fBinI2 op k a b h
  | false => none
def fBinI (op : BinOp) (k : IntKind) (a : Int) (j : IntKind) (b : Int) (h : Tr AO) : Option OR :=
  match op with
  | .shl => binShift .shl k a b (vOut h)
  | .shr => binShift .shr k a b (vOut h)
  | op => fBinI1 op k a j b h
def fBinO (op : BinOp) (T : TT) (ty : Nat) (x y : Operand) (a b : AV) (h : Tr AO) : Option OR :=
  match op with
  | .eql => match eqOther T ty x y a b with
    | some r => boolK r fun v => some (.val v h)
    | none => none
  | .neq => match eqOther T ty x y a b with
    | some r => boolK (!r) fun v => some (.val v h)
    | none => none
  | _ => none
def fBinB (op : BinOp) (T : TT) (ty : Nat) (x y : Operand) (a : AV) (h : Tr AO) (b : AV) : Option OR :=
  match a with
  | .int k m => match b with
    | .int j n => fBinI op k m j n h
    | b => fBinO op T ty x y (.int k m) b h
  | .str l => match b with
    | .str m => binStr op l m (vOut h)
    | b => fBinO op T ty x y (.str l) b h
  | a => fBinO op T ty x y a b h
theorem fBinB_eq (op : BinOp) (ty : Nat) (x y : Operand) (a b : AV) : fBinB op T ty x y a h b = xbin T op ty x y a b h := by
  cases a
  case int k m =>
    cases b
    case int j n => cases op <;> rfl
    all_goals rfl
  case str l => cases b <;> rfl
  all_goals (cases b <;> rfl)

/-! the store -/
def fTr1 {α : Type} (v : Option α) (a b : Nat → Option α) (k : Nat) : Option α :=
  match Nat.beq k 0 with
  | true => v
  | false => match Nat.beq (Nat.mod k 2) 1 with
    | true => a (Nat.div k 2)
    | false => b (Nat.sub (Nat.div k 2) 1)
noncomputable def fTr {α : Type} : Tr α → Nat → Option α := Tr.rec (motive := fun _ => Nat → Option α) (fun _ => none) fun _ v _ a b k => fTr1 v a b k
theorem fTr_eq {α : Type} : ∀ (t : Tr α) (k : Nat), fTr t k = t.get k
  | .lf, _ => rfl
  | .nd l v r, k => by
    have h1 : fTr l = l.get := funext (fTr_eq l)
    have h2 : fTr r = r.get := funext (fTr_eq r)
    show fTr1 v (fTr l) (fTr r) k = _
    rw [h1, h2]
    rfl

def fSetLf {β : Type} (ih : Tr AO → Nat → Option AO → (Tr AO → Option β) → Option β) (k : Nat) (v : Option AO) (K : Tr AO → Option β) : Option β :=
  match Nat.beq k 0 with
  | true => K (.nd .lf v .lf)
  | false => match Nat.beq (Nat.mod k 2) 1 with
    | true => ih .lf (Nat.div k 2) v fun l => K (.nd l none .lf)
    | false => ih .lf (Nat.sub (Nat.div k 2) 1) v fun r => K (.nd .lf none r)
def fSetNd {β : Type} (ih : Tr AO → Nat → Option AO → (Tr AO → Option β) → Option β) (l : Tr AO) (x : Option AO) (r : Tr AO) (k : Nat) (v : Option AO) (K : Tr AO → Option β) : Option β :=
  match Nat.beq k 0 with
  | true => K (.nd l v r)
  | false => match Nat.beq (Nat.mod k 2) 1 with
    | true => ih l (Nat.div k 2) v fun l => K (.nd l x r)
    | false => ih r (Nat.sub (Nat.div k 2) 1) v fun r => K (.nd l x r)
def fSet1 {β : Type} (ih : Tr AO → Nat → Option AO → (Tr AO → Option β) → Option β) (t : Tr AO) (k : Nat) (v : Option AO) (K : Tr AO → Option β) : Option β :=
  match t with
  | .lf => fSetLf ih k v K
  | .nd l x r => fSetNd ih l x r k v K
noncomputable def fSetTr {β : Type} : Nat → Tr AO → Nat → Option AO → (Tr AO → Option β) → Option β :=
  Nat.rec (motive := fun _ => Tr AO → Nat → Option AO → (Tr AO → Option β) → Option β) (fun _ _ _ _ => none) fun _ ih t k v K => fSet1 ih t k v K
theorem fSetTr_eq {β : Type} : ∀ (d : Nat) (t : Tr AO) (k : Nat) (v : Option AO) (K : Tr AO → Option β), fSetTr d t k v K = Tr.setK d t k v K
  | 0, _, _, _, _ => by rw [Tr.setK]; rfl
  | d + 1, t, k, v, K => by
    have ih : ∀ t k v K, fSetTr (β := β) d t k v K = Tr.setK d t k v K := fSetTr_eq d
    show fSet1 (fSetTr d) t k v K = _
    cases t with
    | lf =>
      simp only [fSet1, fSetLf, ih]
      rw [Tr.setK]
      rfl
    | nd l x r =>
      simp only [fSet1, fSetNd, ih]
      rw [Tr.setK]
      rfl

noncomputable def fSet {β : Type} : List AV → Nat → AV → (List AV → Option β) → Option β :=
  List.rec (motive := fun _ => Nat → AV → (List AV → Option β) → Option β) (fun _ _ K => K []) fun a l ih n v K =>
    Nat.rec (motive := fun _ => Option β) (K (v :: l)) (fun n _ => ih n v fun l => K (a :: l)) n
theorem fSet_eq {β : Type} : ∀ (l : List AV) (n : Nat) (v : AV) (K : List AV → Option β), fSet l n v K = setNK l n v K
  | [], _, _, _ => rfl
  | _ :: _, 0, _, _ => rfl
  | a :: l, n + 1, v, K => fSet_eq l n v fun l => K (a :: l)

noncomputable def fLd (T : TT) (ty : Nat) (cs : List AV) (off : Nat) : Option AV :=
  match T ty with
  | none => none
  | some D => match D.k with
    | .st _ => (match seg cs off D.size with
      | some vs => some (.agg vs)
      | none => none)
    | .arr _ _ => (match seg cs off D.size with
      | some vs => some (.agg vs)
      | none => none)
    | _ => fGet cs off
noncomputable def fLdO (T : TT) (ty off : Nat) (o : Option AO) : Option AV :=
  match o with
  | none => none
  | some o => match o with
    | .cells cs _ => fLd T ty cs off
    | _ => none
noncomputable def fXload (T : TT) (ty : Nat) (h : Tr AO) (a : AV) : Option AV :=
  match a with
  | .ptr i off => fLdO T ty off (fTr h i)
  | _ => none
theorem fXload_eq (ty : Nat) (a : AV) : fXload T ty h a = xload T ty a h := by
  cases a <;> try rfl
  rename_i i off
  simp only [fXload, fTr_eq, xload]
  cases h.get i with
  | none => rfl
  | some o =>
    cases o <;> try rfl
    rename_i cs op
    simp only [fLdO, fLd, fGet_eq]
    cases T ty with
    | none => rfl
    | some D =>
      obtain ⟨k, s, b, z, e⟩ := D
      cases k <;> rfl
noncomputable def fSt2 (T : TT) (ty i off : Nat) (cs : List AV) (op : Bool) (v : AV) (h : Tr AO) : Option OR :=
  match T ty with
  | none => none
  | some D => match Nat.beq (cellsOf v).length D.size with
    | false => none
    | true => match allOne (cellsOf v) with
      | false => none
      | true => match over cs off (cellsOf v) with
        | none => none
        | some cs => fSetTr deep h i (some (.cells cs op)) fun h => some (.val (.tup []) h)
noncomputable def fStO (T : TT) (ty i off : Nat) (v : AV) (h : Tr AO) (o : Option AO) : Option OR :=
  match o with
  | none => none
  | some o => match o with
    | .cells cs op => fSt2 T ty i off cs op v h
    | _ => none
noncomputable def fXstore (T : TT) (ty : Nat) (h : Tr AO) (a v : AV) : Option OR :=
  match a with
  | .ptr i off => fStO T ty i off v h (fTr h i)
  | _ => none
theorem fXstore_eq (ty : Nat) (a v : AV) : fXstore T ty h a v = xstore T ty a v h := by
  cases a <;> try rfl
  rename_i i off
  simp only [fXstore, fTr_eq, xstore]
  cases h.get i with
  | none => rfl
  | some o =>
    cases o <;> try rfl
    rename_i cs op
    simp only [fStO, fSt2, fSetTr_eq]
    cases T ty with
    | none => rfl
    | some D =>
      obtain ⟨k, s, b, z, e⟩ := D
      simp only
      cases Nat.beq (cellsOf v).length s <;> cases allOne (cellsOf v) <;> try rfl
      simp only
      cases over cs off (cellsOf v) <;> rfl

/-! the operations, one by one -/
def fAlloc (T : TT) (e : Nat) (h : Tr AO) (r : Nat) : Option OR := xop T (.alloc e) [] h r
noncomputable def fBox (t : List AV) (x : Operand) (h : Tr AO) (r : Nat) : Option OR := withO (fOpd t x) fun v => fSetTr deep h r (some (.cells (cellsOf v) false)) fun h => some (.val (.ptr r 0) h)
noncomputable def fMove (t : List AV) (x : Operand) (h : Tr AO) : Option OR := withO (fOpd t x) (vOut h)
noncomputable def fLoad (T : TT) (t : List AV) (ty : Nat) (x : Operand) (h : Tr AO) : Option OR := withO (fOpd t x) fun a => withO (fXload T ty h a) (vOut h)
noncomputable def fStore (T : TT) (t : List AV) (ty : Nat) (x y : Operand) (h : Tr AO) : Option OR := withO (fOpd t x) fun a => withO (fOpd t y) (fXstore T ty h a)
noncomputable def fBin (T : TT) (t : List AV) (op : BinOp) (ty : Nat) (x y : Operand) (h : Tr AO) : Option OR := withO (fOpd t x) fun a => withO (fOpd t y) (fBinB op T ty x y a h)
noncomputable def fUn (t : List AV) (op : UnOp) (x : Operand) (h : Tr AO) : Option OR := withO (fOpd t x) fun a => xun op a h
noncomputable def fIdxA (T : TT) (t : List AV) (ty : Nat) (x i : Operand) (h : Tr AO) : Option OR := withO (fOpd t x) fun a => withO (fOpd t i) fun i => withO (xindexAddr T ty a i) (vOut h)
noncomputable def fIdx (T : TT) (t : List AV) (ty : Nat) (x i : Operand) (h : Tr AO) : Option OR := withO (fOpd t x) fun a => withO (fOpd t i) fun i => withO (xindex T ty a i) (vOut h)
def fFA2 (T : TT) (i o fo ft : Nat) (h : Tr AO) : Option OR :=
  match T ft with
  | none => none
  | some F => match Nat.beq F.size 0 with
    | false => forceN (Nat.add o fo) fun o => some (.val (.ptr i o) h)
    | true => none
def fFA1 (T : TT) (i o : Nat) (fs : List (Nat × Nat)) (f : Nat) (h : Tr AO) : Option OR :=
  match fieldOf fs f with
  | none => none
  | some (fo, ft) => fFA2 T i o fo ft h
def fFA (T : TT) (ty f : Nat) (h : Tr AO) (a : AV) : Option OR :=
  match a with
  | .ptr i o => match T ty with
    | none => none
    | some D => match D.k with
      | .st fs => fFA1 T i o fs f h
      | _ => none
  | _ => none
noncomputable def fFieldA (T : TT) (t : List AV) (ty : Nat) (x : Operand) (f : Nat) (h : Tr AO) : Option OR := withO (fOpd t x) (fFA T ty f h)
def fNC (h : Tr AO) (a : AV) : Option OR :=
  match a with
  | .ptr i o => some (.val (.ptr i o) h)
  | .fn f a b => match f with
    | .func f => some (.val (.fn (.func f) a b) h)
    | _ => none
  | _ => none
noncomputable def fNil (t : List AV) (x : Operand) (h : Tr AO) : Option OR := withO (fOpd t x) (fNC h)
def fEx (i : Nat) (h : Tr AO) (a : AV) : Option OR :=
  match a with
  | .tup vs => withO (getN vs i) (vOut h)
  | _ => none
noncomputable def fExtract (t : List AV) (x : Operand) (i : Nat) (h : Tr AO) : Option OR := withO (fOpd t x) (fEx i h)
def fPk (t : List AV) (x y : Operand) (h : Tr AO) (c : AV) : Option OR :=
  match c with
  | .bool b => match b with
    | true => withO (opd t x) (vOut h)
    | false => withO (opd t y) (vOut h)
  | _ => none
noncomputable def fPick (t : List AV) (c x y : Operand) (h : Tr AO) : Option OR := withO (fOpd t c) (fPk t x y h)

noncomputable def fCallV (t : List AV) (f : Operand) (args : List AV) : Option OR :=
  match fOpd t f with
  | some (.fn (.func f) first cap) => some (.call f (first ++ (args ++ cap)))
  | _ => none
noncomputable def fCall (T : TT) (t : List AV) (c : Call) (h : Tr AO) (r : Nat) : Option OR :=
  match c.callee with
  | .value f => match opds t c.args.toList with
    | none => none
    | some args => fCallV t f args
  | _ => xcall T t c h r

noncomputable def fop (T : TT) (o : Op) (t : List AV) (h : Tr AO) (r : Nat) : Option OR :=
  match o with
  | .move x => fMove t x h
  | .assign x => fMove t x h
  | .pick c a b => fPick t c a b h
  | .alloc e => fAlloc T e h r
  | .box _ x => fBox t x h r
  | .load ty x => fLoad T t ty x h
  | .store ty x y => fStore T t ty x y h
  | .nilCheck x => fNil t x h
  | .binOp op ty x y _ => fBin T t op ty x y h
  | .unOp op _ x => fUn t op x h
  | .fieldAddr ty x f => fFieldA T t ty x f h
  | .indexAddr ty x i => fIdxA T t ty x i h
  | .index ty x i => fIdx T t ty x i h
  | .extract x i => fExtract t x i h
  | .call c => fCall T t c h r
  | o => xop T o t h r

theorem fCall_eq (c : Call) : fCall T t c h r = xcall T t c h r := by
  unfold fCall fCallV
  cases hc : c.callee with
  | value f =>
    simp only [xcall, hc, fOpd_eq]
    cases opds t c.args.toList <;> rfl
  | invoke f m => rfl
  | builtin b => rfl

theorem fop_eq (o : Op) : fop T o t h r = xop T o t h r := by
  cases o <;> try rfl
  case move x => simp only [fop, fMove, fOpd_eq, xop]; cases opd t x <;> rfl
  case assign x => simp only [fop, fMove, fOpd_eq, xop]; cases opd t x <;> rfl
  case box e x => simp only [fop, fBox, fOpd_eq, fSetTr_eq, xop]; cases opd t x <;> rfl
  case pick c a b =>
    simp only [fop, fPick, fOpd_eq, xop]
    cases opd t c with
    | none => rfl
    | some v =>
      simp only [withO_some, fPk]
      cases v <;> try rfl
      rename_i b'
      cases b'
      · simp only; cases opd t b <;> rfl
      · simp only; cases opd t a <;> rfl
  case load ty x =>
    simp only [fop, fLoad, fOpd_eq, fXload_eq, xop]
    cases opd t x with
    | none => rfl
    | some v => simp only [withO_some]; cases xload T ty v h <;> rfl
  case store ty x y =>
    simp only [fop, fStore, fOpd_eq, xop]
    cases opd t x with
    | none => rfl
    | some v =>
      simp only [withO_some]
      cases opd t y with
      | none => rfl
      | some u => exact fXstore_eq T h ty v u
  case nilCheck x =>
    simp only [fop, fNil, fOpd_eq, xop]
    cases opd t x with
    | none => rfl
    | some v =>
      cases v <;> try rfl
      rename_i f _ _
      cases f <;> rfl
  case binOp op ty x y yt =>
    simp only [fop, fBin, fOpd_eq, xop]
    cases opd t x with
    | none => rfl
    | some v =>
      simp only [withO_some]
      cases opd t y with
      | none => rfl
      | some u => simp only [withO_some]; exact fBinB_eq T h op ty x y v u
  case unOp op ty x => simp only [fop, fUn, fOpd_eq, xop]; cases opd t x <;> rfl
  case fieldAddr ty x f =>
    simp only [fop, fFieldA, fOpd_eq, xop]
    cases opd t x with
    | none => rfl
    | some v =>
      cases v <;> try rfl
      rename_i i o
      simp only [withO_some, fFA]
      cases T ty with
      | none => rfl
      | some D =>
        obtain ⟨k, s, b, z, e⟩ := D
        cases k <;> try rfl
        rename_i fs
        simp only [fFA1]
        cases fieldOf fs f with
        | none => rfl
        | some p =>
          obtain ⟨fo, ft⟩ := p
          simp only [fFA2]
          cases T ft <;> rfl
  case indexAddr ty x i =>
    simp only [fop, fIdxA, fOpd_eq, xop]
    cases opd t x with
    | none => rfl
    | some v =>
      simp only [withO_some]
      cases opd t i with
      | none => rfl
      | some u => simp only [withO_some]; cases xindexAddr T ty v u <;> rfl
  case index ty x i =>
    simp only [fop, fIdx, fOpd_eq, xop]
    cases opd t x with
    | none => rfl
    | some v =>
      simp only [withO_some]
      cases opd t i with
      | none => rfl
      | some u => simp only [withO_some]; cases xindex T ty v u <;> rfl
  case extract x i =>
    simp only [fop, fExtract, fOpd_eq, xop]
    cases opd t x with
    | none => rfl
    | some v =>
      cases v <;> try rfl
      rename_i vs
      simp only [withO_some, fEx]
      cases getN vs i <;> rfl
  case call c => exact fCall_eq T t h r c

end

/-! ### regions, code, calls -/
noncomputable def fPut {β : Type} (d : Option Nat) (t : List AV) (v : AV) (K : List AV → Option β) : Option β :=
  match d with
  | none => K t
  | some d => fSet t d v K
theorem fPut_eq {β : Type} (d : Option Nat) (t : List AV) (v : AV) (K : List AV → Option β) : fPut d t v K = putK t d v K := by
  cases d with
  | none => rfl
  | some d => exact fSet_eq t d v K
def fRes {β : Type} (K : AV → Tr AO → Nat → Option β) (r : Option (AV × Tr AO × Nat)) : Option β :=
  match r with
  | none => none
  | some p => match p with
    | (v, q) => match q with
      | (h, n) => K v h n
noncomputable def fAfter {β : Type} (cf : CF) (d : Option Nat) (t : List AV) (h : Tr AO) (n : Nat) (K : List AV → Tr AO → Nat → Option β) (q : OR) : Option β :=
  match q with
  | .val v h => fPut d t v fun t => K t h n
  | .call f args => fRes (fun v h n => fPut d t v fun t => K t h n) (cf f args h n)
noncomputable def fDo {β : Type} (T : TT) (cf : CF) (d : Option Nat) (op : Op) (r : Nat) (t : List AV) (h : Tr AO) (n : Nat) (K : List AV → Tr AO → Nat → Option β) : Option β :=
  match fop T op t h r with
  | none => none
  | some q => fAfter cf d t h n K q
noncomputable def fStepG {β : Type} (T : TT) (cf : CF) (d : Option Nat) (op : Op) (r : Nat) (t : List AV) (h : Tr AO) (n : Nat) (K : List AV → Tr AO → Nat → Option β) (b : Bool) : Option β :=
  match b with
  | true => fDo T cf d op r t h n K
  | false => fPut d t (.tup []) fun t => K t h n
noncomputable def fStepW {β : Type} (T : TT) (cf : CF) (ops : List Oper) (g : Option (Nat × Bool)) (d : Option Nat) (op : Op) (r : Nat) (t : List AV) (h : Tr AO) (n : Nat) (K : List AV → Tr AO → Nat → Option β) : Option β :=
  match g with
  | none => fDo T cf d op r t h n K
  | some g => fStepG T cf d op r t h n K (want ops t (some g))
noncomputable def fStep {β : Type} (T : TT) (cf : CF) (ops : List Oper) (o : Oper) (r : Nat) (t : List AV) (h : Tr AO) (n : Nat) (K : List AV → Tr AO → Nat → Option β) : Option β :=
  fStepW T cf ops o.guard o.dst o.op r t h n K
theorem fStep_eq {β : Type} (T : TT) (cf : CF) (ops : List Oper) (o : Oper) (r : Nat) (t : List AV) (h : Tr AO) (n : Nat) (K : List AV → Tr AO → Nat → Option β) :
    fStep T cf ops o r t h n K = step T cf ops o r t h n K := by
  have hdo : fDo T cf o.dst o.op r t h n K = match xop T o.op t h r with
    | none => none
    | some (.val v h) => putK t o.dst v fun t => K t h n
    | some (.call f args) => match cf f args h n with
      | none => none
      | some (v, h, n) => putK t o.dst v fun t => K t h n := by
    unfold fDo
    rw [fop_eq]
    cases xop T o.op t h r with
    | none => rfl
    | some q =>
      cases q with
      | val v h => simp only [fAfter, fPut_eq]
      | call f args =>
        simp only [fAfter]
        cases cf f args h n with
        | none => rfl
        | some p => obtain ⟨v, h, n⟩ := p; simp only [fRes, fPut_eq]
  unfold fStep fStepW step
  cases hg : o.guard with
  | none => simp only [want]; exact hdo
  | some g =>
    simp only [fStepG]
    cases want ops t (some g)
    · exact fPut_eq _ _ _ _
    · exact hdo

noncomputable def fSteps (T : TT) (cf : CF) (ops : List Oper) : List Oper → Nat → List AV → Tr AO → Nat → Option St :=
  List.rec (motive := fun _ => Nat → List AV → Tr AO → Nat → Option St) (fun _ t h n => some ⟨t, h, n⟩) fun o _ ih r t h n => fStep T cf ops o r t h n (ih (Nat.succ r))
theorem fSteps_eq (T : TT) (cf : CF) (ops : List Oper) : ∀ (l : List Oper) (r : Nat) (t : List AV) (h : Tr AO) (n : Nat), fSteps T cf ops l r t h n = steps T cf ops l r t h n
  | [], _, _, _, _ => rfl
  | o :: l, r, t, h, n => by
    have ih : fSteps T cf ops l (Nat.succ r) = fun t h n => steps T cf ops l (Nat.succ r) t h n := by funext t h n; exact fSteps_eq T cf ops l _ t h n
    show fStep T cf ops o r t h n (fSteps T cf ops l (Nat.succ r)) = _
    rw [ih, fStep_eq]
    rfl

def fSeen (K : St × List (Nat × List Nat) × List (List Nat × Tr AO) → Option (St × List (Nat × List Nat) × List (List Nat × Tr AO))) (r : Option (St × List (Nat × List Nat) × List (List Nat × Tr AO))) : Option (St × List (Nat × List Nat) × List (List Nat × Tr AO)) :=
  match r with
  | none => none
  | some p => K p
def fSee (ids : List (Nat × List Nat)) (p : St × List (Nat × List Nat) × List (List Nat × Tr AO)) : Option (St × List (Nat × List Nat) × List (List Nat × Tr AO)) :=
  match p with
  | (s, q) => match q with
    | (js, hs) => some (s, ids ++ js, hs)
def fKeepSt (h : List Nat × Tr AO) (p : St × List (Nat × List Nat) × List (List Nat × Tr AO)) : Option (St × List (Nat × List Nat) × List (List Nat × Tr AO)) :=
  match p with
  | (s, q) => match q with
    | (js, hs) => some (s, js, h :: hs)
noncomputable def fFirst2 (c : List Nat) (o : Oper) (t : List AV) (h : Tr AO) (n : Nat) (ih : List AV → Tr AO → Nat → Option (St × List (Nat × List Nat) × List (List Nat × Tr AO))) (q : OR) : Option (St × List (Nat × List Nat) × List (List Nat × Tr AO)) :=
  match q with
  | .val v _ => fSeen (fSee (covs c (readsOf t o.op))) (fPut o.dst t v fun t => ih t h n)
  | .call _ _ => none
noncomputable def fFirst1 (c : List Nat) (T : TT) (r : Nat) (h0 : Tr AO) (o : Oper) (t : List AV) (h : Tr AO) (n : Nat) (ih : List AV → Tr AO → Nat → Option (St × List (Nat × List Nat) × List (List Nat × Tr AO))) : Option (St × List (Nat × List Nat) × List (List Nat × Tr AO)) :=
  match quiet o.op with
  | false => none
  | true => match fop T o.op t h0 r with
    | none => none
    | some q => fFirst2 c o t h n ih q
noncomputable def fFirstG (c : List Nat) (T : TT) (r : Nat) (h0 : Tr AO) (o : Oper) (t : List AV) (h : Tr AO) (n : Nat) (ih : List AV → Tr AO → Nat → Option (St × List (Nat × List Nat) × List (List Nat × Tr AO))) (b : Bool) : Option (St × List (Nat × List Nat) × List (List Nat × Tr AO)) :=
  match b with
  | true => fFirst1 c T r h0 o t h n ih
  | false => fPut o.dst t (.tup []) fun t => ih t h n
noncomputable def fFirst (c : List Nat) (T : TT) (ops : List Oper) (r : Nat) (h0 : Tr AO) (t : List AV) (h : Tr AO) (n : Nat) (ih : List AV → Tr AO → Nat → Option (St × List (Nat × List Nat) × List (List Nat × Tr AO))) (o : Option Oper) : Option (St × List (Nat × List Nat) × List (List Nat × Tr AO)) :=
  match o with
  | none => none
  | some o => fFirstG c T r h0 o t h n ih (want ops t o.guard)
noncomputable def fOnly (on : List Nat) (T : TT) (cf : CF) (ops : List Oper) (r : Nat) (t : List AV) (h : Tr AO) (n : Nat) (ih : List AV → Tr AO → Nat → Option (St × List (Nat × List Nat) × List (List Nat × Tr AO))) (o : Option Oper) : Option (St × List (Nat × List Nat) × List (List Nat × Tr AO)) :=
  match o with
  | none => none
  | some o => fStep T cf ops o r t h n fun t h n => fSeen (fKeepSt (on, h)) (ih t h n)
def fJoin (p q : St × List (Nat × List Nat) × List (List Nat × Tr AO)) : Option (St × List (Nat × List Nat) × List (List Nat × Tr AO)) :=
  match p, q with
  | (s1, a1, b1), (s2, a2, b2) => match stBeq s2 s1 with
    | true => some (s1, a1 ++ a2, b1 ++ b2)
    | false => none
noncomputable def fPlan (T : TT) (cf : CF) (ops : List Oper) (r : Nat) (h0 : Tr AO) : Plan → List Nat → List AV → Tr AO → Nat → Option (St × List (Nat × List Nat) × List (List Nat × Tr AO)) :=
  Plan.rec (motive := fun _ => List Nat → List AV → Tr AO → Nat → Option (St × List (Nat × List Nat) × List (List Nat × Tr AO)))
    (fun _ t h n => some (⟨t, h, n⟩, [], []))
    (fun i c _ ih on t h n => fFirst c T ops (Nat.add r i) h0 t h n (ih on) (nthO ops i))
    (fun i _ ih on t h n => fOnly (i :: on) T cf ops (Nat.add r i) t h n (ih (i :: on)) (nthO ops i))
    (fun i _ _ ihp ihq on t h n => fSeen (fun p => fSeen (fun q => fJoin p q) (ihq on t h n)) (fOnly (i :: on) T cf ops (Nat.add r i) t h n (ihp (i :: on)) (nthO ops i)))
theorem fOnly_eq (on : List Nat) (T : TT) (cf : CF) (ops : List Oper) (r : Nat) (t : List AV) (h : Tr AO) (n : Nat) (ih : List AV → Tr AO → Nat → Option (St × List (Nat × List Nat) × List (List Nat × Tr AO))) (o : Oper) :
    fOnly on T cf ops r t h n ih (some o) = step T cf ops o r t h n fun t h n => match ih t h n with
      | some (s, ids, hs) => some (s, ids, (on, h) :: hs)
      | none => none := by
  simp only [fOnly, fStep_eq]
  congr 1
  funext t h n
  cases ih t h n <;> rfl
theorem fPlan_eq (T : TT) (cf : CF) (ops : List Oper) (r : Nat) (h0 : Tr AO) : ∀ (p : Plan) (on : List Nat) (t : List AV) (h : Tr AO) (n : Nat), fPlan T cf ops r h0 p on t h n = xplan T cf ops r h0 p on t h n
  | .done, _, _, _, _ => rfl
  | .first i c p, on, t, h, n => by
    have ih : fPlan T cf ops r h0 p on = fun t h n => xplan T cf ops r h0 p on t h n := by funext t h n; exact fPlan_eq T cf ops r h0 p on t h n
    show fFirst c T ops (Nat.add r i) h0 t h n (fPlan T cf ops r h0 p on) (nthO ops i) = _
    rw [ih]
    simp only [xplan]
    cases nthO ops i with
    | none => rfl
    | some o =>
      simp only [fFirst]
      cases want ops t o.guard
      · simp only [fFirstG, fPut_eq]
      · simp only [fFirstG, fFirst1]
        cases quiet o.op
        · rfl
        · simp only [fop_eq]
          cases xop T o.op t h0 (Nat.add r i) with
          | none => rfl
          | some q =>
            cases q with
            | call f a => rfl
            | val v h' =>
              simp only [fFirst2, fPut_eq]
              cases putK t o.dst v fun t => xplan T cf ops r h0 p on t h n <;> rfl
  | .only i p, on, t, h, n => by
    have ih : fPlan T cf ops r h0 p (i :: on) = fun t h n => xplan T cf ops r h0 p (i :: on) t h n := by funext t h n; exact fPlan_eq T cf ops r h0 p (i :: on) t h n
    show fOnly (i :: on) T cf ops (Nat.add r i) t h n (fPlan T cf ops r h0 p (i :: on)) (nthO ops i) = _
    rw [ih]
    simp only [xplan]
    cases nthO ops i with
    | none => rfl
    | some o => exact fOnly_eq _ _ _ _ _ _ _ _ _ _
  | .alt i p q, on, t, h, n => by
    have ih : fPlan T cf ops r h0 p (i :: on) = fun t h n => xplan T cf ops r h0 p (i :: on) t h n := by funext t h n; exact fPlan_eq T cf ops r h0 p (i :: on) t h n
    have ih2 := fPlan_eq T cf ops r h0 q on t h n
    show fSeen (fun p => fSeen (fun q => fJoin p q) (fPlan T cf ops r h0 q on t h n)) (fOnly (i :: on) T cf ops (Nat.add r i) t h n (fPlan T cf ops r h0 p (i :: on)) (nthO ops i)) = _
    rw [ih, ih2]
    simp only [xplan]
    cases nthO ops i with
    | none => rfl
    | some o =>
      simp only [fOnly_eq]
      cases step T cf ops o (Nat.add r i) t h n fun t h n => match xplan T cf ops r h0 p (i :: on) t h n with
        | some (s, ids, hs) => some (s, ids, (i :: on, h) :: hs)
        | none => none with
      | none => rfl
      | some p1 =>
        obtain ⟨s1, a1, b1⟩ := p1
        simp only [fSeen]
        cases xplan T cf ops r h0 q on t h n with
        | none => rfl
        | some p2 => obtain ⟨s2, a2, b2⟩ := p2; rfl

def fStab (h0 : Tr AO) (p : St × List (Nat × List Nat) × List (List Nat × Tr AO)) : Option St :=
  match p with
  | (s, q) => match q with
    | (ids, hs) => match stable ids h0 hs with
      | true => some s
      | false => none
def fStabO (h0 : Tr AO) (p : Option (St × List (Nat × List Nat) × List (List Nat × Tr AO))) : Option St :=
  match p with
  | none => none
  | some p => fStab h0 p
noncomputable def fDraw (T : TT) (cf : CF) (ops : List Oper) (s : St) (p : Option Plan) : Option St :=
  match p with
  | none => none
  | some p => forceN (Nat.add s.n ops.length) fun n => fStabO s.h (fPlan T cf ops s.n s.h p [] s.t s.h n)
noncomputable def fRegion (T : TT) (cf : CF) (plans : List (Nat × Plan)) (id : Nat) (ops : List Oper) (draw : Bool) (s : St) : Option St :=
  match draw with
  | false => forceN (Nat.add s.n ops.length) fun n => fSteps T cf ops ops s.n s.t s.h n
  | true => fDraw T cf ops s (planAt plans id)
theorem fRegion_eq (T : TT) (cf : CF) (plans : List (Nat × Plan)) (id : Nat) (ops : List Oper) (draw : Bool) (s : St) : fRegion T cf plans id ops draw s = region T cf plans id ops draw s := by
  cases draw with
  | false => simp only [fRegion, region, fSteps_eq]
  | true =>
    simp only [fRegion, region, fDraw]
    cases planAt plans id with
    | none => rfl
    | some p =>
      simp only [fPlan_eq]
      congr 1
      funext n
      cases xplan T cf ops s.n s.h p [] s.t s.h n <;> rfl

abbrev CM := St → Option (Ex × St)
def gSkip : CM := fun s => some (.normal, s)
noncomputable def gRegion (T : TT) (cf : CF) (plans : List (Nat × Plan)) (id : Nat) (ops : Array Oper) (draw : Bool) : CM := fun s =>
  match fRegion T cf plans id ops.toList draw s with
  | none => none
  | some s => some (.normal, s)
def gSeq2 (b : CM) (ex : Ex) (s : St) : Option (Ex × St) :=
  match ex with
  | .normal => b s
  | .exit i => some (.exit i, s)
  | .ret => some (.ret, s)
def gSeq1 (b : CM) (p : Option (Ex × St)) : Option (Ex × St) :=
  match p with
  | none => none
  | some p => match p with
    | (ex, s) => gSeq2 b ex s
def gSeq (a b : CM) : CM := fun s => gSeq1 b (a s)
def gCond1 (a b : CM) (s : St) (v : AV) : Option (Ex × St) :=
  match v with
  | .bool c => match c with
    | true => a s
    | false => b s
  | _ => none
noncomputable def gCond (c : Operand) (a b : CM) : CM := fun s =>
  match fOpd s.t c with
  | none => none
  | some v => gCond1 a b s v
def gBlock2 (id : Nat) (ex : Ex) (s : St) : Option (Ex × St) :=
  match ex with
  | .exit i => match Nat.beq i id with
    | true => some (.normal, s)
    | false => some (.exit i, s)
  | .normal => some (.normal, s)
  | .ret => some (.ret, s)
def gBlock1 (id : Nat) (p : Option (Ex × St)) : Option (Ex × St) :=
  match p with
  | none => none
  | some p => match p with
    | (ex, s) => gBlock2 id ex s
def gBlock (id : Nat) (a : CM) : CM := fun s => gBlock1 id (a s)
noncomputable def gIter (f : CM) : Nat → CM := Nat.rec (motive := fun _ => CM) (fun _ => none) fun _ ih s => gSeq1 ih (f s)
theorem gIter_eq (f : CM) : ∀ (k : Nat) (s : St), gIter f k s = iter f k s
  | 0, _ => rfl
  | k + 1, s => by
    show gSeq1 (gIter f k) (f s) = _
    simp only [iter]
    cases f s with
    | none => rfl
    | some p =>
      obtain ⟨ex, s⟩ := p
      cases ex
      · exact gIter_eq f k s
      · rfl
      · rfl
noncomputable def fCode (T : TT) (cf : CF) (plans : List (Nat × Plan)) (k : Nat) : Code → CM :=
  Code.rec (motive := fun _ => CM) gSkip (fun id ops draw => gRegion T cf plans id ops draw) (fun _ _ a b => gSeq a b) (fun c _ _ a b => gCond c a b) (fun id _ a => gBlock id a) (fun _ a s => gIter a k s)
    (fun _ _ _ _ _ _ _ => none) (fun id s => some (.exit id, s)) (fun _ a => a) (fun _ => gSkip) (fun _ _ => none) (fun s => some (.ret, s)) (fun _ _ => none)
theorem fCode_eq (T : TT) (cf : CF) (plans : List (Nat × Plan)) (k : Nat) : ∀ (c : Code) (s : St), fCode T cf plans k c s = code T cf plans k c s
  | .skip, _ => rfl
  | .label _, _ => rfl
  | .region id ops draw, s => by
    show gRegion T cf plans id ops draw s = _
    simp only [gRegion, code, fRegion_eq]
    cases region T cf plans id ops.toList draw s <;> rfl
  | .seq a b, s => by
    have ha := fCode_eq T cf plans k a s
    have hb := fCode_eq T cf plans k b
    show gSeq1 (fCode T cf plans k b) (fCode T cf plans k a s) = _
    rw [ha]
    simp only [code]
    cases code T cf plans k a s with
    | none => rfl
    | some p =>
      obtain ⟨ex, s⟩ := p
      cases ex
      · exact hb s
      · rfl
      · rfl
  | .cond c a b, s => by
    have ha := fCode_eq T cf plans k a s
    have hb := fCode_eq T cf plans k b s
    show gCond c (fCode T cf plans k a) (fCode T cf plans k b) s = _
    simp only [gCond, fOpd_eq, code]
    cases opd s.t c with
    | none => rfl
    | some v =>
      cases v <;> try rfl
      rename_i c
      cases c
      · exact hb
      · exact ha
  | .block id a, s => by
    have ha := fCode_eq T cf plans k a s
    show gBlock1 id (fCode T cf plans k a s) = _
    rw [ha]
    simp only [code]
    cases code T cf plans k a s with
    | none => rfl
    | some p =>
      obtain ⟨ex, s⟩ := p
      cases ex <;> rfl
  | .loop a, s => by
    have ha : fCode T cf plans k a = code T cf plans k a := funext (fCode_eq T cf plans k a)
    show gIter (fCode T cf plans k a) k s = _
    rw [ha, gIter_eq]
    simp only [code]
  | .exit _, _ => rfl
  | .scope a, s => by
    have ha := fCode_eq T cf plans k a s
    show fCode T cf plans k a s = _
    rw [ha]
    simp only [code]
  | .ret, _ => rfl
  | .rangeFunc .., _ => rfl
  | .goto _, _ => rfl
  | .refuse _, _ => rfl

noncomputable def gRes1 (n : Nat) (h : Tr AO) (l : Option (List AV)) : Option (AV × Tr AO × Nat) :=
  match l with
  | none => none
  | some l => some (resV l, h, n)
noncomputable def gRes (T : TT) (rs : List ResultVar) (ex : Ex) (s : St) : Option (AV × Tr AO × Nat) :=
  match ex with
  | .exit _ => none
  | .normal => gRes1 s.n s.h (resA T s.t s.h rs)
  | .ret => gRes1 s.n s.h (resA T s.t s.h rs)
noncomputable def gResO (T : TT) (rs : List ResultVar) (p : Option (Ex × St)) : Option (AV × Tr AO × Nat) :=
  match p with
  | none => none
  | some p => match p with
    | (ex, s) => gRes T rs ex s
noncomputable def gBody (T : TT) (cf : CF) (k : Nat) (plans : List (Nat × Plan)) (rs : List ResultVar) (ntmps : Nat) (args : List AV) (h : Tr AO) (n : Nat) (c : Option Code) : Option (AV × Tr AO × Nat) :=
  match c with
  | none => none
  | some c => appK args (repU (Nat.sub ntmps args.length)) fun t => gResO T rs (fCode T cf plans k c ⟨t, h, n⟩)
noncomputable def gFE (T : TT) (cf : CF) (k : Nat) (args : List AV) (h : Tr AO) (n : Nat) (e : Option FE) : Option (AV × Tr AO × Nat) :=
  match e with
  | none => none
  | some e => gBody T cf k e.plans e.fn.results.toList e.fn.ntmps args h n e.fn.body
noncomputable def fcall (T : TT) (F : Nat → Option FE) (k : Nat) : Nat → CF :=
  Nat.rec (motive := fun _ => CF) (fun _ _ _ _ => none) fun _ ih f args h n => gFE T ih k args h n (F f)
theorem fcall_eq (T : TT) (F : Nat → Option FE) (k : Nat) : ∀ d, fcall T F k d = call T F k d
  | 0 => rfl
  | d + 1 => by
    have ih := fcall_eq T F k d
    funext f args h n
    show gFE T (fcall T F k d) k args h n (F f) = _
    rw [ih]
    simp only [call]
    cases F f with
    | none => rfl
    | some e =>
      simp only [gFE, gBody]
      cases e.fn.body with
      | none => rfl
      | some c =>
        simp only [fCode_eq, appK_eq]
        generalize args ++ repU (Nat.sub e.fn.ntmps args.length) = t
        cases code T (call T F k d) e.plans k c ⟨t, h, n⟩ with
        | none => rfl
        | some p =>
          obtain ⟨ex, s⟩ := p
          cases ex
          · simp only [gResO, gRes]; cases resA T s.t s.h e.fn.results.toList <;> rfl
          · rfl
          · simp only [gResO, gRes]; cases resA T s.t s.h e.fn.results.toList <;> rfl
end Go.Ae
