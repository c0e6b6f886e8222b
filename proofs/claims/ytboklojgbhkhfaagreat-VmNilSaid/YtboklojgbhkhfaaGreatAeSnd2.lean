/- The operations of the abstract evaluator do what the model's operations do: numbers, texts, comparisons, conversions that make no memory. The one condition: the table of types is the program's (TIok). -/
import Derived.Test.YtboklojgbhkhfaaGreatAeSnd1
namespace Go.Ae
section
variable {P : Program} {T : TT} {a : Act} {o : Oper} {E : Env} {h : Tr AO} {w : World} {t : List AV}

theorem half_pow (k : IntKind) : ∃ n, half k = 2 ^ n ∧ n ≤ k.bits := by
  cases k
  · exact ⟨7, by decide, by decide⟩
  · exact ⟨15, by decide, by decide⟩
  · exact ⟨31, by decide, by decide⟩
  · exact ⟨63, by decide, by decide⟩
  · exact ⟨8, by decide, by decide⟩
  · exact ⟨16, by decide, by decide⟩
  · exact ⟨32, by decide, by decide⟩
  · exact ⟨64, by decide, by decide⟩

theorem half_le (k : IntKind) : half k ≤ 2 ^ k.bits := by
  obtain ⟨n, h1, h2⟩ := half_pow k
  rw [h1]; exact Nat.pow_le_pow_right (by omega) h2

theorem ofInt_toNat (k : IntKind) (x : Nat) (hx : x < half k) : (BitVec.ofInt k.bits (Int.ofNat x)).toNat = x := by
  have := half_le k
  rw [BitVec.toNat_ofInt, Int.ofNat_eq_natCast]
  have : ((x : Int) % ((2 ^ k.bits : Nat) : Int)).toNat = x % 2 ^ k.bits := by rw [← Int.natCast_emod]; rfl
  rw [this, Nat.mod_eq_of_lt (by omega)]

theorem beq_decide (x y : Int) : (x == y) = decide (x = y) := by rw [Bool.eq_iff_iff]; simp

/-- An answer of an operation of two. -/
def Bin (P : Program) (w : World) (op : BinOp) (ty : Nat) (x y : Value) (q : Option OR) (K : AV → Option OR) : Prop :=
  ∃ v, K v = q ∧ ∀ E, ∃ V, den E v = some V ∧ (binOp op ty x y).run P w = .ok V w

theorem Bin.of {op : BinOp} {ty : Nat} {x y : Value} {q : OR} {K : AV → Option OR} {v : AV} {V : Value} (hk : K v = some q) (hd : ∀ E, den E v = some V)
    (hr : (binOp op ty x y).run P w = .ok V w) : Bin P w op ty x y (some q) K := ⟨v, hk, fun E => ⟨V, hd E, hr⟩⟩

theorem binInt_ok {op : BinOp} {k : IntKind} {x y : Int} {ty : Nat} {K : AV → Option OR} {q : OR} (hq : binInt op k x y K = some q) :
    Bin P w op ty (.int k x) (.int k y) (some q) K := by
  cases op <;> simp only [binInt] at hq
  case add => rw [wrapK_eq] at hq; exact .of hq (fun _ => rfl) (by simp [binOp, Op.intArith])
  case sub => rw [wrapK_eq] at hq; exact .of hq (fun _ => rfl) (by simp [binOp, Op.intArith]; rfl)
  case mul => rw [wrapK_eq] at hq; exact .of hq (fun _ => rfl) (by simp [binOp, Op.intArith])
  case quo =>
    split at hq
    · cases hq
    · rename_i hb
      rw [intBeq_eq] at hb
      have hb' : ¬ y = 0 := by simpa using hb
      rw [wrapK_eq] at hq; exact .of hq (fun _ => rfl) (by simp [binOp, Op.intDiv, hb'])
  case rem =>
    split at hq
    · cases hq
    · rename_i hb
      rw [intBeq_eq] at hb
      have hb' : ¬ y = 0 := by simpa using hb
      rw [forceI_eq] at hq; exact .of hq (fun _ => rfl) (by simp [binOp, Op.intDiv, hb'])
  case and =>
    split at hq
    · rename_i m n
      split at hq
      · rename_i h1 h2
        rw [Nat.blt_eq] at h1 h2
        rw [forceN_eq] at hq
        refine .of hq (fun _ => rfl) ?_
        have e : ((BitVec.ofInt k.bits (Int.ofNat m)) &&& (BitVec.ofInt k.bits (Int.ofNat n))).toNat = m &&& n := by rw [BitVec.toNat_and, ofInt_toNat k m h1, ofInt_toNat k n h2]
        have hw := wrap_lt k (m &&& n) (Nat.lt_of_le_of_lt Nat.and_le_left h1)
        simp only [binOp, Op.intBits, e, ne_eq, not_true_eq_false, if_false, Sem.run_pure]
        rw [← Int.ofNat_eq_natCast (n := m &&& n), hw]; rfl
      · cases hq
    · cases hq
  case or =>
    split at hq
    · rename_i m n
      split at hq
      · rename_i h1 h2
        rw [Nat.blt_eq] at h1 h2
        rw [forceN_eq] at hq
        refine .of hq (fun _ => rfl) ?_
        have e : ((BitVec.ofInt k.bits (Int.ofNat m)) ||| (BitVec.ofInt k.bits (Int.ofNat n))).toNat = m ||| n := by rw [BitVec.toNat_or, ofInt_toNat k m h1, ofInt_toNat k n h2]
        obtain ⟨p, hp, _⟩ := half_pow k
        have hw := wrap_lt k (m ||| n) (by rw [hp] at h1 h2 ⊢; exact Nat.or_lt_two_pow h1 h2)
        simp only [binOp, Op.intBits, e, ne_eq, not_true_eq_false, if_false, Sem.run_pure]
        rw [← Int.ofNat_eq_natCast (n := m ||| n), hw]; rfl
      · cases hq
    · cases hq
  case xor =>
    split at hq
    · rename_i m n
      split at hq
      · rename_i h1 h2
        rw [Nat.blt_eq] at h1 h2
        rw [forceN_eq] at hq
        refine .of hq (fun _ => rfl) ?_
        have e : ((BitVec.ofInt k.bits (Int.ofNat m)) ^^^ (BitVec.ofInt k.bits (Int.ofNat n))).toNat = m ^^^ n := by rw [BitVec.toNat_xor, ofInt_toNat k m h1, ofInt_toNat k n h2]
        obtain ⟨p, hp, _⟩ := half_pow k
        have hw := wrap_lt k (m ^^^ n) (by rw [hp] at h1 h2 ⊢; exact Nat.xor_lt_two_pow h1 h2)
        simp only [binOp, Op.intBits, e, ne_eq, not_true_eq_false, if_false, Sem.run_pure]
        rw [← Int.ofNat_eq_natCast (n := m ^^^ n), hw]; rfl
      · cases hq
    · cases hq
  case eql => rw [boolK_eq] at hq; exact .of hq (fun _ => rfl) (by simp [binOp, Op.intCmp, intBeq_eq, beq_decide])
  case neq => rw [boolK_eq] at hq; exact .of hq (fun _ => rfl) (by simp [binOp, Op.intCmp, intBeq_eq, bne, beq_decide])
  case lss => rw [boolK_eq] at hq; exact .of hq (fun _ => rfl) (by simp [binOp, Op.intCmp, ltI_eq])
  case leq => rw [boolK_eq] at hq; exact .of hq (fun _ => rfl) (by simp [binOp, Op.intCmp, ltI_eq, ← decide_not, Int.not_lt])
  case gtr => rw [boolK_eq] at hq; exact .of hq (fun _ => rfl) (by simp [binOp, Op.intCmp, ltI_eq])
  case geq => rw [boolK_eq] at hq; exact .of hq (fun _ => rfl) (by simp [binOp, Op.intCmp, ltI_eq, ← decide_not, Int.not_lt])
  all_goals cases hq

theorem binShift_ok {op : BinOp} {k j : IntKind} {x y : Int} {ty : Nat} {K : AV → Option OR} {q : OR} (hop : op = .shl ∨ op = .shr) (hq : binShift op k x y K = some q) :
    Bin P w op ty (.int k x) (.int j y) (some q) K := by
  cases y with
  | negSucc y => simp [binShift] at hq
  | ofNat y =>
    simp only [binShift] at hq
    have hy : ¬ ((y : Int) < 0) := by omega
    rcases hop with rfl | rfl
    · simp only at hq
      rw [wrapK_eq] at hq
      refine .of hq (fun _ => rfl) ?_
      simp only [binOp, Op.shift, Int.ofNat_eq_natCast, hy, if_false, Int.toNat_natCast, Sem.run_pure]
      congr 3
    · cases x with
      | ofNat x =>
        simp only at hq
        rw [forceN_eq] at hq
        refine .of hq (fun _ => rfl) ?_
        simp only [binOp, Op.shift, Int.ofNat_eq_natCast, hy, if_false, Int.toNat_natCast, Sem.run_pure]
        congr 2
        rw [Int.fdiv_eq_ediv_of_nonneg _ (Int.pow_nonneg (by omega))]
        show (x : Int) / 2 ^ (min y k.bits) = ((x / 2 ^ (min y k.bits) : Nat) : Int)
        rw [Int.natCast_ediv, Int.natCast_pow]
        rfl
      | negSucc x => simp at hq

theorem strBeq_beq (x y : List UInt8) : strBeq x y = (x == y) := by rw [strBeq_eq, Bool.eq_iff_iff]; simp

theorem size_mk (l : List UInt8) : (ByteArray.mk l.toArray).size = l.length := by simp [ByteArray.size]

theorem binStr_ok {op : BinOp} {x y : List UInt8} {ty : Nat} {K : AV → Option OR} {q : OR} (hq : binStr op x y K = some q) :
    Bin P w op ty (.string ⟨x.toArray⟩) (.string ⟨y.toArray⟩) (some q) K := by
  cases op <;> simp only [binStr] at hq
  case add =>
    split at hq
    · rename_i hb
      rw [appK_eq] at hq
      refine .of hq (fun _ => rfl) ?_
      have hb' := Nat.le_of_ble_eq_true hb
      have e := run_string_add_sum (P := P) (w := w) ⟨x.toArray⟩ ⟨y.toArray⟩ (by rw [size_mk, size_mk]; exact hb')
      rw [ByteArray.mk_append_mk] at e
      simp only [binOp]
      exact e
    · cases hq
  case eql => rw [boolK_eq] at hq; exact .of hq (fun _ => rfl) (by simp [binOp, Op.stringOp, strBeq_beq])
  case neq => rw [boolK_eq] at hq; exact .of hq (fun _ => rfl) (by simp [binOp, Op.stringOp, strBeq_beq])
  case lss => rw [boolK_eq] at hq; exact .of hq (fun _ => rfl) (by simp [binOp, Op.stringOp])
  case leq => rw [boolK_eq] at hq; exact .of hq (fun _ => rfl) (by simp [binOp, Op.stringOp, strBeq_beq])
  case gtr => rw [boolK_eq] at hq; exact .of hq (fun _ => rfl) (by simp [binOp, Op.stringOp, strBeq_beq])
  case geq => rw [boolK_eq] at hq; exact .of hq (fun _ => rfl) (by simp [binOp, Op.stringOp])
  all_goals cases hq

end
end Go.Ae
