/- Operations in closed pieces, with what follows told to them; and that what they make is what the evaluator answers. No condition. -/
import Derived.Test.YtboklojgbhkhfaaGreatAeQEl
set_option linter.unusedVariables false
namespace Go.Ae
abbrev FK := E2 → Tr AO → Nat → VK → Res
abbrev GT := E2 → AV
def FSim (T : TT) (m : Nat) (F : FK) (o : Op) : Prop := ∀ e t h r K, Rp m e t → Good (F e h r K) K (xop T o t h r)
def GSim (m : Nat) (g : GT) (x : Operand) : Prop := ∀ e t, Rp m e t → opd t x = some (g e)
theorem Good.of_eq {x : Res} {K : VK} {y z : Option OR} (h : Good x K y) (e : z = y) : Good x K z := e ▸ h
theorem good_out {x : Res} {K : VK} {y : Option OR} {v : AV} {h : Tr AO} (hy : y = some (.val v h)) (hx : x = K v h) : Good x K y := .inr ⟨v, h, hy, hx⟩

/-! ### numbers -/
noncomputable def outN (k : IntKind) (K : VK) (h : Tr AO) (z : Nat) : Res := K (.int k (.ofNat z)) h
noncomputable def outV (K : VK) (h : Tr AO) (v : AV) : Res := K v h
noncomputable def outU (K : VK) (h : Tr AO) : Res := K (.tup []) h
abbrev WT := VK → Tr AO → Res → Nat → Nat → Res
noncomputable def sInt2 (op : BinOp) (h : Tr AO) (K : VK) (k : IntKind) (m : Int) (j : IntKind) (n : Int) : Res := gOld (fBinI op k m j n h) K
noncomputable def sInt1 (op : BinOp) (b : AV) (h : Tr AO) (K : VK) (k : IntKind) (m : Int) : Res := avInt b (sInt2 op h K k m) .bad
noncomputable def sInt (op : BinOp) (a b : AV) (h : Tr AO) (K : VK) : Res := avInt a (sInt1 op b h K) .bad
theorem avInt_ok (v : AV) (K : IntKind → Int → Res) (D : Res) : avInt v K D = D ∨ ∃ k n, v = .int k n ∧ avInt v K D = K k n := by
  cases v <;> first | exact .inr ⟨_, _, rfl, rfl⟩ | exact .inl rfl
section
variable {T : TT} {ty : Nat} {x y : Operand} {h : Tr AO} {K : VK} {a b : AV} {op : BinOp}
theorem sInt_ok : Good (sInt op a b h K) K (fBinB op T ty x y a h b) := by
  unfold sInt
  rcases avInt_ok a (sInt1 op b h K) .bad with e | ⟨k, m, rfl, e⟩
  · rw [e]; exact .bad
  · rw [e]
    unfold sInt1
    rcases avInt_ok b (sInt2 op h K k m) .bad with e | ⟨j, n, rfl, e⟩
    · rw [e]; exact .bad
    · rw [e]; exact gOld_ok _ _
end
noncomputable def n2a (ON : ONT) (W : WT) (b : AV) (h : Tr AO) (K : VK) (D : Res) (m : Nat) : Res := ON b (W K h D m) D
noncomputable def n2 (ON : ONT) (W : WT) (a b : AV) (h : Tr AO) (K : VK) (D : Res) : Res := ON a (n2a ON W b h K D) D
noncomputable def vN (ON : ONT) (W : WT) (op : BinOp) (g1 g2 : GT) : FK := fun e h _ K => n2 ON W (g1 e) (g2 e) h K (sInt op (g1 e) (g2 e) h K)
def Wok (k : IntKind) (op : BinOp) (W : WT) : Prop := ∀ K h D m n, W K h D m n = D ∨ Good (W K h D m n) K (fBinI op k (.ofNat m) k (.ofNat n) h)
theorem ikBeq_self (k : IntKind) : ikBeq k k = true := by cases k <;> rfl
theorem vN_ok {T : TT} {m : Nat} {k : IntKind} {ON : ONT} {W : WT} {op : BinOp} {ty yt : Nat} {x y : Operand} {g1 g2 : GT} (hON : ONok k ON) (hW : Wok k op W) (h1 : GSim m g1 x) (h2 : GSim m g2 y) :
    FSim T m (vN ON W op g1 g2) (.binOp op ty x y yt) := fun e t h r K hr => by
  rw [← fop_eq]; simp only [fop, fBin, fOpd_eq, h1 e t hr, h2 e t hr, withO_some, vN, n2]
  have hD : Good (sInt op (g1 e) (g2 e) h K) K (fBinB op T ty x y (g1 e) h (g2 e)) := sInt_ok
  rcases hON (g1 e) (n2a ON W (g2 e) h K (sInt op (g1 e) (g2 e) h K)) (sInt op (g1 e) (g2 e) h K) with e1 | ⟨p, e0, e1⟩
  · rw [e1]; exact hD
  · rw [e1]
    unfold n2a
    rcases hON (g2 e) (W K h (sInt op (g1 e) (g2 e) h K) p) (sInt op (g1 e) (g2 e) h K) with e2 | ⟨q, e3, e2⟩
    · rw [e2]; exact hD
    · rw [e2]
      rcases hW K h (sInt op (g1 e) (g2 e) h K) p q with e4 | e4
      · rw [e4]; exact hD
      · rw [e0, e3] at e4 ⊢; exact e4
noncomputable def wAdd (k : IntKind) (C : Nat) : WT := fun K h D m n => bres (Nat.blt (Nat.add m n) C) (forceNR (Nat.add m n) (outN k K h)) D
noncomputable def wSub (k : IntKind) (C : Nat) : WT := fun K h D m n => bres (Nat.ble n m) (bres (Nat.blt (Nat.sub m n) C) (forceNR (Nat.sub m n) (outN k K h)) D) D
noncomputable def wMul (k : IntKind) (C : Nat) : WT := fun K h D m n => bres (Nat.blt (Nat.mul m n) C) (forceNR (Nat.mul m n) (outN k K h)) D
noncomputable def wQuo (k : IntKind) (C : Nat) : WT := fun K h D m n => bres (Nat.beq n 0) .bad (bres (Nat.blt (Nat.div m n) C) (forceNR (Nat.div m n) (outN k K h)) D)
noncomputable def wRem (k : IntKind) : WT := fun K h _ m n => bres (Nat.beq n 0) .bad (forceNR (Nat.mod m n) (outN k K h))
noncomputable def wAnd (k : IntKind) (C : Nat) : WT := fun K h D m n => bres (Nat.blt m C) (bres (Nat.blt n C) (forceNR (Nat.land m n) (outN k K h)) D) D
noncomputable def wOr (k : IntKind) (C : Nat) : WT := fun K h D m n => bres (Nat.blt m C) (bres (Nat.blt n C) (forceNR (Nat.lor m n) (outN k K h)) D) D
noncomputable def wXor (k : IntKind) (C : Nat) : WT := fun K h D m n => bres (Nat.blt m C) (bres (Nat.blt n C) (forceNR (Nat.xor m n) (outN k K h)) D) D
noncomputable def wLss : WT := fun K h _ m n => boolR (Nat.blt m n) K h
noncomputable def wLeq : WT := fun K h _ m n => boolR (Nat.ble m n) K h
noncomputable def wGtr : WT := fun K h _ m n => boolR (Nat.blt n m) K h
noncomputable def wGeq : WT := fun K h _ m n => boolR (Nat.ble n m) K h
noncomputable def wEql : WT := fun K h _ m n => boolR (Nat.beq m n) K h
noncomputable def wNeq : WT := fun K h _ m n => boolN (Nat.beq m n) K h
noncomputable def wNone : WT := fun _ _ D _ _ => D
section
variable {k : IntKind} {C : Nat}
theorem fBinI_same {op : BinOp} (h : op ≠ .shl ∧ op ≠ .shr) (m n : Int) (hp : Tr AO) : fBinI op k m k n hp = binInt op k m n (vOut hp) := by
  cases op <;> first | (exact absurd rfl h.1) | (exact absurd rfl h.2) | (simp only [fBinI, fBinI1, ikBeq_self, fBinI2])
theorem wrapK_in {z : Nat} (h : Nat.blt z (half k) = true) (K : Int → Option OR) : wrapK k (.ofNat z) K = K (.ofNat z) := by
  simp only [wrapK, h, forceI, forceN_eq]
theorem wAdd_ok (hC : half k = C) : Wok k .add (wAdd k C) := fun K h D m n => by
  subst hC
  simp only [wAdd]
  cases hb : Nat.blt (Nat.add m n) (half k) with
  | false => exact .inl rfl
  | true =>
    refine .inr (good_out (v := .int k (.ofNat (Nat.add m n))) (h := h) ?_ (by rw [bres_t, forceNR_eq]; rfl))
    rw [fBinI_same ⟨by decide, by decide⟩]
    show wrapK k (.ofNat (Nat.add m n)) _ = _
    rw [wrapK_in hb]; rfl
theorem wMul_ok (hC : half k = C) : Wok k .mul (wMul k C) := fun K h D m n => by
  subst hC
  simp only [wMul]
  cases hb : Nat.blt (Nat.mul m n) (half k) with
  | false => exact .inl rfl
  | true =>
    refine .inr (good_out (v := .int k (.ofNat (Nat.mul m n))) (h := h) ?_ (by rw [bres_t, forceNR_eq]; rfl))
    rw [fBinI_same ⟨by decide, by decide⟩]
    show wrapK k (.ofNat (Nat.mul m n)) _ = _
    rw [wrapK_in hb]; rfl
theorem wSub_ok (hC : half k = C) : Wok k .sub (wSub k C) := fun K h D m n => by
  subst hC
  simp only [wSub]
  cases hle : Nat.ble n m with
  | false => exact .inl rfl
  | true =>
    cases hb : Nat.blt (Nat.sub m n) (half k) with
    | false => exact .inl rfl
    | true =>
      refine .inr (good_out (v := .int k (.ofNat (Nat.sub m n))) (h := h) ?_ (by rw [bres_t, bres_t, forceNR_eq]; rfl))
      rw [fBinI_same ⟨by decide, by decide⟩]
      have h0 := Nat.le_of_ble_eq_true hle
      have h2 : Int.sub (Int.ofNat m) (Int.ofNat n) = Int.ofNat (Nat.sub m n) := by
        show (m : Int) - (n : Int) = ((m - n : Nat) : Int)
        omega
      simp only [binInt, h2]
      rw [wrapK_in hb]; rfl
theorem wQuo_ok (hC : half k = C) : Wok k .quo (wQuo k C) := fun K h D m n => by
  subst hC
  simp only [wQuo]
  cases hz : Nat.beq n 0 with
  | true => exact .inr .bad
  | false =>
    cases hb : Nat.blt (Nat.div m n) (half k) with
    | false => exact .inl rfl
    | true =>
      refine .inr (good_out (v := .int k (.ofNat (Nat.div m n))) (h := h) ?_ (by rw [bres_f, bres_t, forceNR_eq]; rfl))
      rw [fBinI_same ⟨by decide, by decide⟩]
      have h1 : intBeq (Int.ofNat n) 0 = false := hz
      simp only [binInt, h1]
      show wrapK k (.ofNat (Nat.div m n)) _ = _
      rw [wrapK_in hb]; rfl
theorem wRem_ok : Wok k .rem (wRem k) := fun K h D m n => by
  simp only [wRem]
  cases hz : Nat.beq n 0 with
  | true => exact .inr .bad
  | false =>
    refine .inr (good_out (v := .int k (.ofNat (Nat.mod m n))) (h := h) ?_ (by rw [bres_f, forceNR_eq]; rfl))
    rw [fBinI_same ⟨by decide, by decide⟩]
    have h1 : intBeq (Int.ofNat n) 0 = false := hz
    simp only [binInt, h1]
    show forceI (.ofNat (Nat.mod m n)) _ = _
    simp only [forceI, forceN_eq]; rfl
theorem wAnd_ok (hC : half k = C) : Wok k .and (wAnd k C) := fun K h D m n => by
  subst hC
  simp only [wAnd]
  cases h1 : Nat.blt m (half k) with
  | false => exact .inl rfl
  | true =>
    cases h2 : Nat.blt n (half k) with
    | false => exact .inl rfl
    | true =>
      refine .inr (good_out (v := .int k (.ofNat (Nat.land m n))) (h := h) ?_ (by rw [bres_t, bres_t, forceNR_eq]; rfl))
      rw [fBinI_same ⟨by decide, by decide⟩]
      simp only [binInt, h1, h2, forceN_eq]; rfl
theorem wOr_ok (hC : half k = C) : Wok k .or (wOr k C) := fun K h D m n => by
  subst hC
  simp only [wOr]
  cases h1 : Nat.blt m (half k) with
  | false => exact .inl rfl
  | true =>
    cases h2 : Nat.blt n (half k) with
    | false => exact .inl rfl
    | true =>
      refine .inr (good_out (v := .int k (.ofNat (Nat.lor m n))) (h := h) ?_ (by rw [bres_t, bres_t, forceNR_eq]; rfl))
      rw [fBinI_same ⟨by decide, by decide⟩]
      simp only [binInt, h1, h2, forceN_eq]; rfl
theorem wXor_ok (hC : half k = C) : Wok k .xor (wXor k C) := fun K h D m n => by
  subst hC
  simp only [wXor]
  cases h1 : Nat.blt m (half k) with
  | false => exact .inl rfl
  | true =>
    cases h2 : Nat.blt n (half k) with
    | false => exact .inl rfl
    | true =>
      refine .inr (good_out (v := .int k (.ofNat (Nat.xor m n))) (h := h) ?_ (by rw [bres_t, bres_t, forceNR_eq]; rfl))
      rw [fBinI_same ⟨by decide, by decide⟩]
      simp only [binInt, h1, h2, forceN_eq]; rfl
theorem not_blt (m n : Nat) : (!Nat.blt m n) = Nat.ble n m := by
  by_cases h : m < n
  · have h1 : Nat.blt m n = true := by rw [Nat.blt_eq]; exact h
    have h2 : Nat.ble n m = false := by cases hb : Nat.ble n m with | false => rfl | true => have := Nat.le_of_ble_eq_true hb; omega
    rw [h1, h2]; rfl
  · have h1 : Nat.blt m n = false := by cases hb : Nat.blt m n with | false => rfl | true => rw [Nat.blt_eq] at hb; omega
    have h2 : Nat.ble n m = true := by rw [Nat.ble_eq]; omega
    rw [h1, h2]; rfl
theorem wCmp {op : BinOp} {W : WT} (hop : op ≠ .shl ∧ op ≠ .shr) (f : Nat → Nat → Bool) (hf : ∀ m n (L : AV → Option OR), binInt op k (.ofNat m) (.ofNat n) L = L (.bool (f m n))) (hW : ∀ K h D m n, W K h D m n = K (.bool (f m n)) h) : Wok k op W := fun K h D m n => by
  refine .inr (good_out (v := .bool (f m n)) (h := h) ?_ (hW K h D m n))
  rw [fBinI_same hop, hf]; rfl
theorem wLss_ok : Wok k .lss wLss := wCmp ⟨by decide, by decide⟩ Nat.blt (fun m n L => by simp only [binInt, ltI, boolK_eq]) fun K h D m n => boolR_eq _ _ _
theorem wLeq_ok : Wok k .leq wLeq := wCmp ⟨by decide, by decide⟩ Nat.ble (fun m n L => by simp only [binInt, ltI, boolK_eq, not_blt]) fun K h D m n => boolR_eq _ _ _
theorem wGtr_ok : Wok k .gtr wGtr := wCmp ⟨by decide, by decide⟩ (fun m n => Nat.blt n m) (fun m n L => by simp only [binInt, ltI, boolK_eq]) fun K h D m n => boolR_eq _ _ _
theorem wGeq_ok : Wok k .geq wGeq := wCmp ⟨by decide, by decide⟩ (fun m n => Nat.ble n m) (fun m n L => by simp only [binInt, ltI, boolK_eq, not_blt]) fun K h D m n => boolR_eq _ _ _
theorem wEql_ok : Wok k .eql wEql := wCmp ⟨by decide, by decide⟩ Nat.beq (fun m n L => by simp only [binInt, intBeq, boolK_eq]) fun K h D m n => boolR_eq _ _ _
theorem wNeq_ok : Wok k .neq wNeq := wCmp ⟨by decide, by decide⟩ (fun m n => !Nat.beq m n) (fun m n L => by simp only [binInt, intBeq, boolK_eq]) fun K h D m n => boolN_eq _ _ _
theorem wNone_ok {op : BinOp} : Wok k op wNone := fun K h D m n => .inl rfl
end
/-- The quick form of an operation on numbers of a kind. -/
noncomputable def wOf (k : IntKind) (op : BinOp) : WT :=
  match op with
  | .add => wAdd k (half k)
  | .sub => wSub k (half k)
  | .mul => wMul k (half k)
  | .quo => wQuo k (half k)
  | .rem => wRem k
  | .and => wAnd k (half k)
  | .or => wOr k (half k)
  | .xor => wXor k (half k)
  | .lss => wLss
  | .leq => wLeq
  | .gtr => wGtr
  | .geq => wGeq
  | .eql => wEql
  | .neq => wNeq
  | _ => wNone
theorem wOf_ok (k : IntKind) (op : BinOp) : Wok k op (wOf k op) := by
  cases op <;> first | exact wAdd_ok rfl | exact wSub_ok rfl | exact wMul_ok rfl | exact wQuo_ok rfl | exact wRem_ok | exact wAnd_ok rfl | exact wOr_ok rfl | exact wXor_ok rfl | exact wLss_ok | exact wLeq_ok | exact wGtr_ok | exact wGeq_ok | exact wEql_ok | exact wNeq_ok | exact wNone_ok

/-! ### texts -/
noncomputable def strOut (K : VK) (h : Tr AO) (l : List UInt8) : Res := K (.str l) h
abbrev SWT := VK → Tr AO → List UInt8 → List UInt8 → Res
noncomputable def xEq : SWT := fun K h l m => boolR (strEqF l m) K h
noncomputable def xNe : SWT := fun K h l m => boolN (strEqF l m) K h
noncomputable def xCat : SWT := fun K h l m => bres (Nat.ble (Nat.add (lenF l) (lenF m)) 9223372036854775807) (apK l m (strOut K h)) .bad
noncomputable def xSlow (op : BinOp) : SWT := fun K h l m => gOld (binStr op l m (vOut h)) K
noncomputable def s2a (W : SWT) (b : AV) (h : Tr AO) (K : VK) (l : List UInt8) : Res := avStr b (W K h l) .bad
noncomputable def vS (W : SWT) (g1 g2 : GT) : FK := fun e h _ K => avStr (g1 e) (s2a W (g2 e) h K) .bad
def SWok (op : BinOp) (W : SWT) : Prop := ∀ K h l m, Good (W K h l m) K (binStr op l m (vOut h))
theorem vS_ok {T : TT} {m : Nat} {W : SWT} {op : BinOp} {ty yt : Nat} {x y : Operand} {g1 g2 : GT} (hW : SWok op W) (h1 : GSim m g1 x) (h2 : GSim m g2 y) : FSim T m (vS W g1 g2) (.binOp op ty x y yt) := fun e t h r K hr => by
  rw [← fop_eq]; simp only [fop, fBin, fOpd_eq, h1 e t hr, h2 e t hr, withO_some, vS]
  rcases avStr_ok (g1 e) (s2a W (g2 e) h K) .bad with e1 | ⟨l, e0, e1⟩
  · rw [e1]; exact .bad
  · rw [e1]
    unfold s2a
    rcases avStr_ok (g2 e) (W K h l) .bad with e2 | ⟨p, e3, e2⟩
    · rw [e2]; exact .bad
    · rw [e2, e0, e3]; exact hW K h l p
theorem xEq_ok : SWok .eql xEq := fun K h l m => good_out (v := .bool (strBeq l m)) (h := h) (by simp only [binStr, boolK_eq, vOut]) (by simp only [xEq, boolR_eq, strEqF_eq])
theorem xNe_ok : SWok .neq xNe := fun K h l m => good_out (v := .bool (!strBeq l m)) (h := h) (by simp only [binStr, boolK_eq, vOut]) (by simp only [xNe, boolN_eq, strEqF_eq])
theorem xCat_ok : SWok .add xCat := fun K h l m => by
  simp only [xCat, lenF_eq, apK_eq, binStr]
  cases Nat.ble (Nat.add l.length m.length) 9223372036854775807 with
  | false => exact .bad
  | true => exact good_out (v := .str (l ++ m)) (h := h) (by simp only [appK_eq, vOut]) rfl
theorem xSlow_ok {op : BinOp} : SWok op (xSlow op) := fun K h l m => gOld_ok _ _
noncomputable def swOf (op : BinOp) : SWT :=
  match op with
  | .eql => xEq
  | .neq => xNe
  | .add => xCat
  | op => xSlow op
theorem swOf_ok (op : BinOp) : SWok op (swOf op) := by cases op <;> first | exact xEq_ok | exact xNe_ok | exact xCat_ok | exact xSlow_ok
noncomputable def vBinS (T : TT) (op : BinOp) (ty : Nat) (x y : Operand) (g1 g2 : GT) : FK := fun e h _ K => gOld (fBinB op T ty x y (g1 e) h (g2 e)) K
theorem vBinS_ok {T : TT} {m : Nat} {op : BinOp} {ty yt : Nat} {x y : Operand} {g1 g2 : GT} (h1 : GSim m g1 x) (h2 : GSim m g2 y) : FSim T m (vBinS T op ty x y g1 g2) (.binOp op ty x y yt) := fun e t h r K hr => by
  rw [← fop_eq]; simp only [fop, fBin, fOpd_eq, h1 e t hr, h2 e t hr, withO_some, vBinS]; exact gOld_ok _ _

/-! ### values moved, taken, tested -/
noncomputable def vMove (g : GT) : FK := fun e h _ K => K (g e) h
theorem vMove_ok {T : TT} {m : Nat} {x : Operand} {g : GT} (h1 : GSim m g x) : FSim T m (vMove g) (.move x) := fun e t h r K hr => good_out (v := g e) (h := h) (by simp only [xop, h1 e t hr]) rfl
theorem vAssign_ok {T : TT} {m : Nat} {x : Operand} {g : GT} (h1 : GSim m g x) : FSim T m (vMove g) (.assign x) := fun e t h r K hr => good_out (v := g e) (h := h) (by simp only [xop, h1 e t hr]) rfl
noncomputable def ex1 (i : Nat) (K : VK) (h : Tr AO) (l : List AV) : Res := getK l i (outV K h)
noncomputable def vEx (i : Nat) (g : GT) : FK := fun e h _ K => avTup (g e) (ex1 i K h) .bad
theorem vEx_ok {T : TT} {m i : Nat} {x : Operand} {g : GT} (h1 : GSim m g x) : FSim T m (vEx i g) (.extract x i) := fun e t h r K hr => by
  simp only [xop, h1 e t hr, vEx]
  rcases avTup_ok (g e) (ex1 i K h) .bad with e1 | ⟨l, e0, e1⟩
  · rw [e1]; exact .bad
  · rw [e1, e0]
    unfold ex1
    rcases getK_ok l i (outV K h) with e2 | ⟨v, e3, e2⟩
    · rw [e2]; exact .bad
    · rw [e2]; exact good_out (v := v) (h := h) (by simp only [e3]) rfl
noncomputable def vNot (g : GT) : FK := fun e h _ K => avBool (g e) (fun b => boolN b K h) .bad
theorem vNot_ok {T : TT} {m ty : Nat} {x : Operand} {g : GT} (h1 : GSim m g x) : FSim T m (vNot g) (.unOp .not ty x) := fun e t h r K hr => by
  simp only [xop, h1 e t hr, vNot]
  rcases avBool_ok (g e) (fun b => boolN b K h) .bad with e1 | ⟨b, e0, e1⟩
  · rw [e1]; exact .bad
  · rw [e1, e0]; exact good_out (v := .bool (!b)) (h := h) (by simp only [xun, boolK_eq]) (boolN_eq _ _ _)
noncomputable def vUnS (op : UnOp) (g : GT) : FK := fun e h _ K => gOld (xun op (g e) h) K
theorem vUnS_ok {T : TT} {m ty : Nat} {op : UnOp} {x : Operand} {g : GT} (h1 : GSim m g x) : FSim T m (vUnS op g) (.unOp op ty x) := fun e t h r K hr => by
  simp only [xop, h1 e t hr, vUnS]; exact gOld_ok _ _
noncomputable def fa2 (K : VK) (h : Tr AO) (i o : Nat) : Res := K (.ptr i o) h
noncomputable def vNil (g : GT) : FK := fun e h _ K => avPtr (g e) (fa2 K h) (gOld (fNC h (g e)) K)
theorem vNil_ok {T : TT} {m : Nat} {x : Operand} {g : GT} (h1 : GSim m g x) : FSim T m (vNil g) (.nilCheck x) := fun e t h r K hr => by
  rw [← fop_eq]; simp only [fop, fNil, fOpd_eq, h1 e t hr, withO_some, vNil]
  rcases avPtr_ok (g e) (fa2 K h) (gOld (fNC h (g e)) K) with e1 | ⟨i, o, e0, e1⟩
  · rw [e1]; exact gOld_ok _ _
  · rw [e1, e0]; exact good_out (v := .ptr i o) (h := h) rfl rfl
noncomputable def pk1 (K : VK) (h : Tr AO) (a b : AV) (c : Bool) : Res := bres c (K a h) (K b h)
noncomputable def vPick (g g1 g2 : GT) : FK := fun e h _ K => avBool (g e) (pk1 K h (g1 e) (g2 e)) .bad
theorem vPick_ok {T : TT} {m : Nat} {c x y : Operand} {g g1 g2 : GT} (h1 : GSim m g c) (h2 : GSim m g1 x) (h3 : GSim m g2 y) : FSim T m (vPick g g1 g2) (.pick c x y) := fun e t h r K hr => by
  simp only [xop, h1 e t hr, h2 e t hr, h3 e t hr, vPick]
  rcases avBool_ok (g e) (pk1 K h (g1 e) (g2 e)) .bad with e1 | ⟨b, e0, e1⟩
  · rw [e1]; exact .bad
  · rw [e1, e0]
    cases b
    · exact good_out (v := g2 e) (h := h) rfl rfl
    · exact good_out (v := g1 e) (h := h) rfl rfl

/-! ### the store -/
noncomputable def ldC (K : VK) (h : Tr AO) (off : Nat) (cs : List AV) (_ : Bool) : Res := getK cs off (outV K h)
noncomputable def ldO (K : VK) (h : Tr AO) (off : Nat) (o : AO) : Res := aoCells o (ldC K h off)
noncomputable def ldP (K : VK) (h : Tr AO) (i off : Nat) : Res := trG h i (ldO K h off)
noncomputable def vLd (g : GT) : FK := fun e h _ K => avPtr (g e) (ldP K h) .bad
noncomputable def outA (K : VK) (h : Tr AO) (l : List AV) : Res := K (.agg l) h
noncomputable def lsC (K : VK) (h : Tr AO) (size off : Nat) (cs : List AV) (_ : Bool) : Res := segK cs off size (outA K h)
noncomputable def lsO (K : VK) (h : Tr AO) (size off : Nat) (o : AO) : Res := aoCells o (lsC K h size off)
noncomputable def lsP (K : VK) (h : Tr AO) (size i off : Nat) : Res := trG h i (lsO K h size off)
noncomputable def vLdS (size : Nat) (g : GT) : FK := fun e h _ K => avPtr (g e) (lsP K h size) .bad
def isRow (k : TK) : Bool :=
  match k with
  | .st _ => true
  | .arr _ _ => true
  | _ => false
theorem vLd_ok {T : TT} {m ty : Nat} {x : Operand} {g : GT} {D : TI} (hT : T ty = some D) (hk : isRow D.k = false) (h1 : GSim m g x) : FSim T m (vLd g) (.load ty x) := fun e t h r K hr => by
  rw [← fop_eq]; simp only [fop, fLoad, fOpd_eq, h1 e t hr, withO_some, vLd]
  rcases avPtr_ok (g e) (ldP K h) .bad with e1 | ⟨i, o, e0, e1⟩
  · rw [e1]; exact .bad
  · rw [e1, e0]
    unfold ldP
    rcases trG_ok h i (ldO K h o) with e2 | ⟨q, e3, e2⟩
    · rw [e2]; exact .bad
    · rw [e2]
      unfold ldO
      rcases aoCells_ok q (ldC K h o) with e4 | ⟨cs, p, e5, e4⟩
      · rw [e4]; exact .bad
      · rw [e4]
        unfold ldC
        rcases getK_ok cs o (outV K h) with e6 | ⟨v, e7, e6⟩
        · rw [e6]; exact .bad
        · rw [e6]
          refine good_out (v := v) (h := h) ?_ rfl
          simp only [fXload, fTr_eq, e3, e5, fLdO, fLd, hT, fGet_eq]
          obtain ⟨k, s, b, z, q⟩ := D
          cases k <;> first | (show withO (getN cs o) (vOut h) = _; rw [e7]; rfl) | cases hk
theorem vLdS_ok {T : TT} {m ty size : Nat} {x : Operand} {g : GT} {D : TI} (hT : T ty = some D) (hk : isRow D.k = true) (hs : D.size = size) (h1 : GSim m g x) : FSim T m (vLdS size g) (.load ty x) := fun e t h r K hr => by
  subst hs
  rw [← fop_eq]; simp only [fop, fLoad, fOpd_eq, h1 e t hr, withO_some, vLdS]
  rcases avPtr_ok (g e) (lsP K h D.size) .bad with e1 | ⟨i, o, e0, e1⟩
  · rw [e1]; exact .bad
  · rw [e1, e0]
    unfold lsP
    rcases trG_ok h i (lsO K h D.size o) with e2 | ⟨q, e3, e2⟩
    · rw [e2]; exact .bad
    · rw [e2]
      unfold lsO
      rcases aoCells_ok q (lsC K h D.size o) with e4 | ⟨cs, p, e5, e4⟩
      · rw [e4]; exact .bad
      · rw [e4]
        unfold lsC
        rcases segK_ok cs o D.size (outA K h) with e6 | ⟨v, e7, e6⟩
        · rw [e6]; exact .bad
        · rw [e6]
          refine good_out (v := .agg v) (h := h) ?_ rfl
          simp only [fXload, fTr_eq, e3, e5, fLdO, fLd, hT]
          obtain ⟨k, s, b, z, q⟩ := D
          simp only at e7
          cases k <;> first | (simp only [e7, withO_some, vOut]; done) | cases hk
noncomputable def stF (K : VK) (h : Tr AO) (i : Nat) (op : Bool) (cs : List AV) : Res := trS deep h i (some (.cells cs op)) (outU K)
noncomputable def stC (vs : List AV) (K : VK) (h : Tr AO) (i off : Nat) (cs : List AV) (op : Bool) : Res := ovK cs off vs (stF K h i op)
noncomputable def stO (vs : List AV) (K : VK) (h : Tr AO) (i off : Nat) (o : AO) : Res := aoCells o (stC vs K h i off)
noncomputable def stP (vs : List AV) (K : VK) (h : Tr AO) (i off : Nat) : Res := trG h i (stO vs K h i off)
noncomputable def vSt1 (g g2 : GT) : FK := fun e h _ K => avOne (g2 e) (avPtr (g e) (stP [g2 e] K h) .bad) .bad
noncomputable def stA (a : AV) (size : Nat) (h : Tr AO) (K : VK) (l : List AV) : Res := bres (Nat.beq (lenF l) size) (bres (allOneF l) (avPtr a (stP l K h) .bad) .bad) .bad
noncomputable def vStS (size : Nat) (g g2 : GT) : FK := fun e h _ K => avAgg (g2 e) (stA (g e) size h K) .bad
theorem stP_ok {T : TT} {ty : Nat} {D : TI} (hT : T ty = some D) {a v : AV} {vs : List AV} (hc : cellsOf v = vs) (hl : Nat.beq vs.length D.size = true) (ho : allOne vs = true) (K : VK) (h : Tr AO) : Good (avPtr a (stP vs K h) .bad) K (fXstore T ty h a v) := by
  rcases avPtr_ok a (stP vs K h) .bad with e1 | ⟨i, o, e0, e1⟩
  · rw [e1]; exact .bad
  · rw [e1, e0]
    unfold stP
    rcases trG_ok h i (stO vs K h i o) with e2 | ⟨q, e3, e2⟩
    · rw [e2]; exact .bad
    · rw [e2]
      unfold stO
      rcases aoCells_ok q (stC vs K h i o) with e4 | ⟨cs, p, e5, e4⟩
      · rw [e4]; exact .bad
      · rw [e4]
        unfold stC
        rcases ovK_ok cs o vs (stF K h i p) with e6 | ⟨w, e7, e6⟩
        · rw [e6]; exact .bad
        · rw [e6]
          unfold stF
          rcases trS_ok (β := OR) deep h i (some (.cells w p)) (outU K) with e8 | ⟨h', e9, e8⟩
          · rw [e8]; exact .bad
          · rw [e8]
            refine good_out (v := .tup []) (h := h') ?_ rfl
            simp only [fXstore, fTr_eq, e3, e5, fStO, fSt2, hT, hc, hl, ho, e7, fSetTr_eq, e9]
theorem vSt1_ok {T : TT} {m ty : Nat} {x y : Operand} {g g2 : GT} {D : TI} (hT : T ty = some D) (hs : Nat.beq D.size 1 = true) (h1 : GSim m g x) (h2 : GSim m g2 y) : FSim T m (vSt1 g g2) (.store ty x y) := fun e t h r K hr => by
  rw [← fop_eq]; simp only [fop, fStore, fOpd_eq, h1 e t hr, h2 e t hr, withO_some, vSt1]
  rcases avOne_ok (g2 e) (avPtr (g e) (stP [g2 e] K h) .bad) .bad with e1 | ⟨ho, hc, e1⟩
  · rw [e1]; exact .bad
  · rw [e1]
    refine stP_ok hT hc ?_ (by simp only [allOne, ho]) K h
    rw [Nat.eq_of_beq_eq_true hs]; rfl
theorem vStS_ok {T : TT} {m ty size : Nat} {x y : Operand} {g g2 : GT} {D : TI} (hT : T ty = some D) (hs : D.size = size) (h1 : GSim m g x) (h2 : GSim m g2 y) : FSim T m (vStS size g g2) (.store ty x y) := fun e t h r K hr => by
  subst hs
  rw [← fop_eq]; simp only [fop, fStore, fOpd_eq, h1 e t hr, h2 e t hr, withO_some, vStS]
  rcases avAgg_ok (g2 e) (stA (g e) D.size h K) .bad with e1 | ⟨l, e0, e1⟩
  · rw [e1]; exact .bad
  · rw [e1]
    unfold stA
    rw [lenF_eq, allOneF_eq]
    cases hl : Nat.beq l.length D.size with
    | false => exact .bad
    | true =>
      cases ho : allOne l with
      | false => exact .bad
      | true => rw [bres_t, bres_t, e0]; exact stP_ok (v := .agg l) hT rfl hl ho K h
noncomputable def fa1 (fo : Nat) (K : VK) (h : Tr AO) (i o : Nat) : Res := forceNR (Nat.add o fo) (fa2 K h i)
noncomputable def vFA (fo : Nat) (g : GT) : FK := fun e h _ K => avPtr (g e) (fa1 fo K h) .bad
theorem vFA_ok {T : TT} {m ty f fo ft : Nat} {x : Operand} {g : GT} {D F : TI} {fs : List (Nat × Nat)} (hT : T ty = some D) (hk : D.k = .st fs) (hf : fieldOf fs f = some (fo, ft)) (hF : T ft = some F) (hs : Nat.beq F.size 0 = false) (h1 : GSim m g x) :
    FSim T m (vFA fo g) (.fieldAddr ty x f) := fun e t h r K hr => by
  rw [← fop_eq]; simp only [fop, fFieldA, fOpd_eq, h1 e t hr, withO_some, vFA]
  rcases avPtr_ok (g e) (fa1 fo K h) .bad with e1 | ⟨i, o, e0, e1⟩
  · rw [e1]; exact .bad
  · rw [e1, e0]
    refine good_out (v := .ptr i (Nat.add o fo)) (h := h) ?_ (by rw [fa1, forceNR_eq]; rfl)
    simp only [fFA, hT, hk, fFA1, hf, fFA2, hF, hs, forceN_eq]
noncomputable def ia2 (esz : Nat) (K : VK) (h : Tr AO) (n b off _base len es : Nat) : Res := bres (Nat.beq esz es) (bres (Nat.blt n len) (forceNR (Nat.add off (Nat.mul n es)) (fa2 K h b)) .bad) .bad
noncomputable def ia1 (esz : Nat) (a : AV) (K : VK) (h : Tr AO) (n : Nat) : Res := avSlc a (ia2 esz K h n) .bad
noncomputable def vIAS (esz : Nat) (g1 g2 : GT) : FK := fun e h _ K => on_any (g2 e) (ia1 esz (g1 e) K h) .bad
theorem vIAS_ok {T : TT} {m ty el : Nat} {x y : Operand} {g1 g2 : GT} {D F : TI} (hT : T ty = some D) (hk : D.k = .slice el) (hF : T el = some F) {esz : Nat} (hs : F.size = esz) (h0 : Nat.ble 1 esz = true) (h1 : GSim m g1 x) (h2 : GSim m g2 y) :
    FSim T m (vIAS esz g1 g2) (.indexAddr ty x y) := fun e t h r K hr => by
  subst hs
  rw [← fop_eq]; simp only [fop, fIdxA, fOpd_eq, h1 e t hr, h2 e t hr, withO_some, vIAS]
  rcases on_any_ok (g2 e) (ia1 F.size (g1 e) K h) .bad with e1 | ⟨k, n, e0, e1⟩
  · rw [e1]; exact .bad
  · rw [e1]
    unfold ia1
    rcases avSlc_ok (g1 e) (ia2 F.size K h n) .bad with e2 | ⟨b, off, base, len, es, e3, e2⟩
    · rw [e2]; exact .bad
    · rw [e2]
      unfold ia2
      cases hb : Nat.beq F.size es with
      | false => exact .bad
      | true =>
        cases hn : Nat.blt n len with
        | false => exact .bad
        | true =>
          rw [bres_t, bres_t, forceNR_eq]
          refine good_out (v := .ptr b (Nat.add off (Nat.mul n es))) (h := h) ?_ rfl
          obtain ⟨k, s, b', z, q⟩ := D
          simp only at hk
          subst hk
          rw [e0, e3]
          have h3 : Nat.ble 1 es = true := by rw [← Nat.eq_of_beq_eq_true hb]; exact h0
          simp only [xindexAddr, hT, hF, hb, h3, hn, forceN_eq, withO_some, vOut]
noncomputable def iaa2 (esz : Nat) (K : VK) (h : Tr AO) (n b off : Nat) : Res := forceNR (Nat.add off (Nat.mul n esz)) (fa2 K h b)
noncomputable def iaa1 (len esz : Nat) (a : AV) (K : VK) (h : Tr AO) (n : Nat) : Res := bres (Nat.blt n len) (avPtr a (iaa2 esz K h n) .bad) .bad
noncomputable def vIAA (len esz : Nat) (g1 g2 : GT) : FK := fun e h _ K => on_any (g2 e) (iaa1 len esz (g1 e) K h) .bad
theorem vIAA_ok {T : TT} {m ty el len : Nat} {x y : Operand} {g1 g2 : GT} {D F : TI} (hT : T ty = some D) (hk : D.k = .arr len el) (hF : T el = some F) {esz : Nat} (hs : F.size = esz) (h1 : GSim m g1 x) (h2 : GSim m g2 y) :
    FSim T m (vIAA len esz g1 g2) (.indexAddr ty x y) := fun e t h r K hr => by
  subst hs
  rw [← fop_eq]; simp only [fop, fIdxA, fOpd_eq, h1 e t hr, h2 e t hr, withO_some, vIAA]
  rcases on_any_ok (g2 e) (iaa1 len F.size (g1 e) K h) .bad with e1 | ⟨k, n, e0, e1⟩
  · rw [e1]; exact .bad
  · rw [e1]
    unfold iaa1
    cases hn : Nat.blt n len with
    | false => exact .bad
    | true =>
      rw [bres_t]
      rcases avPtr_ok (g1 e) (iaa2 F.size K h n) .bad with e2 | ⟨b, off, e3, e2⟩
      · rw [e2]; exact .bad
      · rw [e2]
        unfold iaa2
        rw [forceNR_eq]
        refine good_out (v := .ptr b (Nat.add off (Nat.mul n F.size))) (h := h) ?_ rfl
        obtain ⟨k, s, b', z, q⟩ := D
        simp only at hk
        subst hk
        rw [e0, e3]
        simp only [xindexAddr, hT, hF, hn, forceN_eq, withO_some, vOut]
noncomputable def ixB (K : VK) (h : Tr AO) (b : UInt8) : Res := forceNR b.toNat (outN .u8 K h)
noncomputable def ix2 (K : VK) (h : Tr AO) (n : Nat) (l : List UInt8) : Res := getBK l n (ixB K h)
noncomputable def ix1 (a : AV) (K : VK) (h : Tr AO) (n : Nat) : Res := avStr a (ix2 K h n) .bad
noncomputable def vIxS (g1 g2 : GT) : FK := fun e h _ K => on_any (g2 e) (ix1 (g1 e) K h) .bad
theorem vIxS_ok {T : TT} {m ty : Nat} {x y : Operand} {g1 g2 : GT} {D : TI} (hT : T ty = some D) (hk : D.k = .str) (h1 : GSim m g1 x) (h2 : GSim m g2 y) : FSim T m (vIxS g1 g2) (.index ty x y) := fun e t h r K hr => by
  rw [← fop_eq]; simp only [fop, fIdx, fOpd_eq, h1 e t hr, h2 e t hr, withO_some, vIxS]
  rcases on_any_ok (g2 e) (ix1 (g1 e) K h) .bad with e1 | ⟨k, n, e0, e1⟩
  · rw [e1]; exact .bad
  · rw [e1]
    unfold ix1
    rcases avStr_ok (g1 e) (ix2 K h n) .bad with e2 | ⟨l, e3, e2⟩
    · rw [e2]; exact .bad
    · rw [e2]
      unfold ix2
      rcases getBK_ok l n (ixB K h) with e4 | ⟨b, e5, e4⟩
      · rw [e4]; exact .bad
      · rw [e4]
        unfold ixB
        rw [forceNR_eq]
        refine good_out (v := .int .u8 (.ofNat b.toNat)) (h := h) ?_ rfl
        obtain ⟨k, s, b', z, q⟩ := D
        simp only at hk
        subst hk
        rw [e0, e3]
        simp only [xindex, hT, e5, forceN_eq, withO_some, vOut]
noncomputable def vIx (T : TT) (ty : Nat) (g1 g2 : GT) : FK := fun e h _ K => gOld (withO (xindex T ty (g1 e) (g2 e)) (vOut h)) K
theorem vIx_ok {T : TT} {m ty : Nat} {x y : Operand} {g1 g2 : GT} (h1 : GSim m g1 x) (h2 : GSim m g2 y) : FSim T m (vIx T ty g1 g2) (.index ty x y) := fun e t h r K hr => by
  rw [← fop_eq]; simp only [fop, fIdx, fOpd_eq, h1 e t hr, h2 e t hr, withO_some, vIx]; exact gOld_ok _ _
/-! lengths -/
noncomputable def len1 (K : VK) (h : Tr AO) (l : List UInt8) : Res := forceNR (lenF l) (outN .i64 K h)
noncomputable def vLenS (g : GT) : FK := fun e h _ K => avStr (g e) (len1 K h) .bad
noncomputable def len2 (K : VK) (h : Tr AO) (_i _off _base n _esz : Nat) : Res := outN .i64 K h n
noncomputable def vLenL (T : TT) (ty : Nat) (g : GT) : FK := fun e h _ K => avSlc (g e) (len2 K h) (gOld (withO (xlen T ty (g e) h) (vOut h)) K)
noncomputable def vLen (T : TT) (ty : Nat) (g : GT) : FK := fun e h _ K => gOld (withO (xlen T ty (g e) h) (vOut h)) K
theorem xlen_op {T : TT} {t : List AV} {h : Tr AO} {r : Nat} {c : Call} {x : Operand} {ty : Nat} {a : AV} (hc : c.callee = .builtin .len) (ha : c.args.toList = [x]) (ht : c.argTypes.toList = [ty]) (h1 : opd t x = some a) :
    xop T (.call c) t h r = withO (xlen T ty a h) (vOut h) := by
  simp only [xop, xcall, ha, opds, h1, hc, ht]
  cases xlen T ty a h <;> rfl
section
variable {T : TT} {m : Nat} {c : Call} {x : Operand} {ty : Nat} {g : GT} (hc : c.callee = .builtin .len) (ha : c.args.toList = [x]) (ht : c.argTypes.toList = [ty]) (h1 : GSim m g x)
include hc ha ht h1
theorem vLen_ok : FSim T m (vLen T ty g) (.call c) := fun e t h r K hr => by
  rw [xlen_op hc ha ht (h1 e t hr)]; exact gOld_ok _ _
theorem vLenS_ok {D : TI} (hT : T ty = some D) (hk : D.k = .str) : FSim T m (vLenS g) (.call c) := fun e t h r K hr => by
  rw [xlen_op hc ha ht (h1 e t hr)]
  unfold vLenS
  rcases avStr_ok (g e) (len1 K h) .bad with e1 | ⟨l, e0, e1⟩
  · rw [e1]; exact .bad
  · rw [e1, e0]
    unfold len1
    rw [forceNR_eq, lenF_eq]
    refine good_out (v := .int .i64 (.ofNat l.length)) (h := h) ?_ rfl
    simp only [xlen, hT, hk, forceN_eq, withO_some, vOut]
theorem vLenL_ok {D : TI} {el : Nat} (hT : T ty = some D) (hk : D.k = .slice el) : FSim T m (vLenL T ty g) (.call c) := fun e t h r K hr => by
  rw [xlen_op hc ha ht (h1 e t hr)]
  unfold vLenL
  rcases avSlc_ok (g e) (len2 K h) (gOld (withO (xlen T ty (g e) h) (vOut h)) K) with e1 | ⟨i, off, base, n, esz, e0, e1⟩
  · rw [e1]; exact gOld_ok _ _
  · rw [e1, e0]
    refine good_out (v := .int .i64 (.ofNat n)) (h := h) ?_ rfl
    simp only [xlen, hT, hk, withO_some, vOut]
end
end Go.Ae
