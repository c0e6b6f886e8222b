/- Slices, new blocks, literals, append and the other operations in closed pieces; and that what they make is what the evaluator answers. No condition. -/
import Derived.Test.YtboklojgbhkhfaaGreatAeQOp
set_option linter.unusedVariables false
namespace Go.Ae
/-! ### slice expressions -/
def loOf (t : List AV) (lo : Option Operand) : Option Nat :=
  match lo with
  | none => some 0
  | some x => match opd t x with
    | some (.int _ (.ofNat n)) => some n
    | _ => none
def LoSim (m : Nat) (g : GT) (lo : Option Operand) : Prop := ∀ e t, Rp m e t → ∀ k p, g e = .int k (.ofNat p) → loOf t lo = some p
noncomputable def gZ : GT := fun _ => .int .i64 (.ofNat 0)
theorem lo_none {m : Nat} : LoSim m gZ none := fun e t _ k p h => by
  have : AV.int .i64 (.ofNat 0) = .int k (.ofNat p) := h
  injection this with h1 h2
  injection h2 with h3
  rw [← h3]; rfl
theorem lo_some {m : Nat} {g : GT} {x : Operand} (h1 : GSim m g x) : LoSim m g (some x) := fun e t hr k p h => by
  simp only [loOf, h1 e t hr, h]
theorem loOf_some {t : List AV} {x : Operand} {p : Nat} (h : loOf t (some x) = some p) : ∃ k, opd t x = some (.int k (.ofNat p)) := by
  simp only [loOf] at h
  split at h
  · rename_i k n hx; cases some_inj h; exact ⟨_, hx⟩
  · cases h
theorem bounds_none {t : List AV} {len : Nat} {lo : Option Operand} {p : Nat} (h : loOf t lo = some p) : bounds t len lo none = match Nat.ble p len with
    | true => some (p, len)
    | false => none := by
  cases lo with
  | none => cases some_inj h; rfl
  | some x =>
    obtain ⟨k, hx⟩ := loOf_some h
    simp only [bounds, hx]; rfl
theorem bounds_some {t : List AV} {len : Nat} {lo : Option Operand} {y : Operand} {p q : Nat} (h : loOf t lo = some p) (hq : loOf t (some y) = some q) : bounds t len lo (some y) = match Nat.ble p q with
    | true => some (p, q)
    | false => none := by
  obtain ⟨j, hy⟩ := loOf_some hq
  cases lo with
  | none => cases some_inj h; simp only [bounds, hy]; rfl
  | some x =>
    obtain ⟨k, hx⟩ := loOf_some h
    simp only [bounds, hx, hy]; rfl
noncomputable def ss1b (l : List UInt8) (K : VK) (h : Tr AO) (p : Nat) : Res := bres (Nat.ble p (lenF l)) (dpK l p (strOut K h)) .bad
noncomputable def ss1 (lo : AV) (K : VK) (h : Tr AO) (l : List UInt8) : Res := on_any lo (ss1b l K h) .bad
noncomputable def vSlS1 (g glo : GT) : FK := fun e h _ K => avStr (g e) (ss1 (glo e) K h) .bad
noncomputable def ss2d (K : VK) (h : Tr AO) (n : Nat) (l : List UInt8) : Res := tbK l n (strOut K h)
noncomputable def ss2c (l : List UInt8) (K : VK) (h : Tr AO) (p q : Nat) : Res := bres (Nat.ble p q) (bres (Nat.ble q (lenF l)) (dpK l p (ss2d K h (Nat.sub q p))) .bad) .bad
noncomputable def ss2b (hi : AV) (l : List UInt8) (K : VK) (h : Tr AO) (p : Nat) : Res := on_any hi (ss2c l K h p) .bad
noncomputable def ss2 (lo hi : AV) (K : VK) (h : Tr AO) (l : List UInt8) : Res := on_any lo (ss2b hi l K h) .bad
noncomputable def vSlS2 (g glo ghi : GT) : FK := fun e h _ K => avStr (g e) (ss2 (glo e) (ghi e) K h) .bad
section
variable {T : TT} {m ty : Nat} {x : Operand} {lo : Option Operand} {g glo ghi : GT} {D : TI}
theorem vSlS1_ok (hT : T ty = some D) (hk : D.k = .str) (h1 : GSim m g x) (h2 : LoSim m glo lo) : FSim T m (vSlS1 g glo) (.slice ty x lo none none) := fun e t h r K hr => by
  simp only [xop, h1 e t hr, vSlS1]
  rcases avStr_ok (g e) (ss1 (glo e) K h) .bad with e1 | ⟨l, e0, e1⟩
  · rw [e1]; exact .bad
  · rw [e1]
    unfold ss1
    rcases on_any_ok (glo e) (ss1b l K h) .bad with e2 | ⟨k, p, e3, e2⟩
    · rw [e2]; exact .bad
    · rw [e2]
      unfold ss1b
      rw [lenF_eq, dpK_eq]
      cases hb : Nat.ble p l.length with
      | false => exact .bad
      | true =>
        refine good_out (v := .str (l.drop p)) (h := h) ?_ rfl
        have hll : Nat.ble l.length l.length = true := by rw [Nat.ble_eq]; exact Nat.le_refl _
        simp only [xslice, hT, hk, e0, bounds_none (h2 e t hr k p e3), hb, hll, dropK_eq, takeK_eq]
        congr 4
        exact List.take_of_length_le (by rw [List.length_drop]; exact Nat.le_refl _)
theorem vSlS2_ok {y : Operand} (hT : T ty = some D) (hk : D.k = .str) (h1 : GSim m g x) (h2 : LoSim m glo lo) (h3 : GSim m ghi y) : FSim T m (vSlS2 g glo ghi) (.slice ty x lo (some y) none) := fun e t h r K hr => by
  simp only [xop, h1 e t hr, vSlS2]
  rcases avStr_ok (g e) (ss2 (glo e) (ghi e) K h) .bad with e1 | ⟨l, e0, e1⟩
  · rw [e1]; exact .bad
  · rw [e1]
    unfold ss2
    rcases on_any_ok (glo e) (ss2b (ghi e) l K h) .bad with e2 | ⟨k, p, e3, e2⟩
    · rw [e2]; exact .bad
    · rw [e2]
      unfold ss2b
      rcases on_any_ok (ghi e) (ss2c l K h p) .bad with e4 | ⟨j, q, e5, e4⟩
      · rw [e4]; exact .bad
      · rw [e4]
        unfold ss2c
        rw [lenF_eq, dpK_eq]
        cases hb : Nat.ble p q with
        | false => exact .bad
        | true =>
          cases hq : Nat.ble q l.length with
          | false => exact .bad
          | true =>
            unfold ss2d
            rw [bres_t, bres_t, tbK_eq]
            refine good_out (v := .str ((l.drop p).take (Nat.sub q p))) (h := h) ?_ rfl
            simp only [xslice, hT, hk, e0, bounds_some (len := l.length) (h2 e t hr k p e3) (lo_some h3 e t hr j q e5), hb, hq, dropK_eq, takeK_eq]
end
noncomputable def so2 (K : VK) (h : Tr AO) (i off es n o : Nat) : Res := K (.slc i o off n es) h
noncomputable def so1 (K : VK) (h : Tr AO) (i off es p n : Nat) : Res := forceNR (Nat.add off (Nat.mul p es)) (so2 K h i off es n)
noncomputable def slOut (p : Nat) : VK → Tr AO → Nat → Nat → Nat → Nat → Nat → Res := Nat.rec (motive := fun _ => VK → Tr AO → Nat → Nat → Nat → Nat → Nat → Res)
  (fun K h i off base es q => K (.slc i off base q es) h) (fun p _ K h i off _ es q => forceNR (Nat.sub q (Nat.succ p)) (so1 K h i off es (Nat.succ p))) p
noncomputable def sc1b (es : Nat) (K : VK) (h : Tr AO) (i off base len p : Nat) : Res := bres (Nat.ble p len) (slOut p K h i off base es len) .bad
noncomputable def sc1 (esz : Nat) (lo : AV) (K : VK) (h : Tr AO) (i off base len es : Nat) : Res := bres (Nat.beq esz es) (on_any lo (sc1b es K h i off base len) .bad) .bad
noncomputable def sn1b (K : VK) (h : Tr AO) (p : Nat) : Res := bres (Nat.beq p 0) (K .slcN h) .bad
noncomputable def sn1 (lo : AV) (K : VK) (h : Tr AO) : Res := on_any lo (sn1b K h) .bad
noncomputable def vSlL1 (esz : Nat) (g glo : GT) : FK := fun e h _ K => avSlc (g e) (sc1 esz (glo e) K h) (avSlcN (g e) (sn1 (glo e) K h) .bad)
noncomputable def sc2c (es : Nat) (K : VK) (h : Tr AO) (i off base len p q : Nat) : Res := bres (Nat.ble p q) (bres (Nat.ble q len) (slOut p K h i off base es q) .bad) .bad
noncomputable def sc2b (hi : AV) (es : Nat) (K : VK) (h : Tr AO) (i off base len p : Nat) : Res := on_any hi (sc2c es K h i off base len p) .bad
noncomputable def sc2 (esz : Nat) (lo hi : AV) (K : VK) (h : Tr AO) (i off base len es : Nat) : Res := bres (Nat.beq esz es) (on_any lo (sc2b hi es K h i off base len) .bad) .bad
noncomputable def sn2b (hi : AV) (K : VK) (h : Tr AO) (p : Nat) : Res := bres (Nat.beq p 0) (on_any hi (sn1b K h) .bad) .bad
noncomputable def sn2 (lo hi : AV) (K : VK) (h : Tr AO) : Res := on_any lo (sn2b hi K h) .bad
noncomputable def vSlL2 (esz : Nat) (g glo ghi : GT) : FK := fun e h _ K => avSlc (g e) (sc2 esz (glo e) (ghi e) K h) (avSlcN (g e) (sn2 (glo e) (ghi e) K h) .bad)
noncomputable def slA (i off base es q : Nat) (p : Nat) : AV :=
  match p with
  | 0 => .slc i off base q es
  | p + 1 => .slc i (Nat.add off (Nat.mul (Nat.succ p) es)) off (Nat.sub q (Nat.succ p)) es
theorem slOut_eq (p : Nat) (K : VK) (h : Tr AO) (i off base es q : Nat) : slOut p K h i off base es q = K (slA i off base es q p) h := by
  cases p with
  | zero => rfl
  | succ p =>
    show forceNR (Nat.sub q (Nat.succ p)) (so1 K h i off es (Nat.succ p)) = _
    rw [forceNR_eq]
    unfold so1
    rw [forceNR_eq]; rfl
section
variable {T : TT} {m ty el : Nat} {x : Operand} {lo : Option Operand} {g glo ghi : GT} {D F : TI} {esz : Nat} (hT : T ty = some D) (hk : D.k = .slice el) (hF : T el = some F) (hs : F.size = esz) (h0 : Nat.ble 1 esz = true) (h1 : GSim m g x) (h2 : LoSim m glo lo)
include hT hk hF hs h0 h1 h2
theorem vSlL1_ok : FSim T m (vSlL1 esz g glo) (.slice ty x lo none none) := fun e t h r K hr => by
  simp only [xop, h1 e t hr, vSlL1]
  rcases avSlc_ok (g e) (sc1 esz (glo e) K h) (avSlcN (g e) (sn1 (glo e) K h) .bad) with e1 | ⟨i, off, base, len, es, e0, e1⟩
  · rw [e1]
    rcases avSlcN_ok (g e) (sn1 (glo e) K h) .bad with e2 | ⟨e3, e2⟩
    · rw [e2]; exact .bad
    · rw [e2]
      unfold sn1
      rcases on_any_ok (glo e) (sn1b K h) .bad with e4 | ⟨k, p, e5, e4⟩
      · rw [e4]; exact .bad
      · rw [e4]
        unfold sn1b
        cases hp : Nat.beq p 0 with
        | false => exact .bad
        | true =>
          cases Nat.eq_of_beq_eq_true hp
          refine good_out (v := .slcN) (h := h) ?_ rfl
          simp only [xslice, hT, hk, e3, hF, bounds_none (len := 0) (h2 e t hr k 0 e5)]
  · rw [e1]
    unfold sc1
    cases hb : Nat.beq esz es with
    | false => exact .bad
    | true =>
      rw [bres_t]
      rcases on_any_ok (glo e) (sc1b es K h i off base len) .bad with e2 | ⟨k, p, e3, e2⟩
      · rw [e2]; exact .bad
      · rw [e2]
        unfold sc1b
        cases hp : Nat.ble p len with
        | false => exact .bad
        | true =>
          rw [bres_t, slOut_eq]
          have hll : Nat.ble len len = true := by rw [Nat.ble_eq]; exact Nat.le_refl _
          refine good_out (v := slA i off base es len p) (h := h) ?_ rfl
          subst hs
          have hes := Nat.eq_of_beq_eq_true hb
          simp only [xslice, hT, hk, e0, hF, hb, bounds_none (h2 e t hr k p e3), hp, hll]
          cases p <;> simp only [forceN_eq, slA]
          all_goals (rw [← hes, h0])
theorem vSlL2_ok {y : Operand} (h3 : GSim m ghi y) : FSim T m (vSlL2 esz g glo ghi) (.slice ty x lo (some y) none) := fun e t h r K hr => by
  simp only [xop, h1 e t hr, vSlL2]
  rcases avSlc_ok (g e) (sc2 esz (glo e) (ghi e) K h) (avSlcN (g e) (sn2 (glo e) (ghi e) K h) .bad) with e1 | ⟨i, off, base, len, es, e0, e1⟩
  · rw [e1]
    rcases avSlcN_ok (g e) (sn2 (glo e) (ghi e) K h) .bad with e2 | ⟨e3, e2⟩
    · rw [e2]; exact .bad
    · rw [e2]
      unfold sn2
      rcases on_any_ok (glo e) (sn2b (ghi e) K h) .bad with e4 | ⟨k, p, e5, e4⟩
      · rw [e4]; exact .bad
      · rw [e4]
        unfold sn2b
        cases hp : Nat.beq p 0 with
        | false => exact .bad
        | true =>
          rw [bres_t]
          rcases on_any_ok (ghi e) (sn1b K h) .bad with e6 | ⟨j, q, e7, e6⟩
          · rw [e6]; exact .bad
          · rw [e6]
            unfold sn1b
            cases hq : Nat.beq q 0 with
            | false => exact .bad
            | true =>
              cases Nat.eq_of_beq_eq_true hp
              cases Nat.eq_of_beq_eq_true hq
              refine good_out (v := .slcN) (h := h) ?_ rfl
              simp only [xslice, hT, hk, e3, hF, bounds_some (len := 0) (h2 e t hr k 0 e5) (lo_some h3 e t hr j 0 e7)]
  · rw [e1]
    unfold sc2
    cases hb : Nat.beq esz es with
    | false => exact .bad
    | true =>
      rw [bres_t]
      rcases on_any_ok (glo e) (sc2b (ghi e) es K h i off base len) .bad with e2 | ⟨k, p, e3, e2⟩
      · rw [e2]; exact .bad
      · rw [e2]
        unfold sc2b
        rcases on_any_ok (ghi e) (sc2c es K h i off base len p) .bad with e4 | ⟨j, q, e5, e4⟩
        · rw [e4]; exact .bad
        · rw [e4]
          unfold sc2c
          cases hp : Nat.ble p q with
          | false => exact .bad
          | true =>
            cases hq : Nat.ble q len with
            | false => exact .bad
            | true =>
              rw [bres_t, bres_t, slOut_eq]
              refine good_out (v := slA i off base es q p) (h := h) ?_ rfl
              subst hs
              have hes := Nat.eq_of_beq_eq_true hb
              simp only [xslice, hT, hk, e0, hF, hb, bounds_some (len := len) (h2 e t hr k p e3) (lo_some h3 e t hr j q e5), hp, hq]
              cases p <;> simp only [forceN_eq, slA]
              all_goals (rw [← hes, h0])
end

/-! ### new blocks and literals -/
noncomputable def outP (K : VK) (r : Nat) (h : Tr AO) : Res := K (.ptr r 0) h
noncomputable def zeroT (T : TT) (e : Nat) : List AV :=
  match T e with
  | some F => F.zero
  | none => []
noncomputable def vAlloc (T : TT) (e : Nat) : FK := fun _ h r K => trS deep h r (some (.cells (zeroT T e) false)) (outP K r)
theorem vAlloc_ok {T : TT} {m el : Nat} {F : TI} (hF : T el = some F) : FSim T m (vAlloc T el) (.alloc el) := fun e t h r K hr => by
  simp only [xop, hF, vAlloc, zeroT]
  rcases trS_ok (β := OR) deep h r (some (.cells F.zero false)) (outP K r) with e1 | ⟨h', e2, e1⟩
  · rw [e1]; exact .bad
  · rw [e1]; exact good_out (v := .ptr r 0) (h := h') (by rw [e2]) rfl
noncomputable def cellsF (v : AV) : List AV := AV.rec (motive_1 := fun _ => AV → List AV) (motive_2 := fun _ => Unit) (fun _ v => [v]) (fun _ _ v => [v]) (fun _ v => [v]) (fun v => [v]) (fun _ _ v => [v]) (fun v => [v]) (fun _ _ _ _ _ v => [v]) (fun v => [v]) (fun _ v => [v]) (fun v => [v]) (fun v => [v]) (fun _ _ _ v => [v]) (fun _ _ _ _ _ v => [v]) (fun l _ _ => l) (fun _ _ v => [v]) () (fun _ _ _ _ => ()) v v
theorem cellsF_eq (v : AV) : cellsF v = cellsOf v := by cases v <;> rfl
noncomputable def vBox (g : GT) : FK := fun e h r K => trS deep h r (some (.cells (cellsF (g e)) false)) (outP K r)
theorem vBox_ok {T : TT} {m ty : Nat} {x : Operand} {g : GT} (h1 : GSim m g x) : FSim T m (vBox g) (.box ty x) := fun e t h r K hr => by
  simp only [xop, h1 e t hr, vBox, cellsF_eq]
  rcases trS_ok (β := OR) deep h r (some (.cells (cellsOf (g e)) false)) (outP K r) with e1 | ⟨h', e2, e1⟩
  · rw [e1]; exact .bad
  · rw [e1]; exact good_out (v := .ptr r 0) (h := h') (by rw [e2]) rfl
/-- A part of a literal: where it lies, how many cells it has, its value. -/
structure Pt where
  off : Nat
  size : Nat
  g : GT
noncomputable def bldN (ih : List AV → (List AV → Res) → Res) (K : List AV → Res) (cs : List AV) : Res := ih cs K
noncomputable def bld1 (e : E2) (p : Pt) (ih : List AV → (List AV → Res) → Res) (cs : List AV) (K : List AV → Res) : Res := bres (Nat.beq (lenF (cellsF (p.g e))) p.size) (ovK cs p.off (cellsF (p.g e)) (bldN ih K)) .bad
noncomputable def bldK (ps : List Pt) : E2 → List AV → (List AV → Res) → Res := List.rec (motive := fun _ => E2 → List AV → (List AV → Res) → Res) (fun _ cs K => K cs) (fun p _ ih e cs K => bld1 e p (ih e) cs K) ps
/-- The parts of a literal, as they are to be. -/
def PSim (m : Nat) (place : Nat → Option (Nat × Nat)) : List Pt → List (Nat × Operand) → Prop
  | [], [] => True
  | p :: ps, (i, x) :: l => place i = some (p.off, p.size) ∧ GSim m p.g x ∧ PSim m place ps l
  | _, _ => False
theorem bldK_ok {m : Nat} {place : Nat → Option (Nat × Nat)} {e : E2} {t : List AV} (hr : Rp m e t) : ∀ {ps : List Pt} {l : List (Nat × Operand)}, PSim m place ps l → ∀ cs K, ∃ vs, opdsI t l = some vs ∧ (bldK ps e cs K = .bad ∨ ∃ r, fillA place cs vs = some r ∧ bldK ps e cs K = K r)
  | [], [], _, cs, K => ⟨[], rfl, .inr ⟨cs, rfl, rfl⟩⟩
  | p :: ps, (i, x) :: l, hp, cs, K => by
    obtain ⟨h1, h2, h3⟩ := hp
    obtain ⟨vs, h4, _⟩ := bldK_ok hr h3 cs K
    refine ⟨(i, p.g e) :: vs, by simp only [opdsI, h2 e t hr, h4], ?_⟩
    show bld1 e p (bldK ps e) cs K = _ ∨ ∃ r, _ ∧ bld1 e p (bldK ps e) cs K = _
    unfold bld1
    rw [lenF_eq, cellsF_eq]
    cases hb : Nat.beq (cellsOf (p.g e)).length p.size with
    | false => exact .inl rfl
    | true =>
      rw [bres_t]
      rcases ovK_ok cs p.off (cellsOf (p.g e)) (bldN (bldK ps e) K) with e1 | ⟨c2, e2, e1⟩
      · rw [e1]; exact .inl rfl
      · rw [e1]
        obtain ⟨vs', h5, h6⟩ := bldK_ok hr h3 c2 K
        rw [h4] at h5
        cases some_inj h5
        rcases h6 with h6 | ⟨r, h7, h6⟩
        · exact .inl h6
        · exact .inr ⟨r, by simp only [fillA, h1, hb, e2, h7], h6⟩
  | [], _ :: _, h, _, _ => h.elim
  | _ :: _, [], h, _, _ => h.elim
noncomputable def vBld (T : TT) (ty : Nat) (ps : List Pt) : FK := fun e h _ K => bldK ps e (zeroT T ty) (outA K h)
def placeS (T : TT) (fs : List (Nat × Nat)) (i : Nat) : Option (Nat × Nat) :=
  match fieldOf fs i with
  | some (o, t) => match T t with
    | some F => some (o, F.size)
    | none => none
  | none => none
theorem vBld_st {T : TT} {m ty : Nat} {D : TI} {fs : List (Nat × Nat)} {parts : Array (Nat × Operand)} {ps : List Pt} (hT : T ty = some D) (hk : D.k = .st fs) (hp : PSim m (placeS T fs) ps parts.toList) : FSim T m (vBld T ty ps) (.build ty parts) := fun e t h r K hr => by
  unfold vBld
  simp only [zeroT, hT, xop]
  obtain ⟨vs, h1, h2⟩ := bldK_ok hr hp D.zero (outA K h)
  rw [h1]
  rcases h2 with h2 | ⟨cs, h3, h2⟩
  · rw [h2]; exact .bad
  · rw [h2]
    refine good_out (v := .agg cs) (h := h) ?_ rfl
    obtain ⟨k, s, b, z, q⟩ := D
    simp only at hk h3
    subst hk
    have h3' : fillA (fun i => match fieldOf fs i with
      | some (o, t) => match T t with
        | some F => some (o, F.size)
        | none => none
      | none => none) z vs = some cs := h3
    simp only [xbuild, hT]
    exact Eq.trans (congrArg (fun q : Option (List AV) => match q with | some cs => some (OR.val (AV.agg cs) h) | none => none) h3') rfl
theorem vBld_arr {T : TT} {m ty el n : Nat} {D F : TI} {parts : Array (Nat × Operand)} {ps : List Pt} (hT : T ty = some D) (hk : D.k = .arr n el) (hF : T el = some F) (hp : PSim m (fun i => some (Nat.mul i F.size, F.size)) ps parts.toList) : FSim T m (vBld T ty ps) (.build ty parts) := fun e t h r K hr => by
  unfold vBld
  simp only [zeroT, hT, xop]
  obtain ⟨vs, h1, h2⟩ := bldK_ok hr hp D.zero (outA K h)
  rw [h1]
  rcases h2 with h2 | ⟨cs, h3, h2⟩
  · rw [h2]; exact .bad
  · rw [h2]
    refine good_out (v := .agg cs) (h := h) ?_ rfl
    obtain ⟨k, s, b, z, q⟩ := D
    simp only at hk h3
    subst hk
    simp only [xbuild, hT, hF, h3]
noncomputable def outS (K : VK) (r len size : Nat) (h : Tr AO) : Res := K (.slc r 0 0 len size) h
noncomputable def bs1 (len size r : Nat) (K : VK) (h : Tr AO) (cs : List AV) : Res := bres (allOneF cs) (trS deep h r (some (.cells cs false)) (outS K r len size)) .bad
noncomputable def vBldL (T : TT) (el len size : Nat) (ps : List Pt) : FK := fun e h r K => bldK ps e (repN (zeroT T el) len) (bs1 len size r K h)
theorem vBldL_ok {T : TT} {m ty el len size : Nat} {D F : TI} {parts : Array (Nat × Operand)} {ps : List Pt} (hT : T ty = some D) (hk : D.k = .slice el) (hF : T el = some F) (hs : F.size = size)
    (hc : (Nat.ble (Nat.mul len F.size) 16777216 && (Nat.ble 1 F.size && Nat.beq F.zero.length F.size)) = true) (hp : PSim m (fun i => some (Nat.mul i F.size, F.size)) ps parts.toList) : FSim T m (vBldL T el len size ps) (.buildSlice ty len parts) := fun e t h r K hr => by
  subst hs
  unfold vBldL
  simp only [zeroT, hF, xop]
  obtain ⟨vs, h1, h2⟩ := bldK_ok hr hp (repN F.zero len) (bs1 len F.size r K h)
  rw [h1]
  simp only [Bool.and_eq_true] at hc
  rcases h2 with h2 | ⟨cs, h3, h2⟩
  · rw [h2]; exact .bad
  · rw [h2]
    unfold bs1
    rw [allOneF_eq]
    cases ha : allOne cs with
    | false => exact .bad
    | true =>
      rw [bres_t]
      rcases trS_ok (β := OR) deep h r (some (.cells cs false)) (outS K r len F.size) with e1 | ⟨h', e2, e1⟩
      · rw [e1]; exact .bad
      · rw [e1]
        refine good_out (v := .slc r 0 0 len F.size) (h := h') ?_ rfl
        obtain ⟨k, s, b, z, q⟩ := D
        simp only at hk
        subst hk
        simp only [xbuildSlice, hT, hF, hc.1, hc.2.1, hc.2.2, h3, ha, e2]

/-! ### append -/
theorem seg_full : ∀ (l : List AV) (n : Nat) {v : List AV}, seg l 0 n = some v → v = l.take n
  | [], 0, v, h => by simp [seg] at h; simp [← h]
  | [], _ + 1, v, h => by simp [seg] at h
  | _ :: _, 0, v, h => by simp [seg] at h; simp [← h]
  | a :: l, n + 1, v, h => by
    simp only [seg] at h
    split at h
    · rename_i r hr
      cases some_inj h
      rw [seg_full l n hr]; rfl
    · cases h
noncomputable def apOut2 (K : VK) (r n size : Nat) (cs : List AV) (h : Tr AO) : Res := trS deep h r (some (.cells cs true)) (outS K r n size)
noncomputable def apOut1 (K : VK) (h : Tr AO) (r n size i : Nat) (cs : List AV) : Res := trS deep h i none (apOut2 K r n size cs)
noncomputable def apOld (K : VK) (h : Tr AO) (r n size i : Nat) (vs old : List AV) : Res := apK old vs (apOut1 K h r n size i)
noncomputable def apC2 (K : VK) (h : Tr AO) (r n len size i : Nat) (vs cs : List AV) (_ : Bool) : Res := segK cs 0 (Nat.mul len size) (apOld K h r n size i vs)
noncomputable def apO2 (K : VK) (h : Tr AO) (r n len size i : Nat) (vs : List AV) (o : AO) : Res := aoCells o (apC2 K h r n len size i vs)
noncomputable def apF2 (K : VK) (h : Tr AO) (r len size i : Nat) (vs : List AV) (n : Nat) : Res := trG h i (apO2 K h r n len size i vs)
noncomputable def apS (m bytes size : Nat) (K : VK) (h : Tr AO) (r : Nat) (vs : List AV) (i off base len es : Nat) : Res := bres (Nat.beq off 0) (bres (Nat.beq base 0) (bres (Nat.beq es size)
  (bres (Nat.ble (Nat.mul (Nat.add len m) bytes) 140737488355328) (bres (Nat.ble (Nat.add len m) 140737488355328) (forceNR (Nat.add len m) (apF2 K h r len size i vs)) .bad) .bad) .bad) .bad) .bad
noncomputable def apN1 (K : VK) (h : Tr AO) (r size : Nat) (vs : List AV) (n : Nat) : Res := apOut2 K r n size vs h
noncomputable def apN (m bytes size : Nat) (K : VK) (h : Tr AO) (r : Nat) (vs : List AV) : Res := bres (Nat.ble (Nat.mul m bytes) 140737488355328) (bres (Nat.ble m 140737488355328) (forceNR m (apN1 K h r size vs)) .bad) .bad
noncomputable def apV (m bytes size : Nat) (s : AV) (K : VK) (h : Tr AO) (r : Nat) (vs : List AV) : Res := bres (allOneF vs) (avSlc s (apS m bytes size K h r vs) (avSlcN s (apN m bytes size K h r vs) .bad)) .bad
noncomputable def apC1 (n bytes size off : Nat) (s : AV) (K : VK) (h : Tr AO) (r : Nat) (cs : List AV) (_ : Bool) : Res := segK cs off (Nat.mul n size) (apV n bytes size s K h r)
noncomputable def apO1 (n bytes size off : Nat) (s : AV) (K : VK) (h : Tr AO) (r : Nat) (o : AO) : Res := aoCells o (apC1 n bytes size off s K h r)
noncomputable def apX (bytes size : Nat) (s : AV) (K D : Res) (K' : VK) (h : Tr AO) (r : Nat) (j off _base n es : Nat) : Res := bres (Nat.beq n 0) D (bres (Nat.beq es size) (trG h j (apO1 n bytes size off s K' h r)) .bad)
noncomputable def vApp (T : TT) (ty tx bytes size : Nat) (g1 g2 : GT) : FK := fun e h r K => avSlc (g2 e) (apX bytes size (g1 e) .bad (gOld (xappend T ty tx (g1 e) (g2 e) h r) K) K h r) (gOld (xappend T ty tx (g1 e) (g2 e) h r) K)
theorem app_op {T : TT} {t : List AV} {h : Tr AO} {r : Nat} {c : Call} {x y : Operand} {ty tx : Nat} {a b : AV} (hc : c.callee = .builtin .append) (ha : c.args.toList = [x, y]) (ht : c.argTypes.toList = [ty, tx]) (h1 : opd t x = some a) (h2 : opd t y = some b) :
    xop T (.call c) t h r = xappend T ty tx a b h r := by
  simp only [xop, xcall, ha, opds, h1, h2, hc, ht]
theorem apV_ok {F : TI} {s : AV} {K : VK} {h : Tr AO} {r m : Nat} {vs : List AV} (hm : Nat.beq m 0 = false) : Good (apV m F.bytes F.size s K h r vs) K (appendA F s h r (some (m, vs))) := by
  obtain ⟨m, rfl⟩ : ∃ k, m = k + 1 := ⟨m - 1, by have : m ≠ 0 := fun e => by subst e; cases hm
                                                 omega⟩
  unfold apV
  rw [allOneF_eq]
  cases ha : allOne vs with
  | false => exact .bad
  | true =>
    rw [bres_t]
    rcases avSlc_ok s (apS (m + 1) F.bytes F.size K h r vs) (avSlcN s (apN (m + 1) F.bytes F.size K h r vs) .bad) with e1 | ⟨i, off, base, len, es, e0, e1⟩
    · rw [e1]
      rcases avSlcN_ok s (apN (m + 1) F.bytes F.size K h r vs) .bad with e2 | ⟨e3, e2⟩
      · rw [e2]; exact .bad
      · rw [e2, e3]
        unfold apN
        cases hb : Nat.ble (Nat.mul (m + 1) F.bytes) 140737488355328 with
        | false => exact .bad
        | true =>
          cases hc : Nat.ble (m + 1) 140737488355328 with
          | false => exact .bad
          | true =>
            rw [bres_t, bres_t, forceNR_eq]
            unfold apN1 apOut2
            rcases trS_ok (β := OR) deep h r (some (.cells vs true)) (outS K r (m + 1) F.size) with e4 | ⟨h', e5, e4⟩
            · rw [e4]; exact .bad
            · rw [e4]
              refine good_out (v := .slc r 0 0 (m + 1) F.size) (h := h') ?_ rfl
              simp only [appendA, ha]
              show (match Nat.ble (Nat.mul (m + 1) F.bytes) 140737488355328, Nat.ble (m + 1) 140737488355328 with
                | true, true => _
                | _, _ => none) = _
              simp only [hb, hc, forceN_eq, e5]
    · rw [e1, e0]
      unfold apS
      cases ho : Nat.beq off 0 with
      | false => exact .bad
      | true =>
        cases hba : Nat.beq base 0 with
        | false => exact .bad
        | true =>
          cases hes : Nat.beq es F.size with
          | false => exact .bad
          | true =>
            cases hb : Nat.ble (Nat.mul (Nat.add len (m + 1)) F.bytes) 140737488355328 with
            | false => exact .bad
            | true =>
              cases hc : Nat.ble (Nat.add len (m + 1)) 140737488355328 with
              | false => exact .bad
              | true =>
                rw [bres_t, bres_t, bres_t, bres_t, bres_t, forceNR_eq]
                have ho' := Nat.eq_of_beq_eq_true ho
                have hb' := Nat.eq_of_beq_eq_true hba
                subst ho' hb'
                unfold apF2
                rcases trG_ok h i (apO2 K h r (Nat.add len (m + 1)) len F.size i vs) with e2 | ⟨q, e3, e2⟩
                · rw [e2]; exact .bad
                · rw [e2]
                  unfold apO2
                  rcases aoCells_ok q (apC2 K h r (Nat.add len (m + 1)) len F.size i vs) with e4 | ⟨cs, p, e5, e4⟩
                  · rw [e4]; exact .bad
                  · rw [e4]
                    unfold apC2
                    rcases segK_ok cs 0 (Nat.mul len F.size) (apOld K h r (Nat.add len (m + 1)) F.size i vs) with e6 | ⟨old, e7, e6⟩
                    · rw [e6]; exact .bad
                    · rw [e6]
                      unfold apOld
                      rw [apK_eq]
                      unfold apOut1
                      rcases trS_ok (β := OR) deep h i none (apOut2 K r (Nat.add len (m + 1)) F.size (old ++ vs)) with e8 | ⟨h', e9, e8⟩
                      · rw [e8]; exact .bad
                      · rw [e8]
                        unfold apOut2
                        rcases trS_ok (β := OR) deep h' r (some (.cells (old ++ vs) true)) (outS K r (Nat.add len (m + 1)) F.size) with f1 | ⟨h2, f2, f1⟩
                        · rw [f1]; exact .bad
                        · rw [f1]
                          refine good_out (v := .slc r 0 0 (Nat.add len (m + 1)) F.size) (h := h2) ?_ rfl
                          simp only [appendA, ha]
                          show (match Nat.beq es F.size with
                            | false => none
                            | true => match h.get i with
                              | some (.cells cs _) => match seg cs 0 (Nat.mul len F.size) with
                                | none => none
                                | some old => match Nat.ble (Nat.mul (Nat.add len (m + 1)) F.bytes) 140737488355328, Nat.ble (Nat.add len (m + 1)) 140737488355328 with
                                  | true, true => appK old vs fun cs => forceN (Nat.add len (m + 1)) fun n =>
                                    Tr.setK deep h i none fun h => Tr.setK deep h r (some (.cells cs true)) fun h => some (OR.val (.slc r 0 0 n F.size) h)
                                  | _, _ => none
                              | _ => none) = _
                          simp only [hes, e3, e5, e7, hb, hc, appK_eq, forceN_eq, e9, f2]
theorem vApp_ok {T : TT} {m : Nat} {c : Call} {x y : Operand} {ty tx el bytes size : Nat} {g1 g2 : GT} {D F : TI} (hc : c.callee = .builtin .append) (ha : c.args.toList = [x, y]) (ht : c.argTypes.toList = [ty, tx]) (h1 : GSim m g1 x) (h2 : GSim m g2 y)
    (hT : T ty = some D) (hk : D.k = .slice el) (hF : T el = some F) (hb : F.bytes = bytes) (hs : F.size = size) (hok : (rowOrText T tx && (Nat.ble 1 F.size && Nat.beq F.zero.length F.size)) = true) : FSim T m (vApp T ty tx bytes size g1 g2) (.call c) := fun e t h r K hr => by
  subst hb hs
  rw [app_op hc ha ht (h1 e t hr) (h2 e t hr)]
  unfold vApp
  rcases avSlc_ok (g2 e) (apX F.bytes F.size (g1 e) .bad (gOld (xappend T ty tx (g1 e) (g2 e) h r) K) K h r) (gOld (xappend T ty tx (g1 e) (g2 e) h r) K) with e1 | ⟨j, off, base, n, es, e0, e1⟩
  · rw [e1]; exact gOld_ok _ _
  · rw [e1]
    unfold apX
    cases hn : Nat.beq n 0 with
    | true => exact gOld_ok _ _
    | false =>
      cases hes : Nat.beq es F.size with
      | false => exact .bad
      | true =>
        rw [bres_f, bres_t]
        rcases trG_ok h j (apO1 n F.bytes F.size off (g1 e) K h r) with e2 | ⟨q, e3, e2⟩
        · rw [e2]; exact .bad
        · rw [e2]
          unfold apO1
          rcases aoCells_ok q (apC1 n F.bytes F.size off (g1 e) K h r) with e4 | ⟨cs, p, e5, e4⟩
          · rw [e4]; exact .bad
          · rw [e4]
            unfold apC1
            rcases segK_ok cs off (Nat.mul n F.size) (apV n F.bytes F.size (g1 e) K h r) with e6 | ⟨vs, e7, e6⟩
            · rw [e6]; exact .bad
            · rw [e6]
              refine (apV_ok (F := F) (s := g1 e) (K := K) (h := h) (r := r) (vs := vs) hn).of_eq ?_
              simp only [Bool.and_eq_true] at hok
              obtain ⟨k, s, b, z, q'⟩ := D
              simp only at hk
              subst hk
              simp only [xappend, hT, hF, hok.1, hok.2.1, hok.2.2, e0, srcOf, hes, e3, e5, e7]

/-! ### the rest, by the plain operation over its operands alone -/
noncomputable def vR1 (T : TT) (o : Op) (g : GT) : FK := fun e h r K => gOld (xop T o [g e] h r) K
noncomputable def vR2 (T : TT) (o : Op) (g1 g2 : GT) : FK := fun e h r K => gOld (xop T o [g1 e, g2 e] h r) K
noncomputable def vR3 (T : TT) (o : Op) (g1 g2 g3 : GT) : FK := fun e h r K => gOld (xop T o [g1 e, g2 e, g3 e] h r) K
noncomputable def vR0 (T : TT) (o : Op) : FK := fun e h r K => gOld (xop T o [] h r) K
def tm (i : Nat) : Operand := .tmp i
theorem op1 (a : AV) (l : List AV) : opd (a :: l) (tm 0) = some a := rfl
theorem op2 (a b : AV) (l : List AV) : opd (a :: b :: l) (tm 1) = some b := rfl
theorem op3 (a b c : AV) (l : List AV) : opd (a :: b :: c :: l) (tm 2) = some c := rfl
section
variable {T : TT} {m : Nat}
theorem vMakeMap_ok {ty : Nat} : FSim T m (vR0 T (.makeMap ty none)) (.makeMap ty none) := fun e t h r K hr => (gOld_ok _ _).of_eq rfl
theorem vConv_ok {s d : Nat} {x : Operand} {g : GT} (h1 : GSim m g x) : FSim T m (vR1 T (.convert s d (tm 0)) g) (.convert s d x) := fun e t h r K hr => (gOld_ok _ _).of_eq (by simp only [xop, h1 e t hr, op1])
theorem vMkIf_ok {ty : Nat} {x : Operand} {g : GT} (h1 : GSim m g x) : FSim T m (vR1 T (.makeInterface ty (tm 0)) g) (.makeInterface ty x) := fun e t h r K hr => (gOld_ok _ _).of_eq (by simp only [xop, h1 e t hr, op1])
theorem vField_ok {ty f : Nat} {x : Operand} {g : GT} (h1 : GSim m g x) : FSim T m (vR1 T (.field ty (tm 0) f) g) (.field ty x f) := fun e t h r K hr => (gOld_ok _ _).of_eq (by simp only [xop, h1 e t hr, op1])
theorem vRange_ok {ty : Nat} {x : Operand} {g : GT} (h1 : GSim m g x) : FSim T m (vR1 T (.range ty (tm 0)) g) (.range ty x) := fun e t h r K hr => (gOld_ok _ _).of_eq (by simp only [xop, h1 e t hr, op1])
theorem vEntry_ok {x : Operand} {g : GT} (h1 : GSim m g x) : FSim T m (vR1 T (.entry (tm 0)) g) (.entry x) := fun e t h r K hr => (gOld_ok _ _).of_eq (by simp only [xop, h1 e t hr, op1])
theorem vNext_ok {s : Bool} {x : Operand} {g : GT} (h1 : GSim m g x) : FSim T m (vR1 T (.next (tm 0) s) g) (.next x s) := fun e t h r K hr => (gOld_ok _ _).of_eq (by simp only [xop, h1 e t hr, op1])
theorem vMkSl_ok {ty : Nat} {x y : Operand} {g1 g2 : GT} (h1 : GSim m g1 x) (h2 : GSim m g2 y) : FSim T m (vR2 T (.makeSlice ty (tm 0) (tm 1)) g1 g2) (.makeSlice ty x y) := fun e t h r K hr => (gOld_ok _ _).of_eq (by simp only [xop, h1 e t hr, h2 e t hr, op1, op2])
theorem vLook_ok {ty : Nat} {ok : Bool} {x y : Operand} {g1 g2 : GT} (h1 : GSim m g1 x) (h2 : GSim m g2 y) : FSim T m (vR2 T (.lookup ty (tm 0) (tm 1) ok) g1 g2) (.lookup ty x y ok) := fun e t h r K hr => (gOld_ok _ _).of_eq (by simp only [xop, h1 e t hr, h2 e t hr, op1, op2])
theorem vUpd_ok {ty : Nat} {x y z : Operand} {g1 g2 g3 : GT} (h1 : GSim m g1 x) (h2 : GSim m g2 y) (h3 : GSim m g3 z) : FSim T m (vR3 T (.mapUpdate ty (tm 0) (tm 1) (tm 2)) g1 g2 g3) (.mapUpdate ty x y z) := fun e t h r K hr => (gOld_ok _ _).of_eq (by simp only [xop, h1 e t hr, h2 e t hr, h3 e t hr, op1, op2, op3])
noncomputable def vCopy (T : TT) (ty : Nat) (g1 g2 : GT) : FK := fun e h r K => gOld (xcopy T ty (g1 e) (g2 e) h) K
noncomputable def vDel (T : TT) (ty : Nat) (g1 g2 : GT) : FK := fun e h r K => gOld (xdelete T ty (g1 e) (g2 e) h) K
theorem vCopy_ok {c : Call} {x y : Operand} {ty tx : Nat} {g1 g2 : GT} (hc : c.callee = .builtin .copy) (ha : c.args.toList = [x, y]) (ht : c.argTypes.toList = [ty, tx]) (h1 : GSim m g1 x) (h2 : GSim m g2 y) : FSim T m (vCopy T ty g1 g2) (.call c) := fun e t h r K hr => by
  simp only [xop, xcall, ha, opds, h1 e t hr, h2 e t hr, hc, ht]; exact gOld_ok _ _
theorem vDel_ok {c : Call} {x y : Operand} {ty tx : Nat} {g1 g2 : GT} (hc : c.callee = .builtin .delete) (ha : c.args.toList = [x, y]) (ht : c.argTypes.toList = [ty, tx]) (h1 : GSim m g1 x) (h2 : GSim m g2 y) : FSim T m (vDel T ty g1 g2) (.call c) := fun e t h r K hr => by
  simp only [xop, xcall, ha, opds, h1 e t hr, h2 e t hr, hc, ht]; exact gOld_ok _ _
end
/-! what is left: over all temporaries -/
def eList (e : E2) : Nat → Nat → List AV
  | _, 0 => []
  | i, k + 1 => eget e i :: eList e (Nat.succ i) k
theorem eList_get (e : E2) : ∀ (k i j : Nat), j < k → (eList e i k)[j]? = some (eget e (i + j))
  | 0, _, _, h => by omega
  | k + 1, i, 0, _ => rfl
  | k + 1, i, j + 1, h => by
    show (eList e (i + 1) k)[j]? = _
    rw [eList_get e k (i + 1) j (by omega), Nat.add_assoc, Nat.add_comm 1]
theorem eList_length (e : E2) : ∀ (k i : Nat), (eList e i k).length = k
  | 0, _ => rfl
  | k + 1, i => by
    show (eList e (i + 1) k).length + 1 = _
    rw [eList_length e k]
theorem eList_eq {m : Nat} {e : E2} {t : List AV} (hr : Rp m e t) : eList e 0 m = t := by
  apply List.ext_getElem?
  intro i
  by_cases hi : i < m
  · rw [eList_get e m 0 i hi, hr.get i hi, Nat.zero_add]
  · rw [List.getElem?_eq_none (by rw [eList_length]; omega), List.getElem?_eq_none (by rw [hr.len]; omega)]
noncomputable def vAny (T : TT) (m : Nat) (o : Op) : FK := fun e h r K => gOld (xop T o (eList e 0 m) h r) K
theorem vAny_ok {T : TT} {m : Nat} {o : Op} : FSim T m (vAny T m o) o := fun e t h r K hr => by unfold vAny; rw [eList_eq hr]; exact gOld_ok _ _
end Go.Ae
