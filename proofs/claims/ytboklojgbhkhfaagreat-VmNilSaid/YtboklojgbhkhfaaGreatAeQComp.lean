/- Operations, regions, code and functions compiled to closed pieces, and that they answer what the evaluator answers. No condition beside the hypotheses that each lemma names. -/
import Derived.Test.YtboklojgbhkhfaaGreatAeQCode
set_option linter.unusedVariables false
namespace Go.Ae
noncomputable def cOpd (m : Nat) (x : Operand) : Option GT :=
  match x with
  | .tmp i => match Nat.blt i m with
    | true => some fun e => eget e i
    | false => none
  | .const v => match ofV v with
    | some a => some fun _ => a
    | none => none
  | .func f => some fun _ => .fn (.func f) [] []
  | .global _ => none
noncomputable def sSet (i : Nat) : SM := fun v e K => K (eset e i v)
noncomputable def cSet (m : Nat) (d : Option Nat) : Option SM :=
  match d with
  | none => some sNone
  | some d => match Nat.blt d m with
    | true => some (sSet d)
    | false => none
noncomputable def cBin (T : TT) (ty : Nat) (op : BinOp) (x y : Operand) (g1 g2 : GT) : FK :=
  match T ty with
  | some D => match D.k with
    | .int k => vN (onOf k) (wOf k op) op g1 g2
    | .str => vS (swOf op) g1 g2
    | _ => vBinS T op ty x y g1 g2
  | none => vBinS T op ty x y g1 g2
noncomputable def cLoad (T : TT) (ty : Nat) (g : GT) : Option FK :=
  match T ty with
  | none => none
  | some D => match isRow D.k with
    | true => some (vLdS D.size g)
    | false => some (vLd g)
noncomputable def cStore (T : TT) (ty : Nat) (g1 g2 : GT) : Option FK :=
  match T ty with
  | none => none
  | some D => match isRow D.k with
    | true => some (vStS D.size g1 g2)
    | false => match Nat.beq D.size 1 with
      | true => some (vSt1 g1 g2)
      | false => none
noncomputable def cFA (T : TT) (ty f : Nat) (g : GT) : Option FK :=
  match T ty with
  | none => none
  | some D => match D.k with
    | .st fs => match fieldOf fs f with
      | none => none
      | some p => match T p.2 with
        | none => none
        | some F => match Nat.beq F.size 0 with
          | false => some (vFA p.1 g)
          | true => none
    | _ => none
noncomputable def cIA (T : TT) (ty : Nat) (g1 g2 : GT) : Option FK :=
  match T ty with
  | none => none
  | some D => match D.k with
    | .slice el => match T el with
      | none => none
      | some F => match Nat.ble 1 F.size with
        | true => some (vIAS F.size g1 g2)
        | false => none
    | .arr len el => match T el with
      | none => none
      | some F => some (vIAA len F.size g1 g2)
    | _ => none
noncomputable def cIx (T : TT) (ty : Nat) (g1 g2 : GT) : FK :=
  match T ty with
  | none => vIx T ty g1 g2
  | some D => match D.k with
    | .str => vIxS g1 g2
    | _ => vIx T ty g1 g2
noncomputable def cLo (m : Nat) (lo : Option Operand) : Option GT :=
  match lo with
  | none => some gZ
  | some x => cOpd m x
noncomputable def cSlice (T : TT) (m ty : Nat) (g glo : GT) (hi : Option Operand) : Option FK :=
  match T ty with
  | none => none
  | some D => match D.k with
    | .str => match hi with
      | none => some (vSlS1 g glo)
      | some y => match cOpd m y with
        | some g2 => some (vSlS2 g glo g2)
        | none => none
    | .slice el => match T el with
      | none => none
      | some F => match Nat.ble 1 F.size with
        | false => none
        | true => match hi with
          | none => some (vSlL1 F.size g glo)
          | some y => match cOpd m y with
            | some g2 => some (vSlL2 F.size g glo g2)
            | none => none
    | _ => none
noncomputable def cParts (m : Nat) (place : Nat → Option (Nat × Nat)) : List (Nat × Operand) → Option (List Pt)
  | [] => some []
  | p :: l => match place p.1 with
    | none => none
    | some q => match cOpd m p.2 with
      | none => none
      | some g => match cParts m place l with
        | none => none
        | some r => some (⟨q.1, q.2, g⟩ :: r)
noncomputable def cBuild (T : TT) (m ty : Nat) (parts : List (Nat × Operand)) : Option FK :=
  match T ty with
  | none => none
  | some D => match D.k with
    | .st fs => match cParts m (placeS T fs) parts with
      | some ps => some (vBld T ty ps)
      | none => none
    | .arr _ el => match T el with
      | none => none
      | some F => match cParts m (fun i => some (Nat.mul i F.size, F.size)) parts with
        | some ps => some (vBld T ty ps)
        | none => none
    | _ => none
noncomputable def cBuildL (T : TT) (m ty len : Nat) (parts : List (Nat × Operand)) : Option FK :=
  match T ty with
  | none => none
  | some D => match D.k with
    | .slice el => match T el with
      | none => none
      | some F => match Nat.ble (Nat.mul len F.size) 16777216 && (Nat.ble 1 F.size && Nat.beq F.zero.length F.size) with
        | false => none
        | true => match cParts m (fun i => some (Nat.mul i F.size, F.size)) parts with
          | some ps => some (vBldL T el len F.size ps)
          | none => none
    | _ => none
noncomputable def cAlloc (T : TT) (el : Nat) : Option FK :=
  match T el with
  | none => none
  | some _ => some (vAlloc T el)
noncomputable def cLen (T : TT) (ty : Nat) (g : GT) : FK :=
  match T ty with
  | none => vLen T ty g
  | some D => match D.k with
    | .str => vLenS g
    | .slice _ => vLenL T ty g
    | _ => vLen T ty g
noncomputable def cApp (T : TT) (ty tx : Nat) (g1 g2 : GT) : Option FK :=
  match T ty with
  | none => none
  | some D => match D.k with
    | .slice el => match T el with
      | none => none
      | some F => match rowOrText T tx && (Nat.ble 1 F.size && Nat.beq F.zero.length F.size) with
        | true => some (vApp T ty tx F.bytes F.size g1 g2)
        | false => none
    | _ => none
noncomputable def cBuilt (T : TT) (m : Nat) (c : Call) : Option FK :=
  match c.callee with
  | .builtin .len => match c.args.toList, c.argTypes.toList with
    | [x], [ty] => match cOpd m x with
      | some g => some (cLen T ty g)
      | none => none
    | _, _ => none
  | .builtin .append => match c.args.toList, c.argTypes.toList with
    | [x, y], [ty, tx] => match cOpd m x, cOpd m y with
      | some g1, some g2 => cApp T ty tx g1 g2
      | _, _ => none
    | _, _ => none
  | .builtin .copy => match c.args.toList, c.argTypes.toList with
    | [x, y], [ty, _] => match cOpd m x, cOpd m y with
      | some g1, some g2 => some (vCopy T ty g1 g2)
      | _, _ => none
    | _, _ => none
  | .builtin .delete => match c.args.toList, c.argTypes.toList with
    | [x, y], [ty, _] => match cOpd m x, cOpd m y with
      | some g1, some g2 => some (vDel T ty g1 g2)
      | _, _ => none
    | _, _ => none
  | _ => none
noncomputable def m1 (x : Option GT) (F : GT → Option FK) : Option FK :=
  match x with
  | some g => F g
  | none => none
noncomputable def m2 (x y : Option GT) (F : GT → GT → Option FK) : Option FK := m1 x fun g1 => m1 y fun g2 => F g1 g2
noncomputable def cF (T : TT) (m : Nat) (o : Op) : Option FK :=
  match o with
  | .move x => m1 (cOpd m x) fun g => some (vMove g)
  | .assign x => m1 (cOpd m x) fun g => some (vMove g)
  | .binOp op ty x y _ => m2 (cOpd m x) (cOpd m y) fun g1 g2 => some (cBin T ty op x y g1 g2)
  | .unOp op _ x => m1 (cOpd m x) fun g => match op with
    | .not => some (vNot g)
    | op => some (vUnS op g)
  | .load ty x => m1 (cOpd m x) fun g => cLoad T ty g
  | .store ty x y => m2 (cOpd m x) (cOpd m y) fun g1 g2 => cStore T ty g1 g2
  | .nilCheck x => m1 (cOpd m x) fun g => some (vNil g)
  | .pick c x y => m1 (cOpd m c) fun g => m2 (cOpd m x) (cOpd m y) fun g1 g2 => some (vPick g g1 g2)
  | .fieldAddr ty x f => m1 (cOpd m x) fun g => cFA T ty f g
  | .indexAddr ty x y => m2 (cOpd m x) (cOpd m y) fun g1 g2 => cIA T ty g1 g2
  | .index ty x y => m2 (cOpd m x) (cOpd m y) fun g1 g2 => some (cIx T ty g1 g2)
  | .extract x i => m1 (cOpd m x) fun g => some (vEx i g)
  | .slice ty x lo hi none => m2 (cOpd m x) (cLo m lo) fun g glo => cSlice T m ty g glo hi
  | .alloc el => cAlloc T el
  | .box _ x => m1 (cOpd m x) fun g => some (vBox g)
  | .build ty parts => cBuild T m ty parts.toList
  | .buildSlice ty len parts => cBuildL T m ty len parts.toList
  | .makeMap ty none => some (vR0 T (.makeMap ty none))
  | .convert s d x => m1 (cOpd m x) fun g => some (vR1 T (.convert s d (tm 0)) g)
  | .makeInterface ty x => m1 (cOpd m x) fun g => some (vR1 T (.makeInterface ty (tm 0)) g)
  | .field ty x f => m1 (cOpd m x) fun g => some (vR1 T (.field ty (tm 0) f) g)
  | .range ty x => m1 (cOpd m x) fun g => some (vR1 T (.range ty (tm 0)) g)
  | .entry x => m1 (cOpd m x) fun g => some (vR1 T (.entry (tm 0)) g)
  | .next x s => m1 (cOpd m x) fun g => some (vR1 T (.next (tm 0) s) g)
  | .makeSlice ty x y => m2 (cOpd m x) (cOpd m y) fun g1 g2 => some (vR2 T (.makeSlice ty (tm 0) (tm 1)) g1 g2)
  | .lookup ty x y ok => m2 (cOpd m x) (cOpd m y) fun g1 g2 => some (vR2 T (.lookup ty (tm 0) (tm 1) ok) g1 g2)
  | .mapUpdate ty x y z => m1 (cOpd m x) fun g => m2 (cOpd m y) (cOpd m z) fun g1 g2 => some (vR3 T (.mapUpdate ty (tm 0) (tm 1) (tm 2)) g g1 g2)
  | .call c => cBuilt T m c
  | _ => none
section
variable {T : TT} {m : Nat}
theorem cOpd_ok {x : Operand} {g : GT} (h : cOpd m x = some g) : GSim m g x := by
  intro e t hr
  unfold cOpd at h
  split at h
  · rename_i i
    split at h
    · rename_i hb
      cases some_inj h
      show getN t i = _
      rw [getN_opt]
      exact hr.get i (by simpa [Nat.blt_eq] using hb)
    · cases h
  · split at h
    · rename_i a ha
      cases some_inj h
      exact ha
    · cases h
  · cases some_inj h; rfl
  · cases h
theorem cSet_ok {d : Option Nat} {S : SM} (h : cSet m d = some S) : SSim m S d := by
  intro e t v hr
  unfold cSet at h
  split at h
  · cases some_inj h
    exact ⟨e, hr, fun _ => rfl⟩
  · split at h
    · rename_i hb
      cases some_inj h
      exact ⟨_, hr.set (by simpa [Nat.blt_eq] using hb) v, fun _ => rfl⟩
    · cases h
theorem m1_ok {x : Option GT} {F : GT → Option FK} {R : FK} (h : m1 x F = some R) : ∃ g, x = some g ∧ F g = some R := by
  cases x with
  | none => cases h
  | some g => exact ⟨g, rfl, h⟩
theorem m2_ok {x y : Option GT} {F : GT → GT → Option FK} {R : FK} (h : m2 x y F = some R) : ∃ g1 g2, x = some g1 ∧ y = some g2 ∧ F g1 g2 = some R := by
  obtain ⟨g1, h1, h2⟩ := m1_ok h
  obtain ⟨g2, h3, h4⟩ := m1_ok h2
  exact ⟨g1, g2, h1, h3, h4⟩
theorem cBin_ok {op : BinOp} {ty yt : Nat} {x y : Operand} {g1 g2 : GT} (h1 : GSim m g1 x) (h2 : GSim m g2 y) : FSim T m (cBin T ty op x y g1 g2) (.binOp op ty x y yt) := by
  unfold cBin
  split
  · split
    · exact vN_ok (onOf_ok _) (wOf_ok _ _) h1 h2
    · exact vS_ok (swOf_ok _) h1 h2
    · exact vBinS_ok h1 h2
  · exact vBinS_ok h1 h2
theorem cLoad_ok {ty : Nat} {x : Operand} {g : GT} {F : FK} (h1 : GSim m g x) (h : cLoad T ty g = some F) : FSim T m F (.load ty x) := by
  unfold cLoad at h
  split at h
  · cases h
  · rename_i D hT
    split at h
    · rename_i hk; cases some_inj h; exact vLdS_ok hT hk rfl h1
    · rename_i hk; cases some_inj h; exact vLd_ok hT hk h1
theorem cStore_ok {ty : Nat} {x y : Operand} {g1 g2 : GT} {F : FK} (h1 : GSim m g1 x) (h2 : GSim m g2 y) (h : cStore T ty g1 g2 = some F) : FSim T m F (.store ty x y) := by
  unfold cStore at h
  split at h
  · cases h
  · rename_i D hT
    split at h
    · cases some_inj h; exact vStS_ok hT rfl h1 h2
    · split at h
      · rename_i hs; cases some_inj h; exact vSt1_ok hT hs h1 h2
      · cases h
theorem cFA_ok {ty f : Nat} {x : Operand} {g : GT} {F : FK} (h1 : GSim m g x) (h : cFA T ty f g = some F) : FSim T m F (.fieldAddr ty x f) := by
  unfold cFA at h
  split at h
  · cases h
  · rename_i D hT
    split at h
    · rename_i fs hk
      split at h
      · cases h
      · rename_i p hp
        split at h
        · cases h
        · rename_i G hG
          split at h
          · rename_i hs
            cases some_inj h
            obtain ⟨fo, ft⟩ := p
            exact vFA_ok hT hk hp hG hs h1
          · cases h
    · cases h
theorem cIA_ok {ty : Nat} {x y : Operand} {g1 g2 : GT} {F : FK} (h1 : GSim m g1 x) (h2 : GSim m g2 y) (h : cIA T ty g1 g2 = some F) : FSim T m F (.indexAddr ty x y) := by
  unfold cIA at h
  split at h
  · cases h
  · rename_i D hT
    split at h
    · rename_i el hk
      split at h
      · cases h
      · rename_i G hG
        split at h
        · rename_i h0; cases some_inj h; exact vIAS_ok hT hk hG rfl h0 h1 h2
        · cases h
    · rename_i len el hk
      split at h
      · cases h
      · rename_i G hG
        cases some_inj h; exact vIAA_ok hT hk hG rfl h1 h2
    · cases h
theorem cIx_ok {ty : Nat} {x y : Operand} {g1 g2 : GT} (h1 : GSim m g1 x) (h2 : GSim m g2 y) : FSim T m (cIx T ty g1 g2) (.index ty x y) := by
  unfold cIx
  split
  · exact vIx_ok h1 h2
  · rename_i D hT
    split
    · rename_i hk; exact vIxS_ok hT hk h1 h2
    · exact vIx_ok h1 h2
theorem cLo_ok {lo : Option Operand} {g : GT} (h : cLo m lo = some g) : LoSim m g lo := by
  unfold cLo at h
  split at h
  · cases some_inj h; exact lo_none
  · exact lo_some (cOpd_ok h)
theorem cSlice_ok {ty : Nat} {x : Operand} {lo hi : Option Operand} {g glo : GT} {F : FK} (h1 : GSim m g x) (h2 : LoSim m glo lo) (h : cSlice T m ty g glo hi = some F) : FSim T m F (.slice ty x lo hi none) := by
  unfold cSlice at h
  split at h
  · cases h
  · rename_i D hT
    split at h
    · rename_i hk
      split at h
      · cases some_inj h; exact vSlS1_ok hT hk h1 h2
      · split at h
        · rename_i g2 hg; cases some_inj h; exact vSlS2_ok hT hk h1 h2 (cOpd_ok hg)
        · cases h
    · rename_i el hk
      split at h
      · cases h
      · rename_i G hG
        split at h
        · cases h
        · rename_i h0
          split at h
          · cases some_inj h; exact vSlL1_ok hT hk hG rfl h0 h1 h2
          · split at h
            · rename_i g2 hg; cases some_inj h; exact vSlL2_ok hT hk hG rfl h0 h1 h2 (cOpd_ok hg)
            · cases h
    · cases h
theorem cParts_ok {place : Nat → Option (Nat × Nat)} : ∀ {l : List (Nat × Operand)} {ps : List Pt}, cParts m place l = some ps → PSim m place ps l
  | [], ps, h => by cases some_inj h; trivial
  | (i, x) :: l, ps, h => by
    simp only [cParts] at h
    split at h
    · cases h
    · rename_i q hq
      split at h
      · cases h
      · rename_i g hg
        split at h
        · cases h
        · rename_i r hr
          cases some_inj h
          exact ⟨hq, cOpd_ok hg, cParts_ok hr⟩
theorem cBuild_ok {ty : Nat} {parts : Array (Nat × Operand)} {F : FK} (h : cBuild T m ty parts.toList = some F) : FSim T m F (.build ty parts) := by
  unfold cBuild at h
  split at h
  · cases h
  · rename_i D hT
    split at h
    · rename_i fs hk
      split at h
      · rename_i ps hp; cases some_inj h; exact vBld_st hT hk (cParts_ok hp)
      · cases h
    · rename_i n el hk
      split at h
      · cases h
      · rename_i G hG
        split at h
        · rename_i ps hp; cases some_inj h; exact vBld_arr hT hk hG (cParts_ok hp)
        · cases h
    · cases h
theorem cBuildL_ok {ty len : Nat} {parts : Array (Nat × Operand)} {F : FK} (h : cBuildL T m ty len parts.toList = some F) : FSim T m F (.buildSlice ty len parts) := by
  unfold cBuildL at h
  split at h
  · cases h
  · rename_i D hT
    split at h
    · rename_i el hk
      split at h
      · cases h
      · rename_i G hG
        split at h
        · cases h
        · rename_i hc
          split at h
          · rename_i ps hp; cases some_inj h; exact vBldL_ok hT hk hG rfl hc (cParts_ok hp)
          · cases h
    · cases h
theorem cAlloc_ok {el : Nat} {F : FK} (h : cAlloc T el = some F) : FSim T m F (.alloc el) := by
  unfold cAlloc at h
  split at h
  · cases h
  · rename_i D hT; cases some_inj h; exact vAlloc_ok hT
theorem cBuilt_ok {c : Call} {F : FK} (h : cBuilt T m c = some F) : FSim T m F (.call c) := by
  unfold cBuilt at h
  split at h
  · rename_i hc
    split at h
    · rename_i x ty ha ht
      split at h
      · rename_i g hg
        cases some_inj h
        unfold cLen
        split
        · exact vLen_ok hc ha ht (cOpd_ok hg)
        · rename_i D hT
          split
          · rename_i hk; exact vLenS_ok hc ha ht (cOpd_ok hg) hT hk
          · rename_i el hk; exact vLenL_ok hc ha ht (cOpd_ok hg) hT hk
          · exact vLen_ok hc ha ht (cOpd_ok hg)
      · cases h
    · cases h
  · rename_i hc
    split at h
    · rename_i x y ty tx ha ht
      split at h
      · rename_i g1 g2 hg1 hg2
        unfold cApp at h
        split at h
        · cases h
        · rename_i D hT
          split at h
          · rename_i el hk
            split at h
            · cases h
            · rename_i G hG
              split at h
              · rename_i hok; cases some_inj h; exact vApp_ok hc ha ht (cOpd_ok hg1) (cOpd_ok hg2) hT hk hG rfl rfl hok
              · cases h
          · cases h
      · cases h
    · cases h
  · rename_i hc
    split at h
    · rename_i x y ty tx ha ht
      split at h
      · rename_i g1 g2 hg1 hg2; cases some_inj h; exact vCopy_ok hc ha ht (cOpd_ok hg1) (cOpd_ok hg2)
      · cases h
    · cases h
  · rename_i hc
    split at h
    · rename_i x y ty tx ha ht
      split at h
      · rename_i g1 g2 hg1 hg2; cases some_inj h; exact vDel_ok hc ha ht (cOpd_ok hg1) (cOpd_ok hg2)
      · cases h
    · cases h
  · cases h
theorem cF_ok {o : Op} {F : FK} (h : cF T m o = some F) : FSim T m F o := by
  unfold cF at h
  split at h
  · obtain ⟨g, h1, h2⟩ := m1_ok h; cases some_inj h2; exact vMove_ok (cOpd_ok h1)
  · obtain ⟨g, h1, h2⟩ := m1_ok h; cases some_inj h2; exact vAssign_ok (cOpd_ok h1)
  · obtain ⟨g1, g2, h1, h2, h3⟩ := m2_ok h; cases some_inj h3; exact cBin_ok (cOpd_ok h1) (cOpd_ok h2)
  · obtain ⟨g, h1, h2⟩ := m1_ok h
    split at h2
    · cases some_inj h2; exact vNot_ok (cOpd_ok h1)
    · cases some_inj h2; exact vUnS_ok (cOpd_ok h1)
  · obtain ⟨g, h1, h2⟩ := m1_ok h; exact cLoad_ok (cOpd_ok h1) h2
  · obtain ⟨g1, g2, h1, h2, h3⟩ := m2_ok h; exact cStore_ok (cOpd_ok h1) (cOpd_ok h2) h3
  · obtain ⟨g, h1, h2⟩ := m1_ok h; cases some_inj h2; exact vNil_ok (cOpd_ok h1)
  · obtain ⟨g, h1, h2⟩ := m1_ok h
    obtain ⟨g1, g2, h3, h4, h5⟩ := m2_ok h2; cases some_inj h5; exact vPick_ok (cOpd_ok h1) (cOpd_ok h3) (cOpd_ok h4)
  · obtain ⟨g, h1, h2⟩ := m1_ok h; exact cFA_ok (cOpd_ok h1) h2
  · obtain ⟨g1, g2, h1, h2, h3⟩ := m2_ok h; exact cIA_ok (cOpd_ok h1) (cOpd_ok h2) h3
  · obtain ⟨g1, g2, h1, h2, h3⟩ := m2_ok h; cases some_inj h3; exact cIx_ok (cOpd_ok h1) (cOpd_ok h2)
  · obtain ⟨g, h1, h2⟩ := m1_ok h; cases some_inj h2; exact vEx_ok (cOpd_ok h1)
  · obtain ⟨g1, g2, h1, h2, h3⟩ := m2_ok h; exact cSlice_ok (cOpd_ok h1) (cLo_ok h2) h3
  · exact cAlloc_ok h
  · obtain ⟨g, h1, h2⟩ := m1_ok h; cases some_inj h2; exact vBox_ok (cOpd_ok h1)
  · exact cBuild_ok h
  · exact cBuildL_ok h
  · cases some_inj h; exact vMakeMap_ok
  · obtain ⟨g, h1, h2⟩ := m1_ok h; cases some_inj h2; exact vConv_ok (cOpd_ok h1)
  · obtain ⟨g, h1, h2⟩ := m1_ok h; cases some_inj h2; exact vMkIf_ok (cOpd_ok h1)
  · obtain ⟨g, h1, h2⟩ := m1_ok h; cases some_inj h2; exact vField_ok (cOpd_ok h1)
  · obtain ⟨g, h1, h2⟩ := m1_ok h; cases some_inj h2; exact vRange_ok (cOpd_ok h1)
  · obtain ⟨g, h1, h2⟩ := m1_ok h; cases some_inj h2; exact vEntry_ok (cOpd_ok h1)
  · obtain ⟨g, h1, h2⟩ := m1_ok h; cases some_inj h2; exact vNext_ok (cOpd_ok h1)
  · obtain ⟨g1, g2, h1, h2, h3⟩ := m2_ok h; cases some_inj h3; exact vMkSl_ok (cOpd_ok h1) (cOpd_ok h2)
  · obtain ⟨g1, g2, h1, h2, h3⟩ := m2_ok h; cases some_inj h3; exact vLook_ok (cOpd_ok h1) (cOpd_ok h2)
  · obtain ⟨g, h1, h2⟩ := m1_ok h
    obtain ⟨g1, g2, h3, h4, h5⟩ := m2_ok h2; cases some_inj h5; exact vUpd_ok (cOpd_ok h1) (cOpd_ok h3) (cOpd_ok h4)
  · exact cBuilt_ok h
  · cases h
end

/-! ### regions -/
noncomputable def cArgs (m : Nat) : List Operand → Option (List GT)
  | [] => some []
  | x :: l => match cOpd m x with
    | none => none
    | some g => match cArgs m l with
      | none => none
      | some r => some (g :: r)
theorem cArgs_ok {m : Nat} : ∀ {l : List Operand} {gs : List GT}, cArgs m l = some gs → ASim m gs l
  | [], gs, h => by cases some_inj h; trivial
  | x :: l, gs, h => by
    simp only [cArgs] at h
    split at h
    · cases h
    · rename_i g hg
      split at h
      · cases h
      · rename_i r hr
        cases some_inj h
        exact ⟨cOpd_ok hg, cArgs_ok hr⟩
noncomputable def cOp0 (T : TT) (cf : CF2) (m : Nat) (op : Op) (S : SM) (j : Nat) : OM → OM :=
  match cF T m op with
  | some F => kOp F S j
  | none => kAny cf T m op S j
noncomputable def cX (T : TT) (cf : CF2) (m : Nat) (op : Op) (S : SM) (j : Nat) : OM → OM :=
  match op with
  | .call c => match c.callee with
    | .value x => match x with
      | .func g => match cArgs m c.args.toList with
        | some gs => kCall cf g gs S
        | none => kAny cf T m (.call c) S j
      | x => match cOpd m x with
        | some g => match cArgs m c.args.toList with
          | some gs => kCallV cf T g gs S
          | none => kAny cf T m (.call c) S j
        | none => kAny cf T m (.call c) S j
    | _ => cOp0 T cf m (.call c) S j
  | op => cOp0 T cf m op S j
section
variable {T : TT} {cf : CF2} {m : Nat} {ops : List Oper}
/-- One piece, as it is to be, in a region that draws nothing and in one that draws its order. -/
def BSim (T : TT) (cf : CF2) (m : Nat) (X : OM → OM) (o : Oper) (j : Nat) : Prop := (∀ K f, OSim m K f → XSim T cf m (X K) o j f) ∧ HXSim T cf m X o j
theorem cOp0_ok {o : Oper} {S : SM} {j : Nat} (hS : SSim m S o.dst) : BSim T cf m (cOp0 T cf m o.op S j) o j := by
  unfold cOp0
  split
  · rename_i F hF; exact ⟨fun K f hK => kOp_ok (cF_ok hF) hS hK, h_op (cF_ok hF) hS⟩
  · exact ⟨fun K f hK => kAny_ok hS hK, h_any hS⟩
theorem kAny_b {o : Oper} {S : SM} {j : Nat} {op : Op} (ho : o.op = op) (hS : SSim m S o.dst) : BSim T cf m (kAny cf T m op S j) o j := by
  subst ho; exact ⟨fun K f hK => kAny_ok hS hK, h_any hS⟩
theorem cX_ok {o : Oper} {S : SM} {j : Nat} (hS : SSim m S o.dst) : BSim T cf m (cX T cf m o.op S j) o j := by
  unfold cX
  split
  · rename_i c ho
    split
    · rename_i x hc
      split
      · rename_i g
        split
        · rename_i gs hgs
          exact ⟨fun K f hK => kCall_ok ho hc (cArgs_ok hgs) hS hK, h_call ho hc (cArgs_ok hgs) hS⟩
        · exact kAny_b ho hS
      · split
        · rename_i g hg
          split
          · rename_i gs hgs
            exact ⟨fun K f hK => kCallV_ok ho hc (cOpd_ok hg) (cArgs_ok hgs) hS hK, h_callV ho hc (cOpd_ok hg) (cArgs_ok hgs) hS⟩
          · exact kAny_b ho hS
        · exact kAny_b ho hS
    · rw [← ho]; exact cOp0_ok hS
  · exact cOp0_ok hS
/-- The getter that a guard asks. -/
noncomputable def cGd (m : Nat) (ops : List Oper) (i : Nat) : Option GT :=
  match nthO ops i with
  | none => none
  | some oi => match oi.dst with
    | none => none
    | some d => cOpd m (.tmp d)
theorem cGd_ok {i : Nat} {g : GT} (h : cGd m ops i = some g) : ∃ oi d, ops[i]? = some oi ∧ oi.dst = some d ∧ GSim m g (.tmp d) := by
  unfold cGd at h
  split at h
  · cases h
  · rename_i oi hi
    split at h
    · cases h
    · rename_i d hd
      exact ⟨oi, d, by rw [← nthO_opt]; exact hi, hd, cOpd_ok h⟩
noncomputable def cG (m : Nat) (ops : List Oper) (gd : Option (Nat × Bool)) (S : SM) (X : OM → OM) : Option (OM → OM) :=
  match gd with
  | none => some X
  | some p => match cGd m ops p.1 with
    | none => none
    | some g => match p.2 with
      | true => some (hGT g S X)
      | false => some (hGF g S X)
noncomputable def cOps (T : TT) (cf : CF2) (m : Nat) (ops : List Oper) : List Oper → Nat → Option OM
  | [], _ => some kEnd
  | o :: l, j => match cSet m o.dst with
    | none => none
    | some S => match cOps T cf m ops l (Nat.succ j) with
      | none => none
      | some K => match cG m ops o.guard S (cX T cf m o.op S j) with
        | none => none
        | some X => some (X K)
theorem cG_ok {o : Oper} {S : SM} {j : Nat} {X Y : OM → OM} (hS : SSim m S o.dst) (hX : BSim T cf m X o j) (h : cG m ops o.guard S X = some Y) :
    (∀ K f, OSim m K f → OSim m (Y K) fun r t h n => step T (cfO cf) ops o (Nat.add r j) t h n fun t h n => f r t h n) ∧ HSim T cf m ops Y o j := by
  unfold cG at h
  split at h
  · rename_i hg
    cases some_inj h
    exact ⟨fun K f hK => step_none (hX.1 K f hK) hg, h_none hX.2 hg⟩
  · rename_i p hg
    split at h
    · cases h
    · rename_i g hgd
      obtain ⟨oi, d, h1, h2, h3⟩ := cGd_ok hgd
      obtain ⟨i, b⟩ := p
      cases b
      · cases some_inj h
        exact ⟨fun K f hK => step_guard (b := false) (hX.1 K f hK) hS hK hg h1 h2 h3, h_guard (b := false) hX.2 hS hg h1 h2 h3⟩
      · cases some_inj h
        exact ⟨fun K f hK => step_guard (b := true) (hX.1 K f hK) hS hK hg h1 h2 h3, h_guard (b := true) hX.2 hS hg h1 h2 h3⟩
theorem cOps_ok : ∀ {l : List Oper} {j : Nat} {X : OM}, cOps T cf m ops l j = some X → OSim m X fun r t h n => steps T (cfO cf) ops l (Nat.add r j) t h n
  | [], j, X, hx => by
    cases some_inj hx
    exact kEnd_ok
  | o :: l, j, X, hx => by
    simp only [cOps] at hx
    split at hx
    · cases hx
    · rename_i S hS
      split at hx
      · cases hx
      · rename_i K hK
        split at hx
        · cases hx
        · rename_i Y hY
          cases some_inj hx
          exact (cG_ok (cSet_ok hS) (cX_ok (cSet_ok hS)) hY).1 K _ (cOps_ok hK)
/-! plans -/
noncomputable def cReads (m : Nat) (op : Op) (c : List Nat) : Option RD :=
  match op with
  | .load _ x => match cOpd m x with
    | some g => some (rdP g c)
    | none => none
  | .lookup _ x _ _ => match cOpd m x with
    | some g => some (rdM g c)
    | none => none
  | .slice _ x _ _ _ => match cOpd m x with
    | some g => some (rdP g c)
    | none => none
  | .call cl => match cl.args.toList with
    | [x] => match cOpd m x with
      | some g => some (rdM g c)
      | none => none
    | [] => some rdN
    | _ :: _ :: _ => some rdN
  | _ => some rdN
theorem opds_len : ∀ {t : List AV} {l : List Operand} {vs : List AV}, opds t l = some vs → vs.length = l.length
  | t, [], vs, h => by cases some_inj h; rfl
  | t, x :: l, vs, h => by
    simp only [opds] at h
    split at h
    · split at h
      · rename_i r hr; cases some_inj h; simp [opds_len hr]
      · cases h
    · cases h
theorem rdP_ok {g : GT} {c : List Nat} {e : E2} {ids : IDS} {K : IDS → Res} : rdP g c e ids K = K (covs c (match some (g e) with
    | some (.ptr i _) => [i]
    | _ => []) ++ ids) := by
  unfold rdP
  cases g e <;> rfl
theorem rdM_ok {g : GT} {c : List Nat} {e : E2} {ids : IDS} {K : IDS → Res} : rdM g c e ids K = K (covs c (match some (g e) with
    | some (.map i) => [i]
    | _ => []) ++ ids) := by
  unfold rdM
  cases g e <;> rfl
theorem cReads_ok {op : Op} {c : List Nat} {R : RD} (h : cReads m op c = some R) : RdSim m R c op := by
  intro e t ids K hr
  cases op
  case load ty x =>
    simp only [cReads] at h
    split at h
    · rename_i g hg; cases some_inj h
      rw [rdP_ok]
      simp only [readsOf, cOpd_ok hg e t hr]
      cases g e <;> rfl
    · cases h
  case lookup ty x i b =>
    simp only [cReads] at h
    split at h
    · rename_i g hg; cases some_inj h
      rw [rdM_ok]
      simp only [readsOf, cOpd_ok hg e t hr]
      cases g e <;> rfl
    · cases h
  case slice ty x lo hi mx =>
    simp only [cReads] at h
    split at h
    · rename_i g hg; cases some_inj h
      rw [rdP_ok]
      simp only [readsOf, cOpd_ok hg e t hr]
      cases g e <;> rfl
    · cases h
  case call cl =>
    simp only [cReads] at h
    split at h
    · rename_i x hx
      split at h
      · rename_i g hg; cases some_inj h
        rw [rdM_ok]
        simp only [readsOf, hx, opds, cOpd_ok hg e t hr]
        cases g e <;> rfl
      · cases h
    · rename_i hx; cases some_inj h
      simp only [readsOf, hx, opds]; rfl
    · rename_i x y l hx; cases some_inj h
      simp only [readsOf, hx]
      cases hv : opds t (x :: y :: l) with
      | none => rfl
      | some vs =>
        have := opds_len hv
        match vs, this with
        | a :: b :: vs, _ => cases a <;> rfl
  all_goals (cases some_inj h; rfl)
noncomputable def hpT (g : GT) (S : SM) (X : PM → PM) : PM → PM := fun K => pGT g S K (X K)
noncomputable def hpF (g : GT) (S : SM) (X : PM → PM) : PM → PM := fun K => pGF g S K (X K)
noncomputable def cPG (m : Nat) (ops : List Oper) (gd : Option (Nat × Bool)) (S : SM) (X : PM → PM) : Option (PM → PM) :=
  match gd with
  | none => some X
  | some p => match cGd m ops p.1 with
    | none => none
    | some g => match p.2 with
      | true => some (hpT g S X)
      | false => some (hpF g S X)
noncomputable def cFst (T : TT) (m : Nat) (ops : List Oper) (o : Oper) (i : Nat) (c : List Nat) (K : PM) : Option PM :=
  match quiet o.op with
  | false => none
  | true => match cSet m o.dst with
    | none => none
    | some S => match cF T m o.op with
      | none => none
      | some F => match cReads m o.op c with
        | none => none
        | some R => match cPG m ops o.guard S (pFirst F S i R) with
          | none => none
          | some X => some (X K)
noncomputable def cOnl (T : TT) (cf : CF2) (m : Nat) (ops : List Oper) (o : Oper) (i : Nat) (on : List Nat) (K : PM) : Option PM :=
  match cSet m o.dst with
  | none => none
  | some S => match cG m ops o.guard S (cX T cf m o.op S i) with
    | none => none
    | some X => some (pOnly X on K)
noncomputable def cPlan (T : TT) (cf : CF2) (m : Nat) (ops : List Oper) : Plan → List Nat → Option PM
  | .done, _ => some pEnd
  | .first i c p, on => match nthO ops i with
    | none => none
    | some o => match cPlan T cf m ops p on with
      | none => none
      | some K => cFst T m ops o i c K
  | .only i p, on => match nthO ops i with
    | none => none
    | some o => match cPlan T cf m ops p (i :: on) with
      | none => none
      | some K => cOnl T cf m ops o i (i :: on) K
  | .alt .., _ => none
theorem cPlan_ok : ∀ {p : Plan} {on : List Nat} {X : PM}, cPlan T cf m ops p on = some X → PSm m X fun r h0 t h n => xplan T (cfO cf) ops r h0 p on t h n
  | .done, on, X, hx => by
    cases some_inj hx
    exact pEnd_ok
  | .first i c p, on, X, hx => by
    simp only [cPlan] at hx
    split at hx
    · cases hx
    · rename_i o hi
      split at hx
      · cases hx
      · rename_i K hK
        have hK := cPlan_ok hK
        unfold cFst at hx
        split at hx
        · cases hx
        · rename_i hq
          split at hx
          · cases hx
          · rename_i S hS
            split at hx
            · cases hx
            · rename_i F hF
              split at hx
              · cases hx
              · rename_i R hR
                split at hx
                · cases hx
                · rename_i Y hY
                  cases some_inj hx
                  unfold cPG at hY
                  split at hY
                  · rename_i hg
                    cases some_inj hY
                    exact pFirst_ok hi hq hg (cF_ok hF) (cSet_ok hS) (cReads_ok hR) hK
                  · rename_i q hg
                    split at hY
                    · cases hY
                    · rename_i g hgd
                      obtain ⟨oi, d, h1, h2, h3⟩ := cGd_ok hgd
                      obtain ⟨gi, b⟩ := q
                      cases b
                      · cases some_inj hY
                        exact pFirst_g (b := false) hi hq hg h1 h2 h3 (cF_ok hF) (cSet_ok hS) (cReads_ok hR) hK
                      · cases some_inj hY
                        exact pFirst_g (b := true) hi hq hg h1 h2 h3 (cF_ok hF) (cSet_ok hS) (cReads_ok hR) hK
  | .only i p, on, X, hx => by
    simp only [cPlan] at hx
    split at hx
    · cases hx
    · rename_i o hi
      split at hx
      · cases hx
      · rename_i K hK
        unfold cOnl at hx
        split at hx
        · cases hx
        · rename_i S hS
          split at hx
          · cases hx
          · rename_i Y hY
            cases some_inj hx
            exact pOnly_ok hi (cG_ok (cSet_ok hS) (cX_ok (cSet_ok hS)) hY).2 (cPlan_ok hK)
  | .alt i p q, on, X, hx => by cases hx
end

/-! ### what is left of regions: by the evaluator -/
noncomputable def eOf : List AV → Nat → E2 → E2
  | [], _, e => e
  | v :: l, i, e => eOf l (Nat.succ i) (eset e i v)
theorem eOf_get : ∀ (l : List AV) (i : Nat) (e : E2), i + l.length ≤ 196 → ∀ j, j < 196 → eget (eOf l i e) j = if i ≤ j ∧ j < i + l.length then (l[j - i]?).getD (.tup []) else eget e j
  | [], i, e, _, j, _ => by
    rw [if_neg (by simp only [List.length_nil]; omega)]; rfl
  | v :: l, i, e, hl, j, hj => by
    have hl' : i + 1 + l.length ≤ 196 := by simp only [List.length_cons] at hl; omega
    show eget (eOf l (i + 1) (eset e i v)) j = _
    rw [eOf_get l (i + 1) (eset e i v) hl' j hj, eget_eset e (by simp only [List.length_cons] at hl; omega) hj]
    by_cases h1 : j = i
    · subst h1
      rw [if_neg (by omega), if_pos rfl, if_pos (by simp)]
      simp
    · rw [if_neg h1]
      by_cases h2 : i + 1 ≤ j ∧ j < i + 1 + l.length
      · rw [if_pos h2, if_pos (by simp only [List.length_cons]; omega)]
        have : j - i = j - (i + 1) + 1 := by omega
        rw [this, List.getElem?_cons_succ]
      · rw [if_neg h2, if_neg (by simp only [List.length_cons]; omega)]
theorem eOf_ok {m : Nat} {l : List AV} {e : E2} (hl : l.length = m) (hm : m ≤ 196) : Rp m (eOf l 0 e) l := by
  refine ⟨hm, hl, fun i hi => ?_⟩
  rw [eOf_get l 0 e (by omega) i (by omega), if_pos (by omega)]
  have : i < l.length := by omega
  simp [this]
noncomputable def vDraw (T : TT) (cf : CF2) (plans : List (Nat × Plan)) (id : Nat) (ops : List Oper) (m : Nat) : QM := fun n h e =>
  match fRegion T (cfO cf) plans id ops true ⟨eList e 0 m, h, n⟩ with
  | none => .bad
  | some s => match Nat.beq s.t.length m with
    | true => .nrm s.n s.h (eOf s.t 0 e)
    | false => .bad
section
variable {T : TT} {cf : CF2} {m : Nat}
theorem vDraw_ok {plans : List (Nat × Plan)} {id k : Nat} {ops : Array Oper} : CSim m (vDraw T cf plans id ops.toList m) (code T (cfO cf) plans k (.region id ops true)) := by
  intro n h e t hr
  unfold vDraw
  rw [fRegion_eq, eList_eq hr]
  simp only [code]
  cases region T (cfO cf) plans id ops.toList true ⟨t, h, n⟩ with
  | none => trivial
  | some s =>
    simp only
    cases hb : Nat.beq s.t.length m with
    | false => trivial
    | true => exact ⟨s.t, rfl, eOf_ok (Nat.eq_of_beq_eq_true hb) hr.le⟩
/-! ### code -/
noncomputable def cDraw (T : TT) (cf : CF2) (plans : List (Nat × Plan)) (m id : Nat) (ops : List Oper) : QM :=
  match planAt plans id with
  | none => vDraw T cf plans id ops m
  | some p => match cPlan T cf m ops p [] with
    | some P => kDraw ops.length P
    | none => vDraw T cf plans id ops m
noncomputable def cCode (T : TT) (cf : CF2) (plans : List (Nat × Plan)) (k m : Nat) : Code → Option QM
  | .skip => some cSkip
  | .label _ => some cSkip
  | .region id ops draw => match draw with
    | false => match cOps T cf m ops.toList ops.toList 0 with
      | some O => some (kReg ops.toList.length O)
      | none => none
    | true => some (cDraw T cf plans m id ops.toList)
  | .seq a b => match cCode T cf plans k m a with
    | some A => match cCode T cf plans k m b with
      | some B => some (cSeq A B)
      | none => none
    | none => none
  | .cond c a b => match cOpd m c with
    | some g => match cCode T cf plans k m a with
      | some A => match cCode T cf plans k m b with
        | some B => some (cCond g A B)
        | none => none
      | none => none
    | none => none
  | .block id a => match cCode T cf plans k m a with
    | some A => some (cBlock id A)
    | none => none
  | .loop a => match cCode T cf plans k m a with
    | some A => some (cLoop k A)
    | none => none
  | .exit i => some (cExit i)
  | .scope a => cCode T cf plans k m a
  | .ret => some cRet
  | _ => none
theorem cCode_ok {plans : List (Nat × Plan)} {k : Nat} : ∀ {c : Code} {X : QM}, cCode T cf plans k m c = some X → CSim m X (code T (cfO cf) plans k c)
  | .skip, X, h => by cases some_inj h; exact cSkip_ok
  | .label _, X, h => by cases some_inj h; exact cLabel_ok
  | .region id ops draw, X, h => by
    simp only [cCode] at h
    split at h
    · split at h
      · rename_i O hO; cases some_inj h; exact kReg_ok (cOps_ok hO)
      · cases h
    · cases some_inj h
      unfold cDraw
      split
      · exact vDraw_ok
      · rename_i p hp
        split
        · rename_i P hP; exact kDraw_ok hp (cPlan_ok hP)
        · exact vDraw_ok
  | .seq a b, X, h => by
    simp only [cCode] at h
    split at h
    · rename_i A hA
      split at h
      · rename_i B hB; cases some_inj h; exact cSeq_ok (cCode_ok hA) (cCode_ok hB)
      · cases h
    · cases h
  | .cond c a b, X, h => by
    simp only [cCode] at h
    split at h
    · rename_i g hg
      split at h
      · rename_i A hA
        split at h
        · rename_i B hB; cases some_inj h; exact cCond_ok (cOpd_ok hg) (cCode_ok hA) (cCode_ok hB)
        · cases h
      · cases h
    · cases h
  | .block id a, X, h => by
    simp only [cCode] at h
    split at h
    · rename_i A hA; cases some_inj h; exact cBlock_ok (cCode_ok hA)
    · cases h
  | .loop a, X, h => by
    simp only [cCode] at h
    split at h
    · rename_i A hA; cases some_inj h; exact cLoop_ok (cCode_ok hA)
    · cases h
  | .exit i, X, h => by cases some_inj h; exact cExit_ok
  | .scope a, X, h => by simp only [cCode] at h; exact cScope_ok (cCode_ok h)
  | .ret, X, h => by cases some_inj h; exact cRet_ok
  | .rangeFunc .., X, h => by simp only [cCode] at h; cases h
  | .goto _, X, h => by simp only [cCode] at h; cases h
  | .refuse _, X, h => by simp only [cCode] at h; cases h
end
end Go.Ae
