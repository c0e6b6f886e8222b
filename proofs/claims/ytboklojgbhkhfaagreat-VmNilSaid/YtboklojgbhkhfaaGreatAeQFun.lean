/- Functions compiled to closed pieces, and calls of them: sound as the evaluator's. No condition beside the hypotheses that each lemma names. -/
import Derived.Test.YtboklojgbhkhfaaGreatAeQComp
set_option linter.unusedVariables false
namespace Go.Ae
abbrev CX2 := CF2 → List AV → Tr AO → Nat → CR
abbrev FinT := E2 → Tr AO → Nat → CR
noncomputable def deadA : AV := .tup []
noncomputable def dead1 : E1 := ⟨deadA, deadA, deadA, deadA, deadA, deadA, deadA, deadA, deadA, deadA, deadA, deadA, deadA, deadA⟩
noncomputable def dead2 : E2 := ⟨dead1, dead1, dead1, dead1, dead1, dead1, dead1, dead1, dead1, dead1, dead1, dead1, dead1, dead1⟩
theorem eget_dead (i : Nat) : eget dead2 i = .tup [] := by
  have h1 : ∀ j, E2.at dead2 j = dead1 := fun j => by unfold E2.at; split <;> rfl
  have h2 : ∀ j, E1.at dead1 j = deadA := fun j => by unfold E1.at; split <;> rfl
  unfold eget
  rw [h1, h2]; rfl
theorem enter_ok {m : Nat} {args : List AV} (hm : m ≤ 196) (ha : args.length ≤ m) : Rp m (eOf args 0 dead2) (args ++ repU (Nat.sub m args.length)) := by
  have hl : (repU (Nat.sub m args.length)).length = m - args.length := by rw [repU_eq, List.length_replicate]; rfl
  refine ⟨hm, by rw [List.length_append, hl]; omega, fun i hi => ?_⟩
  rw [eOf_get args 0 dead2 (by omega) i (by omega), eget_dead]
  by_cases h : i < args.length
  · rw [if_pos (by omega), List.getElem?_append_left h]
    simp [h]
  · rw [if_neg (by omega), List.getElem?_append_right (by omega), repU_eq, List.getElem?_replicate, if_pos (by show i - args.length < m - args.length; omega)]
noncomputable def fill1 (ih : List AV → E2 → (E2 → Res) → Res) (as : List AV) (K : E2 → Res) (e : E2) : Res := ih as e K
noncomputable def fillE (ss : List SM) : List AV → E2 → (E2 → Res) → Res := List.rec (motive := fun _ => List AV → E2 → (E2 → Res) → Res)
  (fun args e K => List.rec (motive := fun _ => E2 → (E2 → Res) → Res) (fun e K => K e) (fun _ _ _ _ _ => .bad) args e K)
  (fun S _ ih args e K => List.rec (motive := fun _ => SM → (List AV → E2 → (E2 → Res) → Res) → E2 → (E2 → Res) → Res) (fun _ _ _ _ => .bad) (fun a as _ S ih e K => S a e (fill1 ih as K)) args S ih e K) ss
noncomputable def setsN : Nat → Nat → List SM
  | 0, _ => []
  | k + 1, i => sSet i :: setsN k (Nat.succ i)
theorem fillE_ok : ∀ (k i : Nat) (args : List AV) (e : E2) (K : E2 → Res), fillE (setsN k i) args e K = .bad ∨ (args.length = k ∧ fillE (setsN k i) args e K = K (eOf args i e))
  | 0, i, [], e, K => .inr ⟨rfl, rfl⟩
  | 0, i, _ :: _, e, K => .inl rfl
  | k + 1, i, [], e, K => .inl rfl
  | k + 1, i, a :: as, e, K => by
    show fillE (setsN k (i + 1)) as (eset e i a) K = _ ∨ _ ∧ fillE (setsN k (i + 1)) as (eset e i a) K = _
    rcases fillE_ok k (i + 1) as (eset e i a) K with h | ⟨h1, h2⟩
    · exact .inl h
    · exact .inr ⟨by rw [List.length_cons, h1], h2⟩
noncomputable def resFin (x : Res) : FinT → CR := Res.rec (motive := fun _ => FinT → CR) (fun _ => .bad) (fun n h e F => F e h n) (fun _ _ _ _ _ => .bad) (fun n h e F => F e h n) x
noncomputable def cFun (ss : List SM) (C : CF2 → QM) (Fi : FinT) : CX2 := fun cf args h n => resFin (fillE ss args dead2 (C cf n h)) Fi
noncomputable def fin1 (g : GT) : FinT := fun e h n => .ok (g e) h n
noncomputable def finL (gs : List GT) : FinT := fun e h n => .ok (.tup (argsF gs e)) h n
noncomputable def oCR (q : Option (List AV)) (h : Tr AO) (n : Nat) : CR :=
  match q with
  | none => .bad
  | some l => .ok (resV l) h n
noncomputable def finG (T : TT) (m : Nat) (rs : List ResultVar) : FinT := fun e h n => oCR (resA T (eList e 0 m) h rs) h n
noncomputable def cTmps (m : Nat) : List ResultVar → Option (List GT)
  | [] => some []
  | .tmp i :: l => match cOpd m (.tmp i) with
    | none => none
    | some g => match cTmps m l with
      | none => none
      | some r => some (g :: r)
  | .cell .. :: _ => none
noncomputable def cFinL (T : TT) (m : Nat) (rs : List ResultVar) (gs : Option (List GT)) : FinT :=
  match gs with
  | none => finG T m rs
  | some gs => match gs with
    | [g] => fin1 g
    | gs => finL gs
noncomputable def cFin (T : TT) (m : Nat) (rs : List ResultVar) : FinT := cFinL T m rs (cTmps m rs)
def FinSim (T : TT) (m : Nat) (rs : List ResultVar) (F : FinT) : Prop := ∀ e t h n, Rp m e t → F e h n = .bad ∨ ∃ l, resA T t h rs = some l ∧ F e h n = .ok (resV l) h n
section
variable {T : TT} {m : Nat}
theorem cTmps_ok {e : E2} {t : List AV} {h : Tr AO} (hr : Rp m e t) : ∀ {rs : List ResultVar} {gs : List GT}, cTmps m rs = some gs → resA T t h rs = some (argsF gs e)
  | [], gs, hg => by cases some_inj hg; rfl
  | .tmp i :: l, gs, hg => by
    simp only [cTmps] at hg
    split at hg
    · cases hg
    · rename_i g hx
      split at hg
      · cases hg
      · rename_i r hl
        cases some_inj hg
        have h1 : getN t i = some (g e) := cOpd_ok hx e t hr
        simp only [resA, h1, cTmps_ok hr hl]; rfl
  | .cell .. :: _, gs, hg => by cases hg
theorem cFin_ok {rs : List ResultVar} : FinSim T m rs (cFin T m rs) := by
  intro e t h n hr
  unfold cFin
  cases hgs : cTmps m rs with
  | none =>
    show finG T m rs e h n = _ ∨ ∃ l, _ ∧ finG T m rs e h n = _
    unfold finG
    rw [eList_eq hr]
    cases hq : resA T t h rs with
    | none => exact .inl rfl
    | some l => exact .inr ⟨l, rfl, rfl⟩
  | some gs =>
    have h1 := cTmps_ok (T := T) (h := h) hr hgs
    match gs, h1 with
    | [], h1 => exact .inr ⟨_, h1, rfl⟩
    | [g], h1 => exact .inr ⟨_, h1, rfl⟩
    | _ :: _ :: _, h1 => exact .inr ⟨_, h1, rfl⟩
/-- What a compiled function is to be. -/
def cOk (T : TT) (k : Nat) (e : FE) (X : CX2) : Prop := ∀ c, e.fn.body = some c → ∃ (p : Nat) (C : CF2 → QM), X = cFun (setsN p 0) C (cFin T e.fn.ntmps e.fn.results.toList) ∧ e.fn.ntmps ≤ 196 ∧ p ≤ e.fn.ntmps ∧ (∀ cf, cCode T cf e.plans k e.fn.ntmps c = some (C cf))
theorem cFun_ok {F : Nat → Option FE} {cf : CF2} {k f : Nat} {e : FE} {X : CX2} (he : F f = some e) (hX : cOk T k e X) (hb : e.fn.body ≠ none) {args : List AV} {h h' : Tr AO} {n n' : Nat} {v : AV} (hr : X cf args h n = .ok v h' n') : level T F k (cfO cf) f args h n = some (v, h', n') := by
  cases hbc : e.fn.body with
  | none => exact absurd hbc hb
  | some c =>
    obtain ⟨p, C, rfl, hm, hp, hC⟩ := hX c hbc
    unfold cFun at hr
    rcases fillE_ok p 0 args dead2 (C cf n h) with h1 | ⟨h1, h2⟩
    · rw [h1] at hr; cases hr
    · rw [h2] at hr
      simp only [level, he, hbc, appK_eq]
      have hent := enter_ok (m := e.fn.ntmps) (args := args) hm (by omega)
      have hs := cCode_ok (hC cf) n h _ _ hent
      cases hx : C cf n h (eOf args 0 dead2) with
      | bad => rw [hx] at hr; cases hr
      | nrm n1 h1' e1 =>
        rw [hx] at hr hs
        obtain ⟨t', h3, h4⟩ := hs
        have hr' : cFin T e.fn.ntmps e.fn.results.toList e1 h1' n1 = .ok v h' n' := hr
        rcases cFin_ok (T := T) (rs := e.fn.results.toList) e1 t' h1' n1 h4 with h5 | ⟨l, h5, h6⟩
        · rw [h5] at hr'; cases hr'
        · rw [h6] at hr'
          cases hr'
          rw [h3]
          simp only [h5]
      | ex i n1 h1' e1 => rw [hx] at hr; cases hr
      | ret n1 h1' e1 =>
        rw [hx] at hr hs
        obtain ⟨t', h3, h4⟩ := hs
        have hr' : cFin T e.fn.ntmps e.fn.results.toList e1 h1' n1 = .ok v h' n' := hr
        rcases cFin_ok (T := T) (rs := e.fn.results.toList) e1 t' h1' n1 h4 with h5 | ⟨l, h5, h6⟩
        · rw [h5] at hr'; cases hr'
        · rw [h6] at hr'
          cases hr'
          rw [h3]
          simp only [h5]
end
/-! ### calls -/
noncomputable def bO (b : Bool) : Option CX2 → Option CX2 → Option CX2 := Bool.rec (motive := fun _ => Option CX2 → Option CX2 → Option CX2) (fun _ y => y) (fun x _ => x) b
noncomputable def trX (t : Tr CX2) : Nat → Option CX2 := Tr.rec (motive := fun _ => Nat → Option CX2) (fun _ => none) (fun _ v _ a b k => bO (Nat.beq k 0) v (bO (Nat.beq (Nat.mod k 2) 1) (a (Nat.div k 2)) (b (Nat.sub (Nat.div k 2) 1)))) t
theorem trX_eq : ∀ (t : Tr CX2) (k : Nat), trX t k = t.get k
  | .lf, _ => rfl
  | .nd l v r, k => by
    show bO (Nat.beq k 0) v (bO (Nat.beq (Nat.mod k 2) 1) (trX l (Nat.div k 2)) (trX r (Nat.sub (Nat.div k 2) 1))) = _
    rw [Tr.get, trX_eq l, trX_eq r]
    cases Nat.beq k 0 <;> cases Nat.beq (Nat.mod k 2) 1 <;> rfl
noncomputable def cxK (x : Option CX2) : CF2 → List AV → Tr AO → Nat → CR := Option.rec (motive := fun _ => CF2 → List AV → Tr AO → Nat → CR) (fun _ _ _ _ => .bad) (fun X cf a h n => X cf a h n) x
noncomputable def ccall (C : Tr CX2) (d : Nat) : CF2 := Nat.rec (motive := fun _ => CF2) (fun _ _ _ _ => .bad) (fun _ ih f args h n => cxK (trX C f) ih args h n) d
theorem ccall_ok {T : TT} {P : Program} (hmix : P.follows .mixedOrders = true) (hT : ∀ t ti, T t = some ti → TIok P T t ti) {F : Nat → Option FE} (hF : FOk P F) {k : Nat} {C : Tr CX2}
    (hC : ∀ f X, C.get f = some X → ∃ e, F f = some e ∧ e.fn.body ≠ none ∧ cOk T k e X) : ∀ d, CfOk P (cfO (ccall C d))
  | 0 => fun f args h n v h' n' hq => by cases hq
  | d + 1 => fun f args h n v h' n' hq => by
    have ih := ccall_ok hmix hT hF hC d
    have hq' : (cxK (trX C f) (ccall C d) args h n).toO = some (v, h', n') := hq
    rw [trX_eq] at hq'
    cases hX : C.get f with
    | none => rw [hX] at hq'; cases hq'
    | some X =>
      rw [hX] at hq'
      obtain ⟨e, h1, h2, h3⟩ := hC f X hX
      have hq2 : (X (ccall C d) args h n).toO = some (v, h', n') := hq'
      cases hx : X (ccall C d) args h n with
      | bad => rw [hx] at hq2; cases hq2
      | ok v1 h1' n1 =>
        rw [hx] at hq2
        cases hq2
        exact level_ok hmix hT hF (k := k) ih f args h n _ _ _ (cFun_ok h1 h3 h2 hx)
def bodyOf (e : FE) : Code :=
  match e.fn.body with
  | some c => c
  | none => .skip
def hasBody (e : FE) : Bool :=
  match e.fn.body with
  | some _ => true
  | none => false
theorem cOk_of {T : TT} {k p : Nat} {e : FE} {ss : List SM} {C : CF2 → QM} {Fi : FinT} (hss : setsN p 0 = ss) (hm : (Nat.ble e.fn.ntmps 196 && Nat.ble p e.fn.ntmps) = true) (hC : ∀ cf, cCode T cf e.plans k e.fn.ntmps (bodyOf e) = some (C cf)) (hf : cFin T e.fn.ntmps e.fn.results.toList = Fi) :
    cOk T k e (cFun ss C Fi) := fun c hc => by
  rw [Bool.and_eq_true] at hm
  exact ⟨p, C, by rw [hss, hf], Nat.le_of_ble_eq_true hm.1, Nat.le_of_ble_eq_true hm.2, fun cf => by have := hC cf; rw [bodyOf, hc] at this; exact this⟩
theorem hasBody_ne {e : FE} (h : hasBody e = true) : e.fn.body ≠ none := fun hn => by unfold hasBody at h; rw [hn] at h; cases h
end Go.Ae
