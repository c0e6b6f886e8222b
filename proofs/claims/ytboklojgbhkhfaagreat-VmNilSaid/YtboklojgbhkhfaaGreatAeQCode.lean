/- Regions, plans and code in closed pieces, and that they answer what the evaluator answers. No condition. -/
import Derived.Test.YtboklojgbhkhfaaGreatAeQEq
set_option linter.unusedVariables false
namespace Go.Ae
/-! ### code -/
abbrev QM := Nat → Tr AO → E2 → Res
def RSim (m : Nat) (x : Res) (y : Option (Ex × St)) : Prop :=
  match x with
  | .bad => True
  | .nrm n h e => ∃ t, y = some (.normal, ⟨t, h, n⟩) ∧ Rp m e t
  | .ex i n h e => ∃ t, y = some (.exit i, ⟨t, h, n⟩) ∧ Rp m e t
  | .ret n h e => ∃ t, y = some (.ret, ⟨t, h, n⟩) ∧ Rp m e t
def CSim (m : Nat) (X : QM) (f : St → Option (Ex × St)) : Prop := ∀ n h e t, Rp m e t → RSim m (X n h e) (f ⟨t, h, n⟩)
noncomputable def cSkip : QM := fun n h e => .nrm n h e
noncomputable def resSeq (x : Res) : QM → Res := Res.rec (motive := fun _ => QM → Res) (fun _ => .bad) (fun n h e B => B n h e) (fun i n h e _ => .ex i n h e) (fun n h e _ => .ret n h e) x
noncomputable def cSeq (a b : QM) : QM := fun n h e => resSeq (a n h e) b
noncomputable def cnd1 (a b : QM) (n : Nat) (h : Tr AO) (e : E2) (c : Bool) : Res := Bool.rec (motive := fun _ => QM → QM → QM) (fun _ b => b) (fun a _ => a) c a b n h e
noncomputable def cCond (g : GT) (a b : QM) : QM := fun n h e => avBool (g e) (cnd1 a b n h e) .bad
noncomputable def resBlk (x : Res) : Nat → Res := Res.rec (motive := fun _ => Nat → Res) (fun _ => .bad) (fun n h e _ => .nrm n h e) (fun i n h e id => bres (Nat.beq i id) (.nrm n h e) (.ex i n h e)) (fun n h e _ => .ret n h e) x
noncomputable def cBlock (id : Nat) (a : QM) : QM := fun n h e => resBlk (a n h e) id
noncomputable def cLoop (k : Nat) : QM → QM := Nat.rec (motive := fun _ => QM → QM) (fun _ _ _ _ => .bad) (fun _ ih a n h e => resSeq (a n h e) (ih a)) k
noncomputable def cExit (i : Nat) : QM := fun n h e => .ex i n h e
noncomputable def cRet : QM := fun n h e => .ret n h e
section
variable {T : TT} {cf : CF} {plans : List (Nat × Plan)} {k m : Nat}
theorem cSkip_ok : CSim m cSkip (code T cf plans k .skip) := fun _ _ _ t hr => ⟨t, rfl, hr⟩
theorem cLabel_ok {l : Nat} : CSim m cSkip (code T cf plans k (.label l)) := fun _ _ _ t hr => ⟨t, rfl, hr⟩
theorem cExit_ok {i : Nat} : CSim m (cExit i) (code T cf plans k (.exit i)) := fun _ _ _ t hr => ⟨t, rfl, hr⟩
theorem cRet_ok : CSim m cRet (code T cf plans k .ret) := fun _ _ _ t hr => ⟨t, rfl, hr⟩
theorem cSeq_ok {A B : QM} {a b : Code} (hA : CSim m A (code T cf plans k a)) (hB : CSim m B (code T cf plans k b)) : CSim m (cSeq A B) (code T cf plans k (.seq a b)) := by
  intro n h e t hr
  have h1 := hA n h e t hr
  unfold cSeq
  simp only [code]
  cases hx : A n h e with
  | bad => trivial
  | nrm n' h' e' =>
    rw [hx] at h1
    obtain ⟨t', h2, h3⟩ := h1
    rw [h2]
    exact hB n' h' e' t' h3
  | ex i n' h' e' =>
    rw [hx] at h1
    obtain ⟨t', h2, h3⟩ := h1
    rw [h2]
    exact ⟨t', rfl, h3⟩
  | ret n' h' e' =>
    rw [hx] at h1
    obtain ⟨t', h2, h3⟩ := h1
    rw [h2]
    exact ⟨t', rfl, h3⟩
theorem cBlock_ok {A : QM} {a : Code} {id : Nat} (hA : CSim m A (code T cf plans k a)) : CSim m (cBlock id A) (code T cf plans k (.block id a)) := by
  intro n h e t hr
  have h1 := hA n h e t hr
  unfold cBlock
  simp only [code]
  cases hx : A n h e with
  | bad => trivial
  | nrm n' h' e' =>
    rw [hx] at h1
    obtain ⟨t', h2, h3⟩ := h1
    rw [h2]
    exact ⟨t', rfl, h3⟩
  | ex i n' h' e' =>
    rw [hx] at h1
    obtain ⟨t', h2, h3⟩ := h1
    rw [h2]
    show RSim m (bres (Nat.beq i id) (.nrm n' h' e') (.ex i n' h' e')) _
    simp only
    cases Nat.beq i id
    · exact ⟨t', rfl, h3⟩
    · exact ⟨t', rfl, h3⟩
  | ret n' h' e' =>
    rw [hx] at h1
    obtain ⟨t', h2, h3⟩ := h1
    rw [h2]
    exact ⟨t', rfl, h3⟩
theorem cLoop_ok {A : QM} {a : Code} (hA : CSim m A (code T cf plans k a)) : CSim m (cLoop k A) (code T cf plans k (.loop a)) := by
  have : ∀ j, CSim m (cLoop j A) (iter (code T cf plans k a) j) := by
    intro j
    induction j with
    | zero => intro n h e t hr; trivial
    | succ j ih =>
      intro n h e t hr
      have h1 := hA n h e t hr
      show RSim m (resSeq (A n h e) (cLoop j A)) _
      simp only [iter]
      cases hx : A n h e with
      | bad => trivial
      | nrm n' h' e' =>
        rw [hx] at h1
        obtain ⟨t', h2, h3⟩ := h1
        rw [h2]
        exact ih n' h' e' t' h3
      | ex i n' h' e' =>
        rw [hx] at h1
        obtain ⟨t', h2, h3⟩ := h1
        rw [h2]
        exact ⟨t', rfl, h3⟩
      | ret n' h' e' =>
        rw [hx] at h1
        obtain ⟨t', h2, h3⟩ := h1
        rw [h2]
        exact ⟨t', rfl, h3⟩
  intro n h e t hr
  simp only [code]
  exact this k n h e t hr
theorem cScope_ok {A : QM} {a : Code} (hA : CSim m A (code T cf plans k a)) : CSim m A (code T cf plans k (.scope a)) := by
  intro n h e t hr
  simp only [code]
  exact hA n h e t hr
theorem cCond_ok {A B : QM} {a b : Code} {c : Operand} {g : GT} (hg : GSim m g c) (hA : CSim m A (code T cf plans k a)) (hB : CSim m B (code T cf plans k b)) :
    CSim m (cCond g A B) (code T cf plans k (.cond c a b)) := by
  intro n h e t hr
  unfold cCond
  simp only [code, hg e t hr]
  rcases avBool_ok (g e) (cnd1 A B n h e) .bad with e1 | ⟨c, e0, e1⟩
  · rw [e1]; trivial
  · rw [e1, e0]
    cases c
    · exact hB n h e t hr
    · exact hA n h e t hr
end

/-! ### operations of a region -/
inductive CR where
  | bad
  | ok (v : AV) (h : Tr AO) (n : Nat)
abbrev CF2 := Nat → List AV → Tr AO → Nat → CR
def CR.toO : CR → Option (AV × Tr AO × Nat)
  | .bad => none
  | .ok v h n => some (v, h, n)
def cfO (cf : CF2) : CF := fun f a h n => (cf f a h n).toO
noncomputable def crR (x : CR) : (AV → Tr AO → Nat → Res) → Res := CR.rec (motive := fun _ => (AV → Tr AO → Nat → Res) → Res) (fun _ => .bad) (fun v h n K => K v h n) x
abbrev OM := Nat → Nat → Tr AO → E2 → Res
def QSim (m : Nat) (x : Res) (y : Option St) : Prop :=
  match x with
  | .bad => True
  | .nrm n h e => ∃ t, y = some ⟨t, h, n⟩ ∧ Rp m e t
  | _ => False
def OSim (m : Nat) (X : OM) (f : Nat → List AV → Tr AO → Nat → Option St) : Prop := ∀ r n h e t, Rp m e t → QSim m (X r n h e) (f r t h n)
def tset (t : List AV) (d : Option Nat) (v : AV) : List AV :=
  match d with
  | none => t
  | some d => t.set d v
def SSim (m : Nat) (S : SM) (d : Option Nat) : Prop := ∀ e t v, Rp m e t → ∃ e', Rp m e' (tset t d v) ∧ ∀ K, S v e K = K e'
theorem putK_eq' {β : Type} (t : List AV) (d : Option Nat) (v : AV) (K : List AV → Option β) : putK t d v K = K (tset t d v) := by
  cases d with
  | none => rfl
  | some d => exact setNK_eq t d v K
noncomputable def sNone : SM := fun _ e K => K e
noncomputable def kSet (S : SM) (K : OM) (r n : Nat) (e : E2) (v : AV) (h : Tr AO) : Res := S v e (K r n h)
noncomputable def kOp (F : FK) (S : SM) (j : Nat) (K : OM) : OM := fun r n h e => F e h (Nat.add r j) (kSet S K r n e)
noncomputable def kRet (S : SM) (K : OM) (r : Nat) (e : E2) (v : AV) (h : Tr AO) (n : Nat) : Res := S v e (K r n h)
noncomputable def argsF (gs : List GT) : E2 → List AV := List.rec (motive := fun _ => E2 → List AV) (fun _ => []) (fun g _ ih e => g e :: ih e) gs
noncomputable def kCall (cf : CF2) (f : Nat) (gs : List GT) (S : SM) (K : OM) : OM := fun r n h e => crR (cf f (argsF gs e) h n) (kRet S K r e)
noncomputable def orD (q : OR) : VK → CF2 → Nat → Tr AO → (AV → Tr AO → Nat → Res) → Res := OR.rec (motive := fun _ => VK → CF2 → Nat → Tr AO → (AV → Tr AO → Nat → Res) → Res) (fun v h K _ _ _ _ => K v h) (fun f a _ cf n h L => crR (cf f a h n) L) q
noncomputable def ogD (y : Option OR) : VK → CF2 → Nat → Tr AO → (AV → Tr AO → Nat → Res) → Res := Option.rec (motive := fun _ => VK → CF2 → Nat → Tr AO → (AV → Tr AO → Nat → Res) → Res) (fun _ _ _ _ _ => .bad) (fun q K cf n h L => orD q K cf n h L) y
/-- Any operation, over all temporaries. -/
noncomputable def kAny (cf : CF2) (T : TT) (m : Nat) (o : Op) (S : SM) (j : Nat) (K : OM) : OM := fun r n h e => ogD (xop T o (eList e 0 m) h (Nat.add r j)) (kSet S K r n e) cf n h (kRet S K r e)
/-- A call of a value that is a function. -/
noncomputable def kCallV (cf : CF2) (T : TT) (g : GT) (gs : List GT) (S : SM) (K : OM) : OM := fun r n h e => ogD (fCallV [g e] (.tmp 0) (argsF gs e)) (kSet S K r n e) cf n h (kRet S K r e)
noncomputable def kgT (x y : Res) (c : Bool) : Res := bres c x y
noncomputable def kgF (x y : Res) (c : Bool) : Res := bres c y x
noncomputable def kGT (g : GT) (S : SM) (K X : OM) : OM := fun r n h e => avBool (g e) (kgT (X r n h e) (S (.tup []) e (K r n h))) (S (.tup []) e (K r n h))
noncomputable def kGF (g : GT) (S : SM) (K X : OM) : OM := fun r n h e => avBool (g e) (kgF (X r n h e) (S (.tup []) e (K r n h))) (S (.tup []) e (K r n h))
noncomputable def kEnd : OM := fun _ n h e => .nrm n h e
noncomputable def kReg1 (O : OM) (n : Nat) (h : Tr AO) (e : E2) (n' : Nat) : Res := O n n' h e
noncomputable def kReg (len : Nat) (O : OM) : QM := fun n h e => forceNR (Nat.add n len) (kReg1 O n h e)
def wants (v : AV) (b : Bool) : Bool :=
  match v with
  | .bool c => match b, c with
    | true, true => true
    | false, false => true
    | _, _ => false
  | _ => false
theorem want_eq {ops : List Oper} {t : List AV} {i d : Nat} {b : Bool} {oi : Oper} {v : AV} (hi : ops[i]? = some oi) (hd : oi.dst = some d) (hv : getN t d = some v) : want ops t (some (i, b)) = wants v b := by
  simp only [want, hi, hd, hv, wants]
  cases v <;> rfl
theorem getN_opt : ∀ (l : List AV) (n : Nat), getN l n = l[n]?
  | [], _ => rfl
  | _ :: _, 0 => rfl
  | _ :: l, n + 1 => getN_opt l n
section
variable {T : TT} {cf : CF2} {m : Nat}
theorem kEnd_ok : OSim m kEnd fun _ t h n => some ⟨t, h, n⟩ := fun _ _ _ _ t hr => ⟨t, rfl, hr⟩
theorem kPut_ok {S : SM} {d : Option Nat} (hS : SSim m S d) {K : OM} {f : Nat → List AV → Tr AO → Nat → Option St} (hK : OSim m K f) {r : Nat} {e : E2} {t : List AV} {v : AV} {h : Tr AO} {n : Nat} (hr : Rp m e t) :
    QSim m (S v e (K r n h)) (putK t d v fun t => f r t h n) := by
  obtain ⟨e', h1, h2⟩ := hS e t v hr
  rw [h2, putK_eq']
  exact hK r n h e' _ h1
/-- What an operation that a region holds is to be, ahead of its guard. -/
def XSim (T : TT) (cf : CF2) (m : Nat) (X : OM) (o : Oper) (j : Nat) (f : Nat → List AV → Tr AO → Nat → Option St) : Prop := ∀ r n h e t, Rp m e t → QSim m (X r n h e) (match xop T o.op t h (Nat.add r j) with
  | none => none
  | some (.val v h) => putK t o.dst v fun t => f r t h n
  | some (.call g args) => match cfO cf g args h n with
    | none => none
    | some (v, h, n) => putK t o.dst v fun t => f r t h n)
theorem kOp_ok {F : FK} {S : SM} {j : Nat} {K : OM} {o : Oper} {f : Nat → List AV → Tr AO → Nat → Option St} (hF : FSim T m F o.op) (hS : SSim m S o.dst) (hK : OSim m K f) : XSim T cf m (kOp F S j K) o j f := by
  intro r n h e t hr
  unfold kOp
  rcases hF e t h (Nat.add r j) (kSet S K r n e) hr with h1 | ⟨v, h', h1, h2⟩
  · rw [h1]; trivial
  · rw [h1, h2]; exact kPut_ok hS hK hr
theorem kRet_ok {S : SM} {d : Option Nat} (hS : SSim m S d) {K : OM} {f : Nat → List AV → Tr AO → Nat → Option St} (hK : OSim m K f) {r : Nat} {e : E2} {t : List AV} (hr : Rp m e t) (q : CR) :
    QSim m (crR q (kRet S K r e)) (match q.toO with
      | none => none
      | some (v, h, n) => putK t d v fun t => f r t h n) := by
  cases q with
  | bad => trivial
  | ok v h n => exact kPut_ok hS hK hr
theorem ogD_ok {S : SM} {d : Option Nat} (hS : SSim m S d) {K : OM} {f : Nat → List AV → Tr AO → Nat → Option St} (hK : OSim m K f) {r n : Nat} {h : Tr AO} {e : E2} {t : List AV} (hr : Rp m e t) (y : Option OR) :
    QSim m (ogD y (kSet S K r n e) cf n h (kRet S K r e)) (match y with
      | none => none
      | some (.val v h) => putK t d v fun t => f r t h n
      | some (.call g args) => match cfO cf g args h n with
        | none => none
        | some (v, h, n) => putK t d v fun t => f r t h n) := by
  cases y with
  | none => trivial
  | some q =>
    cases q with
    | val v h' => exact kPut_ok hS hK hr
    | call g args => exact kRet_ok hS hK hr (cf g args h n)
theorem kAny_ok {S : SM} {j : Nat} {K : OM} {o : Oper} {f : Nat → List AV → Tr AO → Nat → Option St} (hS : SSim m S o.dst) (hK : OSim m K f) : XSim T cf m (kAny cf T m o.op S j K) o j f := by
  intro r n h e t hr
  unfold kAny
  rw [eList_eq hr]
  exact ogD_ok hS hK hr _
def ASim (m : Nat) : List GT → List Operand → Prop
  | [], [] => True
  | g :: gs, x :: l => GSim m g x ∧ ASim m gs l
  | _, _ => False
theorem argsF_ok {e : E2} {t : List AV} (hr : Rp m e t) : ∀ {gs : List GT} {l : List Operand}, ASim m gs l → opds t l = some (argsF gs e)
  | [], [], _ => rfl
  | g :: gs, x :: l, ⟨h1, h2⟩ => by
    simp only [opds, h1 e t hr, argsF_ok hr h2]; rfl
  | [], _ :: _, h => h.elim
  | _ :: _, [], h => h.elim
theorem kCall_ok {S : SM} {j : Nat} {K : OM} {o : Oper} {f : Nat → List AV → Tr AO → Nat → Option St} {c : Call} {g : Nat} {gs : List GT} (ho : o.op = .call c) (hc : c.callee = .value (.func g)) (ha : ASim m gs c.args.toList) (hS : SSim m S o.dst) (hK : OSim m K f) : XSim T cf m (kCall cf g gs S K) o j f := by
  intro r n h e t hr
  unfold kCall
  rw [ho]
  simp only [xop, xcall, argsF_ok hr ha, hc, opd, List.nil_append, List.append_nil]
  exact kRet_ok hS hK hr (cf g (argsF gs e) h n)
theorem kCallV_ok {S : SM} {j : Nat} {K : OM} {o : Oper} {f : Nat → List AV → Tr AO → Nat → Option St} {c : Call} {x : Operand} {g : GT} {gs : List GT} (ho : o.op = .call c) (hc : c.callee = .value x) (hg : GSim m g x) (ha : ASim m gs c.args.toList) (hS : SSim m S o.dst) (hK : OSim m K f) : XSim T cf m (kCallV cf T g gs S K) o j f := by
  intro r n h e t hr
  unfold kCallV
  rw [ho]
  have : xop T (.call c) t h (Nat.add r j) = fCallV [g e] (.tmp 0) (argsF gs e) := by
    simp only [xop, xcall, argsF_ok hr ha, hc, hg e t hr, fCallV, fOpd_eq]; rfl
  rw [this]
  exact ogD_ok hS hK hr _
theorem step_none {X : OM} {j : Nat} {o : Oper} {ops : List Oper} {f : Nat → List AV → Tr AO → Nat → Option St} (hX : XSim T cf m X o j f) (hg : o.guard = none) :
    OSim m X fun r t h n => step T (cfO cf) ops o (Nat.add r j) t h n fun t h n => f r t h n := by
  intro r n h e t hr
  unfold step
  rw [hg]
  exact hX r n h e t hr
theorem step_guard {S : SM} {j : Nat} {K X : OM} {o : Oper} {ops : List Oper} {f : Nat → List AV → Tr AO → Nat → Option St} {i d : Nat} {b : Bool} {oi : Oper} {g : GT}
    (hX : XSim T cf m X o j f) (hS : SSim m S o.dst) (hK : OSim m K f) (hg : o.guard = some (i, b)) (hi : ops[i]? = some oi) (hd : oi.dst = some d) (hgd : GSim m g (.tmp d)) :
    OSim m (match b with | true => kGT g S K X | false => kGF g S K X) fun r t h n => step T (cfO cf) ops o (Nat.add r j) t h n fun t h n => f r t h n := by
  intro r n h e t hr
  have h1 : getN t d = some (g e) := hgd e t hr
  have run : want ops t o.guard = true → QSim m (X r n h e) (step T (cfO cf) ops o (Nat.add r j) t h n fun t h n => f r t h n) := by
    intro hw
    unfold step
    rw [hw]
    exact hX r n h e t hr
  have skip : want ops t o.guard = false → QSim m (S (.tup []) e (K r n h)) (step T (cfO cf) ops o (Nat.add r j) t h n fun t h n => f r t h n) := by
    intro hw
    unfold step
    rw [hw]
    exact kPut_ok hS hK hr
  have hw : want ops t o.guard = wants (g e) b := by rw [hg]; exact want_eq hi hd h1
  cases b
  · show QSim m (avBool (g e) (kgF (X r n h e) (S (.tup []) e (K r n h))) (S (.tup []) e (K r n h))) _
    generalize g e = v at hw ⊢
    cases v <;> try exact skip hw
    rename_i c
    cases c
    · exact run hw
    · exact skip hw
  · show QSim m (avBool (g e) (kgT (X r n h e) (S (.tup []) e (K r n h))) (S (.tup []) e (K r n h))) _
    generalize g e = v at hw ⊢
    cases v <;> try exact skip hw
    rename_i c
    cases c
    · exact skip hw
    · exact run hw
end

/-! ### plans -/
abbrev IDS := List (Nat × List Nat)
abbrev HS := List (List Nat × Tr AO)
abbrev PM := Nat → Nat → Tr AO → Tr AO → IDS → HS → E2 → Res
/-- What was looked at before its turn is as it was. -/
def okP (h0 : Tr AO) (p : List Nat × Tr AO) (q : Nat × List Nat) : Prop := meets p.1 q.2 = true ∨ aoBeq (p.2.get q.1) (h0.get q.1) = true
theorem sameAt_iff (h0 h : Tr AO) (on : List Nat) : ∀ ids, sameAt h0 h on ids = true ↔ ∀ q ∈ ids, okP h0 (on, h) q
  | [] => by simp [sameAt]
  | (i, c) :: l => by
    have ih := sameAt_iff h0 h on l
    simp only [sameAt, List.mem_cons, forall_eq_or_imp, okP]
    cases hm : meets on c
    · cases ha : aoBeq (h.get i) (h0.get i)
      · simp
      · simp only [ih, okP]; simp
    · simp only [ih, okP]; simp
theorem stable_iff (ids : IDS) (h0 : Tr AO) : ∀ hs, stable ids h0 hs = true ↔ ∀ p ∈ hs, ∀ q ∈ ids, okP h0 p q
  | [] => by simp [stable]
  | (on, h) :: l => by
    have ih := stable_iff ids h0 l
    simp only [stable, List.mem_cons, forall_eq_or_imp]
    cases hm : sameAt h0 h on ids
    · simp only [Bool.false_eq_true, false_iff]
      intro hh
      have := (sameAt_iff h0 h on ids).2 hh.1
      rw [hm] at this; cases this
    · simp only [ih]
      exact ⟨fun x => ⟨(sameAt_iff h0 h on ids).1 hm, x⟩, fun x => x.2⟩
noncomputable def bor (a : Bool) : Bool → Bool := Bool.rec (motive := fun _ => Bool → Bool) (fun b => b) (fun _ => true) a
theorem bor_eq (a b : Bool) : bor a b = (a || b) := by cases a <;> rfl
noncomputable def hasF (j : Nat) (l : List Nat) : Bool := List.rec (motive := fun _ => Bool) false (fun i _ ih => bor (Nat.beq i j) ih) l
theorem hasF_eq (j : Nat) : ∀ l, hasF j l = hasN j l
  | [] => rfl
  | i :: l => by
    show bor (Nat.beq i j) (hasF j l) = _
    rw [bor_eq, hasF_eq j l, hasN]
    cases Nat.beq i j <;> rfl
noncomputable def meetF (on l : List Nat) : Bool := List.rec (motive := fun _ => Bool) false (fun j _ ih => bor (hasF j on) ih) l
theorem meetF_eq (on : List Nat) : ∀ l, meetF on l = meets on l
  | [] => rfl
  | i :: l => by
    show bor (hasF i on) (meetF on l) = _
    rw [bor_eq, hasF_eq, meetF_eq on l, meets]
    cases hasN i on <;> rfl
noncomputable def st2 (h0 : Tr AO) (p : List Nat × Tr AO) (q : Nat × List Nat) : Bool := bor (meetF p.1 q.2) (aoEqF (fTr p.2 q.1) (fTr h0 q.1))
noncomputable def st1 (h0 : Tr AO) (ids : IDS) (p : List Nat × Tr AO) : Bool := List.rec (motive := fun _ => Bool) true (fun q _ ih => bnd (st2 h0 p q) ih) ids
noncomputable def stF0 (h0 : Tr AO) (ids : IDS) (hs : HS) : Bool := List.rec (motive := fun _ => Bool) true (fun p _ ih => bnd (st1 h0 ids p) ih) hs
noncomputable def stbF (h0 : Tr AO) (hs : HS) (ids : IDS) : Bool := List.rec (motive := fun _ => Bool) true (fun q l _ => stF0 h0 (q :: l) hs) ids
theorem st2_ok {h0 : Tr AO} {p : List Nat × Tr AO} {q : Nat × List Nat} (h : st2 h0 p q = true) : okP h0 p q := by
  unfold st2 at h
  rw [bor_eq, Bool.or_eq_true] at h
  rcases h with h | h
  · exact .inl (by rw [← meetF_eq]; exact h)
  · refine .inr ?_
    have := aoEqF_ok _ _ h
    rwa [fTr_eq, fTr_eq] at this
theorem st1_ok {h0 : Tr AO} {p : List Nat × Tr AO} : ∀ {ids : IDS}, st1 h0 ids p = true → ∀ q ∈ ids, okP h0 p q
  | [], _, q, hq => by cases hq
  | a :: l, h, q, hq => by
    have h' : bnd (st2 h0 p a) (st1 h0 l p) = true := h
    rw [bnd_eq, Bool.and_eq_true] at h'
    rcases List.mem_cons.1 hq with rfl | hq
    · exact st2_ok h'.1
    · exact st1_ok h'.2 q hq
theorem stF0_ok {h0 : Tr AO} {ids : IDS} : ∀ {hs : HS}, stF0 h0 ids hs = true → ∀ p ∈ hs, ∀ q ∈ ids, okP h0 p q
  | [], _, p, hp => by cases hp
  | a :: l, h, p, hp => by
    have h' : bnd (st1 h0 ids a) (stF0 h0 ids l) = true := h
    rw [bnd_eq, Bool.and_eq_true] at h'
    rcases List.mem_cons.1 hp with rfl | hp
    · exact st1_ok h'.1
    · exact stF0_ok h'.2 p hp
theorem stbF_ok {h0 : Tr AO} {ids : IDS} {hs : HS} (h : stbF h0 hs ids = true) : ∀ p ∈ hs, ∀ q ∈ ids, okP h0 p q := by
  cases ids with
  | nil => intro p _ q hq; cases hq
  | cons a l => exact stF0_ok (ids := a :: l) h
abbrev PR := Option (St × IDS × HS)
def PQ (m : Nat) (h0 : Tr AO) (ids0 : IDS) (hs0 : HS) (x : Res) (y : PR) : Prop :=
  match x with
  | .bad => True
  | .nrm n h e => ∃ t ids hs, y = some (⟨t, h, n⟩, ids, hs) ∧ Rp m e t ∧ ∀ p, p ∈ hs ∨ p ∈ hs0 → ∀ q, q ∈ ids ∨ q ∈ ids0 → okP h0 p q
  | _ => False
def PSm (m : Nat) (X : PM) (f : Nat → Tr AO → List AV → Tr AO → Nat → PR) : Prop := ∀ r n h0 h ids0 hs0 e t, Rp m e t → PQ m h0 ids0 hs0 (X r n h0 h ids0 hs0 e) (f r h0 t h n)
noncomputable def pEnd : PM := fun _ n h0 h ids hs e => bres (stbF h0 hs ids) (.nrm n h e) .bad
abbrev RD := E2 → IDS → (IDS → Res) → Res
noncomputable def rdN : RD := fun _ ids K => K ids
noncomputable def rdP1 (c : List Nat) (ids : IDS) (K : IDS → Res) (i _o : Nat) : Res := K ((i, c) :: ids)
noncomputable def rdP (g : GT) (c : List Nat) : RD := fun e ids K => avPtr (g e) (rdP1 c ids K) (K ids)
noncomputable def rdM1 (c : List Nat) (ids : IDS) (K : IDS → Res) (i : Nat) : Res := K ((i, c) :: ids)
noncomputable def rdM (g : GT) (c : List Nat) : RD := fun e ids K => avMap (g e) (rdM1 c ids K) (K ids)
noncomputable def pF3 (S : SM) (K : PM) (r n : Nat) (h0 h : Tr AO) (hs : HS) (e : E2) (v : AV) (ids : IDS) : Res := S v e (K r n h0 h ids hs)
noncomputable def pF2 (R : RD) (S : SM) (K : PM) (r n : Nat) (h0 h : Tr AO) (ids : IDS) (hs : HS) (e : E2) (v : AV) (_ : Tr AO) : Res := R e ids (pF3 S K r n h0 h hs e v)
noncomputable def pFirst (F : FK) (S : SM) (j : Nat) (R : RD) (K : PM) : PM := fun r n h0 h ids hs e => F e h0 (Nat.add r j) (pF2 R S K r n h0 h ids hs e)
noncomputable def pGT (g : GT) (S : SM) (K X : PM) : PM := fun r n h0 h ids hs e => avBool (g e) (kgT (X r n h0 h ids hs e) (S (.tup []) e (K r n h0 h ids hs))) (S (.tup []) e (K r n h0 h ids hs))
noncomputable def pGF (g : GT) (S : SM) (K X : PM) : PM := fun r n h0 h ids hs e => avBool (g e) (kgF (X r n h0 h ids hs e) (S (.tup []) e (K r n h0 h ids hs))) (S (.tup []) e (K r n h0 h ids hs))
/-- Behind an operation that was taken in its turn: the store is kept in mind. -/
noncomputable def pMem (on : List Nat) (K : PM) (h0 : Tr AO) (ids : IDS) (hs : HS) : OM := fun r n h e => K r n h0 h ids ((on, h) :: hs) e
/-- An operation that is taken in its turn: X is made of what follows. -/
noncomputable def pOnly (X : OM → OM) (on : List Nat) (K : PM) : PM := fun r n h0 h ids hs e => X (pMem on K h0 ids hs) r n h e
noncomputable def kDr1 (P : PM) (n : Nat) (h : Tr AO) (e : E2) (n' : Nat) : Res := P n n' h h [] [] e
noncomputable def kDraw (len : Nat) (P : PM) : QM := fun n h e => forceNR (Nat.add n len) (kDr1 P n h e)
def RdSim (m : Nat) (R : RD) (c : List Nat) (o : Op) : Prop := ∀ e t ids K, Rp m e t → R e ids K = K (covs c (readsOf t o) ++ ids)
section
variable {T : TT} {cf : CF2} {m : Nat} {ops : List Oper}
theorem pEnd_ok {on : List Nat} : PSm m pEnd fun r h0 t h n => xplan T (cfO cf) ops r h0 .done on t h n := by
  intro r n h0 h ids hs e t hr
  unfold pEnd
  cases hb : stbF h0 hs ids with
  | false => trivial
  | true =>
    refine ⟨t, [], [], rfl, hr, ?_⟩
    intro p hp q hq
    simp only [List.not_mem_nil, false_or] at hp hq
    exact stbF_ok hb p hp q hq
theorem pPut_ok {S : SM} {d : Option Nat} (hS : SSim m S d) {K : PM} {f : Nat → Tr AO → List AV → Tr AO → Nat → PR} (hK : PSm m K f) {r n : Nat} {h0 h : Tr AO} {ids : IDS} {hs : HS} {e : E2} {t : List AV} {v : AV} (hr : Rp m e t) :
    PQ m h0 ids hs (S v e (K r n h0 h ids hs)) (putK t d v fun t => f r h0 t h n) := by
  obtain ⟨e', h1, h2⟩ := hS e t v hr
  rw [h2, putK_eq']
  exact hK r n h0 h ids hs e' _ h1
theorem pFirst_run {F : FK} {S : SM} {R : RD} {K : PM} {i : Nat} {c on : List Nat} {p : Plan} {o : Oper} (hF : FSim T m F o.op) (hS : SSim m S o.dst) (hR : RdSim m R c o.op) (hK : PSm m K fun r h0 t h n => xplan T (cfO cf) ops r h0 p on t h n)
    {r n : Nat} {h0 h : Tr AO} {ids : IDS} {hs : HS} {e : E2} {t : List AV} (hr : Rp m e t) :
    PQ m h0 ids hs (pFirst F S i R K r n h0 h ids hs e) (match xop T o.op t h0 (Nat.add r i) with
      | some (.val v _) => match putK t o.dst v fun t => xplan T (cfO cf) ops r h0 p on t h n with
        | some (s, ids, hs) => some (s, covs c (readsOf t o.op) ++ ids, hs)
        | none => none
      | _ => none) := by
  unfold pFirst
  rcases hF e t h0 (Nat.add r i) (pF2 R S K r n h0 h ids hs e) hr with h1 | ⟨v, h', h1, h2⟩
  · rw [h1]; trivial
  · rw [h1, h2]
    unfold pF2
    rw [hR e t ids _ hr]
    unfold pF3
    have h3 := pPut_ok (v := v) (h := h) (h0 := h0) (r := r) (n := n) (ids := covs c (readsOf t o.op) ++ ids) (hs := hs) hS hK hr
    simp only
    cases hx : S v e (K r n h0 h (covs c (readsOf t o.op) ++ ids) hs) with
    | bad => trivial
    | nrm n' h'' e' =>
      rw [hx] at h3
      obtain ⟨t', ids', hs', h4, h5, h6⟩ := h3
      simp only [h4]
      refine ⟨t', _, hs', rfl, h5, ?_⟩
      intro p hp q hq
      refine h6 p hp q ?_
      rcases hq with hq | hq
      · rcases List.mem_append.1 hq with hq | hq
        · exact .inr (List.mem_append.2 (.inl hq))
        · exact .inl hq
      · exact .inr (List.mem_append.2 (.inr hq))
    | ex a b c d => rw [hx] at h3; exact h3.elim
    | ret a b c => rw [hx] at h3; exact h3.elim
theorem nthO_opt : ∀ (l : List Oper) (n : Nat), nthO l n = l[n]?
  | [], _ => rfl
  | _ :: _, 0 => rfl
  | _ :: l, n + 1 => nthO_opt l n
theorem pFirst_ok {F : FK} {S : SM} {R : RD} {K : PM} {i : Nat} {c on : List Nat} {p : Plan} {o : Oper} (hi : nthO ops i = some o) (hq : quiet o.op = true) (hg : o.guard = none) (hF : FSim T m F o.op) (hS : SSim m S o.dst) (hR : RdSim m R c o.op)
    (hK : PSm m K fun r h0 t h n => xplan T (cfO cf) ops r h0 p on t h n) : PSm m (pFirst F S i R K) fun r h0 t h n => xplan T (cfO cf) ops r h0 (.first i c p) on t h n := by
  intro r n h0 h ids hs e t hr
  simp only [xplan, hi, hg, want, hq]
  exact pFirst_run hF hS hR hK hr
theorem pFirst_g {F : FK} {S : SM} {R : RD} {K : PM} {i : Nat} {c on : List Nat} {p : Plan} {o oi : Oper} {gi d : Nat} {b : Bool} {g : GT} (hi : nthO ops i = some o) (hq : quiet o.op = true) (hg : o.guard = some (gi, b)) (hgi : ops[gi]? = some oi) (hd : oi.dst = some d) (hgd : GSim m g (.tmp d))
    (hF : FSim T m F o.op) (hS : SSim m S o.dst) (hR : RdSim m R c o.op) (hK : PSm m K fun r h0 t h n => xplan T (cfO cf) ops r h0 p on t h n) :
    PSm m (match b with | true => pGT g S K (pFirst F S i R K) | false => pGF g S K (pFirst F S i R K)) fun r h0 t h n => xplan T (cfO cf) ops r h0 (.first i c p) on t h n := by
  intro r n h0 h ids hs e t hr
  have h1 : getN t d = some (g e) := hgd e t hr
  have hw : want ops t o.guard = wants (g e) b := by rw [hg]; exact want_eq hgi hd h1
  have run : wants (g e) b = true → PQ m h0 ids hs (pFirst F S i R K r n h0 h ids hs e) (xplan T (cfO cf) ops r h0 (.first i c p) on t h n) := by
    intro hw'
    simp only [xplan, hi, hw, hw', hq]
    exact pFirst_run hF hS hR hK hr
  have skip : wants (g e) b = false → PQ m h0 ids hs (S (.tup []) e (K r n h0 h ids hs)) (xplan T (cfO cf) ops r h0 (.first i c p) on t h n) := by
    intro hw'
    simp only [xplan, hi, hw, hw']
    exact pPut_ok hS hK hr
  cases b
  · show PQ m h0 ids hs (avBool (g e) (kgF _ _) _) _
    generalize g e = v at run skip ⊢
    cases v <;> try exact skip rfl
    rename_i c'
    cases c'
    · exact run rfl
    · exact skip rfl
  · show PQ m h0 ids hs (avBool (g e) (kgT _ _) _) _
    generalize g e = v at run skip ⊢
    cases v <;> try exact skip rfl
    rename_i c'
    cases c'
    · exact skip rfl
    · exact run rfl
/-- What is made of any that follows. -/
def HSim (T : TT) (cf : CF2) (m : Nat) (ops : List Oper) (X : OM → OM) (o : Oper) (i : Nat) : Prop := ∀ (on : List Nat) (p : Plan) (h0 : Tr AO) (ids : IDS) (hs : HS) (K : PM) (f : Nat → List AV → Tr AO → Nat → PR),
  (∀ r n h e t, Rp m e t → PQ m h0 ids ((on, h) :: hs) (K r n h0 h ids ((on, h) :: hs) e) (f r t h n)) →
  ∀ r n h e t, Rp m e t → PQ m h0 ids hs (X (pMem on K h0 ids hs) r n h e) (step T (cfO cf) ops o (Nat.add r i) t h n fun t h n => match f r t h n with
    | some (s, ids, hs) => some (s, ids, (on, h) :: hs)
    | none => none)
theorem pOnly_ok {X : OM → OM} {K : PM} {i : Nat} {on : List Nat} {p : Plan} {o : Oper} (hi : nthO ops i = some o) (hX : HSim T cf m ops X o i) (hK : PSm m K fun r h0 t h n => xplan T (cfO cf) ops r h0 p (i :: on) t h n) :
    PSm m (pOnly X (i :: on) K) fun r h0 t h n => xplan T (cfO cf) ops r h0 (.only i p) on t h n := by
  intro r n h0 h ids hs e t hr
  simp only [xplan, hi]
  exact hX (i :: on) p h0 ids hs K (fun r t h n => xplan T (cfO cf) ops r h0 p (i :: on) t h n) (fun r n h e t hr => hK r n h0 h ids ((i :: on, h) :: hs) e t hr) r n h e t hr
theorem pMem_ok {on : List Nat} {h0 : Tr AO} {ids : IDS} {hs : HS} {K : PM} {f : Nat → List AV → Tr AO → Nat → PR} (hK : ∀ r n h e t, Rp m e t → PQ m h0 ids ((on, h) :: hs) (K r n h0 h ids ((on, h) :: hs) e) (f r t h n))
    {S : SM} {d : Option Nat} (hS : SSim m S d) {r n : Nat} {h : Tr AO} {e : E2} {t : List AV} {v : AV} (hr : Rp m e t) :
    PQ m h0 ids hs (S v e (pMem on K h0 ids hs r n h)) (putK t d v fun t => match f r t h n with
      | some (s, ids, hs) => some (s, ids, (on, h) :: hs)
      | none => none) := by
  obtain ⟨e', h1, h2⟩ := hS e t v hr
  rw [h2, putK_eq']
  have h3 := hK r n h e' _ h1
  unfold pMem
  cases hx : K r n h0 h ids ((on, h) :: hs) e' with
  | bad => trivial
  | nrm n' h' e'' =>
    rw [hx] at h3
    obtain ⟨t', ids', hs', h4, h5, h6⟩ := h3
    simp only [h4]
    refine ⟨t', ids', _, rfl, h5, ?_⟩
    intro p hp q hq
    refine h6 p ?_ q hq
    rcases hp with hp | hp
    · rcases List.mem_cons.1 hp with rfl | hp
      · exact .inr (List.mem_cons.2 (.inl rfl))
      · exact .inl hp
    · exact .inr (List.mem_cons.2 (.inr hp))
  | ex a b c d => rw [hx] at h3; exact h3.elim
  | ret a b c => rw [hx] at h3; exact h3.elim
/-- The same for an operation ahead of its guard. -/
def HXSim (T : TT) (cf : CF2) (m : Nat) (X : OM → OM) (o : Oper) (i : Nat) : Prop := ∀ (on : List Nat) (h0 : Tr AO) (ids : IDS) (hs : HS) (K : PM) (f : Nat → List AV → Tr AO → Nat → PR),
  (∀ r n h e t, Rp m e t → PQ m h0 ids ((on, h) :: hs) (K r n h0 h ids ((on, h) :: hs) e) (f r t h n)) →
  ∀ r n h e t, Rp m e t → PQ m h0 ids hs (X (pMem on K h0 ids hs) r n h e) (match xop T o.op t h (Nat.add r i) with
    | none => none
    | some (.val v h) => putK t o.dst v fun t => match f r t h n with
      | some (s, ids, hs) => some (s, ids, (on, h) :: hs)
      | none => none
    | some (.call g args) => match cfO cf g args h n with
      | none => none
      | some (v, h, n) => putK t o.dst v fun t => match f r t h n with
        | some (s, ids, hs) => some (s, ids, (on, h) :: hs)
        | none => none)
theorem h_op {F : FK} {S : SM} {j : Nat} {o : Oper} (hF : FSim T m F o.op) (hS : SSim m S o.dst) : HXSim T cf m (kOp F S j) o j := by
  intro on h0 ids hs K f hK r n h e t hr
  unfold kOp
  rcases hF e t h (Nat.add r j) (kSet S (pMem on K h0 ids hs) r n e) hr with h1 | ⟨v, h', h1, h2⟩
  · rw [h1]; trivial
  · rw [h1, h2]; exact pMem_ok hK hS hr
theorem h_ret {S : SM} {d : Option Nat} (hS : SSim m S d) {on : List Nat} {h0 : Tr AO} {ids : IDS} {hs : HS} {K : PM} {f : Nat → List AV → Tr AO → Nat → PR} (hK : ∀ r n h e t, Rp m e t → PQ m h0 ids ((on, h) :: hs) (K r n h0 h ids ((on, h) :: hs) e) (f r t h n))
    {r : Nat} {e : E2} {t : List AV} (hr : Rp m e t) (q : CR) : PQ m h0 ids hs (crR q (kRet S (pMem on K h0 ids hs) r e)) (match q.toO with
      | none => none
      | some (v, h, n) => putK t d v fun t => match f r t h n with
        | some (s, ids, hs) => some (s, ids, (on, h) :: hs)
        | none => none) := by
  cases q with
  | bad => trivial
  | ok v h n => exact pMem_ok hK hS hr
theorem h_og {S : SM} {d : Option Nat} (hS : SSim m S d) {on : List Nat} {h0 : Tr AO} {ids : IDS} {hs : HS} {K : PM} {f : Nat → List AV → Tr AO → Nat → PR} (hK : ∀ r n h e t, Rp m e t → PQ m h0 ids ((on, h) :: hs) (K r n h0 h ids ((on, h) :: hs) e) (f r t h n))
    {r n : Nat} {h : Tr AO} {e : E2} {t : List AV} (hr : Rp m e t) (y : Option OR) : PQ m h0 ids hs (ogD y (kSet S (pMem on K h0 ids hs) r n e) cf n h (kRet S (pMem on K h0 ids hs) r e)) (match y with
      | none => none
      | some (.val v h) => putK t d v fun t => match f r t h n with
        | some (s, ids, hs) => some (s, ids, (on, h) :: hs)
        | none => none
      | some (.call g args) => match cfO cf g args h n with
        | none => none
        | some (v, h, n) => putK t d v fun t => match f r t h n with
          | some (s, ids, hs) => some (s, ids, (on, h) :: hs)
          | none => none) := by
  cases y with
  | none => trivial
  | some q =>
    cases q with
    | val v h' => exact pMem_ok hK hS hr
    | call g args => exact h_ret hS hK hr (cf g args h n)
theorem h_any {S : SM} {j : Nat} {o : Oper} (hS : SSim m S o.dst) : HXSim T cf m (kAny cf T m o.op S j) o j := by
  intro on h0 ids hs K f hK r n h e t hr
  unfold kAny
  rw [eList_eq hr]
  exact h_og hS hK hr _
theorem h_call {S : SM} {j : Nat} {o : Oper} {c : Call} {g : Nat} {gs : List GT} (ho : o.op = .call c) (hc : c.callee = .value (.func g)) (ha : ASim m gs c.args.toList) (hS : SSim m S o.dst) : HXSim T cf m (kCall cf g gs S) o j := by
  intro on h0 ids hs K f hK r n h e t hr
  unfold kCall
  rw [ho]
  simp only [xop, xcall, argsF_ok hr ha, hc, opd, List.nil_append, List.append_nil]
  exact h_ret hS hK hr (cf g (argsF gs e) h n)
theorem h_callV {S : SM} {j : Nat} {o : Oper} {c : Call} {x : Operand} {g : GT} {gs : List GT} (ho : o.op = .call c) (hc : c.callee = .value x) (hg : GSim m g x) (ha : ASim m gs c.args.toList) (hS : SSim m S o.dst) : HXSim T cf m (kCallV cf T g gs S) o j := by
  intro on h0 ids hs K f hK r n h e t hr
  unfold kCallV
  rw [ho]
  have : xop T (.call c) t h (Nat.add r j) = fCallV [g e] (.tmp 0) (argsF gs e) := by
    simp only [xop, xcall, argsF_ok hr ha, hc, hg e t hr, fCallV, fOpd_eq]; rfl
  rw [this]
  exact h_og hS hK hr _
theorem h_none {X : OM → OM} {o : Oper} {i : Nat} (hX : HXSim T cf m X o i) (hg : o.guard = none) : HSim T cf m ops X o i := by
  intro on p h0 ids hs K f hK r n h e t hr
  unfold step
  rw [hg]
  exact hX on h0 ids hs K f hK r n h e t hr
noncomputable def hGT (g : GT) (S : SM) (X : OM → OM) : OM → OM := fun K => kGT g S K (X K)
noncomputable def hGF (g : GT) (S : SM) (X : OM → OM) : OM → OM := fun K => kGF g S K (X K)
theorem h_guard {X : OM → OM} {S : SM} {o oi : Oper} {i gi d : Nat} {b : Bool} {g : GT} (hX : HXSim T cf m X o i) (hS : SSim m S o.dst) (hg : o.guard = some (gi, b)) (hi : ops[gi]? = some oi) (hd : oi.dst = some d) (hgd : GSim m g (.tmp d)) :
    HSim T cf m ops (match b with | true => hGT g S X | false => hGF g S X) o i := by
  intro on p h0 ids hs K f hK r n h e t hr
  have h1 : getN t d = some (g e) := hgd e t hr
  have hw : want ops t o.guard = wants (g e) b := by rw [hg]; exact want_eq hi hd h1
  have run : wants (g e) b = true → PQ m h0 ids hs (X (pMem on K h0 ids hs) r n h e) (step T (cfO cf) ops o (Nat.add r i) t h n fun t h n => match f r t h n with
      | some (s, ids, hs) => some (s, ids, (on, h) :: hs)
      | none => none) := by
    intro hw'
    unfold step
    rw [hw, hw']
    exact hX on h0 ids hs K f hK r n h e t hr
  have skip : wants (g e) b = false → PQ m h0 ids hs (S (.tup []) e (pMem on K h0 ids hs r n h)) (step T (cfO cf) ops o (Nat.add r i) t h n fun t h n => match f r t h n with
      | some (s, ids, hs) => some (s, ids, (on, h) :: hs)
      | none => none) := by
    intro hw'
    unfold step
    rw [hw, hw']
    exact pMem_ok hK hS hr
  cases b
  · show PQ m h0 ids hs (avBool (g e) (kgF _ _) _) _
    generalize g e = v at run skip ⊢
    cases v <;> try exact skip rfl
    rename_i c'
    cases c'
    · exact run rfl
    · exact skip rfl
  · show PQ m h0 ids hs (avBool (g e) (kgT _ _) _) _
    generalize g e = v at run skip ⊢
    cases v <;> try exact skip rfl
    rename_i c'
    cases c'
    · exact skip rfl
    · exact run rfl
theorem kReg_ok {plans : List (Nat × Plan)} {k id : Nat} {ops : Array Oper} {O : OM} (hO : OSim m O fun r t h n => steps T (cfO cf) ops.toList ops.toList (Nat.add r 0) t h n) : CSim m (kReg ops.toList.length O) (code T (cfO cf) plans k (.region id ops false)) := by
  intro n h e t hr
  unfold kReg
  rw [forceNR_eq]
  simp only [code, region, forceN_eq, kReg1]
  have this : QSim m (O n (n.add ops.toList.length) h e) (steps T (cfO cf) ops.toList ops.toList n t h (n.add ops.toList.length)) := hO n (n.add ops.toList.length) h e t hr
  cases hx : O n (n.add ops.toList.length) h e with
  | bad => trivial
  | nrm n' h' e' =>
    rw [hx] at this
    obtain ⟨t', h1, h2⟩ := this
    simp only [h1]
    exact ⟨t', rfl, h2⟩
  | ex a b c d => rw [hx] at this; exact this.elim
  | ret a b c => rw [hx] at this; exact this.elim
theorem kDraw_ok {plans : List (Nat × Plan)} {k id : Nat} {ops : Array Oper} {p : Plan} {P : PM} (hp : planAt plans id = some p) (hP : PSm m P fun r h0 t h n => xplan T (cfO cf) ops.toList r h0 p [] t h n) : CSim m (kDraw ops.toList.length P) (code T (cfO cf) plans k (.region id ops true)) := by
  intro n h e t hr
  unfold kDraw
  rw [forceNR_eq]
  simp only [code, region, forceN_eq, kDr1, hp]
  have this := hP n (n.add ops.toList.length) h h [] [] e t hr
  cases hx : P n (n.add ops.toList.length) h h [] [] e with
  | bad => trivial
  | nrm n' h' e' =>
    rw [hx] at this
    obtain ⟨t', ids, hs, h1, h2, h3⟩ := this
    have hst : stable ids h hs = true := (stable_iff ids h hs).2 fun p hp q hq => h3 p (.inl hp) q (.inl hq)
    simp only [h1, hst]
    exact ⟨t', rfl, h2⟩
  | ex a b c d => rw [hx] at this; exact this.elim
  | ret a b c => rw [hx] at this; exact this.elim
end
end Go.Ae
