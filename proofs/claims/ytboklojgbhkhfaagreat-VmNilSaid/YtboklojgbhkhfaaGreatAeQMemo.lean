/- Entries of the table of compiled functions beside the compiled ones: what was answered once is answered again, over any store; and what a call from an empty store says of the world. No condition beside the hypotheses that each lemma names. -/
import Derived.Test.YtboklojgbhkhfaaGreatAeQPath
import Derived.ChangeSame
import Derived.RowKit3
set_option linter.unusedVariables false
namespace Go.Ae
/-- One answer is right. -/
def CfAt (P : Program) (f : Nat) (args : List AV) (h : Tr AO) (n : Nat) (v : AV) (h' : Tr AO) (n' : Nat) : Prop :=
  (∃ fn, P.funcs[f]? = some fn ∧ fn.name ≠ "runtime.NumGoroutine" ∧ fn.body.isSome = true) ∧
  ∀ E w vs, Rel E h w → Fresh E n → denL E args = some vs → Calls P f vs.toArray w fun e w' =>
    ∃ E' V, e = .returned V ∧ Ext E h w E' h' w' ∧ (∀ j, j < n → E' j = E j) ∧ Fresh E' n' ∧ n ≤ n' ∧ den E' v = some V
def XGood (P : Program) (f : Nat) (X : CX2) : Prop := ∀ cf : CF2, CfOk P (cfO cf) → ∀ args h n v h' n', X cf args h n = .ok v h' n' → CfAt P f args h n v h' n'
theorem toO_some {x : CR} {v : AV} {h : Tr AO} {n : Nat} (e : x.toO = some (v, h, n)) : x = .ok v h n := by
  cases x with
  | bad => cases e
  | ok a b c => cases e; rfl
theorem xgood_of_cOk {T : TT} {P : Program} (hmix : P.follows .mixedOrders = true) (hT : ∀ t ti, T t = some ti → TIok P T t ti) {F : Nat → Option FE} (hF : FOk P F) {k f : Nat} {e : FE} {X : CX2} (he : F f = some e) (hb : e.fn.body ≠ none) (hX : cOk T k e X) : XGood P f X :=
  fun cf hcf args h n v h' n' hx => level_ok hmix hT hF (k := k) hcf f args h n v h' n' (cFun_ok he hX hb hx)
theorem ccall_good {P : Program} {C : Tr CX2} (hC : ∀ f X, C.get f = some X → XGood P f X) : ∀ d, CfOk P (cfO (ccall C d))
  | 0 => fun f args h n v h' n' hq => by cases hq
  | d + 1 => fun f args h n v h' n' hq => by
    have hq' : (cxK (trX C f) (ccall C d) args h n).toO = some (v, h', n') := hq
    rw [trX_eq] at hq'
    cases hX : C.get f with
    | none => rw [hX] at hq'; cases hq'
    | some X =>
      rw [hX] at hq'
      exact hC f X hX (ccall C d) (ccall_good hC d) args h n v h' n' (toO_some (x := X (ccall C d) args h n) hq')
/-- A table's answer, as CfAt. -/
theorem cfAt_of {P : Program} {C : Tr CX2} (hC : ∀ f X, C.get f = some X → XGood P f X) {d f : Nat} {args : List AV} {h h' : Tr AO} {n n' : Nat} {v : AV} (hq : ccall C d f args h n = .ok v h' n') : CfAt P f args h n v h' n' :=
  ccall_good hC d f args h n v h' n' (by show CR.toO _ = _; rw [hq]; rfl)

def E0 : Env := fun _ => none
theorem rel0 (w : World) : Rel E0 .lf w := ⟨(fun i o h => by rw [Tr.get_lf] at h; cases h), (fun i j o p b s s' h => by rw [Tr.get_lf] at h; cases h)⟩
theorem fresh0 : Fresh E0 0 := fun _ _ => rfl
theorem not_owns0 {E : Env} {b : Nat} : ¬ Owns E .lf b := fun ⟨i, o, s, h, _⟩ => by rw [Tr.get_lf] at h; cases h
/-- What there was stays. -/
structure Kept (w w' : World) : Prop where
  os : w'.os = w.os
  output : w'.output = w.output
  tape : w'.tape = w.tape
  size : w.heap.size ≤ w'.heap.size
  old : ∀ b, b < w.heap.size → w'.heap[b]? = w.heap[b]?
theorem Kept.refl (w : World) : Kept w w := ⟨rfl, rfl, rfl, Nat.le_refl _, fun _ _ => rfl⟩
theorem Kept.trans {a b c : World} (h : Kept a b) (h' : Kept b c) : Kept a c :=
  ⟨h'.os.trans h.os, h'.output.trans h.output, h'.tape.trans h.tape, Nat.le_trans h.size h'.size, fun i hi => (h'.old i (Nat.lt_of_lt_of_le hi h.size)).trans (h.old i hi)⟩
/-- A call that was answered from an empty store, in any world. -/
theorem calls_closed {P : Program} {f : Nat} {args : List AV} {v : AV} {h' : Tr AO} {n' : Nat} (hq : CfAt P f args .lf 0 v h' n') {vs : List Value} (ha : denL E0 args = some vs) (w : World) :
    Calls P f vs.toArray w fun e w' => ∃ E' V, e = .returned V ∧ den E' v = some V ∧ Kept w w' := by
  refine (hq.2 E0 w vs (rel0 w) fresh0 ha).mono ?_
  rintro e w' ⟨E', V, h1, h2, h3, h4, h5, h6⟩
  exact ⟨E', V, h1, h6, ⟨h2.os, h2.output, h2.tape, h2.size, fun b hb => h2.frame b hb not_owns0⟩⟩
theorem Rel.kept {E : Env} {h : Tr AO} {w w' : World} (hr : Rel E h w) (hk : Kept w w') : Rel E h w' := by
  refine ⟨fun i o hi => ?_, hr.inj⟩
  obtain ⟨b, s, x, h1, h2, h3⟩ := hr.obj i o hi
  have hb : b < w.heap.size := by
    have := Array.getElem?_eq_some_iff.1 h2
    exact this.1
  exact ⟨b, s, x, h1, by rw [hk.old b hb]; exact h2, h3⟩
theorem Ext.kept {E : Env} {h : Tr AO} {w w' : World} (hr : Rel E h w) (hk : Kept w w') : Ext E h w E h w' :=
  ⟨Env.le_refl E, hr.kept hk, fun _ h => .inr h, hk.size, fun b hb _ => hk.old b hb, hk.os, hk.output, hk.tape⟩
/-- What was answered from an empty store, where neither the arguments nor the answer bear addresses, is answered over any store, and nothing that is named changes. -/
theorem CfAt.memo {P : Program} {f : Nat} {args : List AV} {v : AV} {h' : Tr AO} {n' : Nat} (hq : CfAt P f args .lf 0 v h' n') (ha : ∀ E, denL E args = denL E0 args) (hv : ∀ E E', den E v = den E' v) (h : Tr AO) (n : Nat) : CfAt P f args h n v h n := by
  refine ⟨hq.1, fun E w vs hr hf hargs => ?_⟩
  refine (calls_closed hq (vs := vs) (by rw [← ha E]; exact hargs) w).mono ?_
  rintro e w' ⟨E', V, h1, h2, hk⟩
  exact ⟨E, V, h1, Ext.kept hr hk, fun _ _ => rfl, hf, Nat.le_refl _, by rw [hv E E']; exact h2⟩
/-- The same of a contract that was proved otherwise. -/
theorem CfAt.of_calls {P : Program} {f : Nat} {args : List AV} {v : AV} {h : Tr AO} {n : Nat} (hfn : ∃ fn, P.funcs[f]? = some fn ∧ fn.name ≠ "runtime.NumGoroutine" ∧ fn.body.isSome = true)
    (hc : ∀ E w vs, denL E args = some vs → Calls P f vs.toArray w fun e w' => ∃ V, e = .returned V ∧ den E v = some V ∧ Kept w w') : CfAt P f args h n v h n := by
  refine ⟨hfn, fun E w vs hr hf hargs => (hc E w vs hargs).mono ?_⟩
  rintro e w' ⟨V, h1, h2, hk⟩
  exact ⟨E, V, h1, Ext.kept hr hk, fun _ _ => rfl, hf, Nat.le_refl _, h2⟩
/-- A function without arguments that answers a value without addresses. -/
noncomputable def xConst (v : AV) : CX2 := fun _ args h n => List.rec (motive := fun _ => AV → Tr AO → Nat → CR) (fun v h n => .ok v h n) (fun _ _ _ _ _ _ => .bad) args v h n
theorem xConst_good {P : Program} {f : Nat} {v : AV} {h' : Tr AO} {n' : Nat} (hq : CfAt P f [] .lf 0 v h' n') (hv : ∀ E E', den E v = den E' v) : XGood P f (xConst v) := by
  intro cf hcf args h n u h1 n1 hx
  cases args with
  | nil => cases hx; exact hq.memo (fun _ => rfl) hv h n
  | cons a l => cases hx
/-- Another entry in the place of one that there is. -/
def trPut : Nat → Tr CX2 → Nat → CX2 → Tr CX2
  | 0, t, _, _ => t
  | d + 1, t, k, x => match t with
    | .lf => .lf
    | .nd l v r => match Nat.beq k 0 with
      | true => .nd l (some x) r
      | false => match Nat.beq (Nat.mod k 2) 1 with
        | true => .nd (trPut d l (Nat.div k 2) x) v r
        | false => .nd l v (trPut d r (Nat.sub (Nat.div k 2) 1) x)
theorem trPut_get : ∀ (d : Nat) (t : Tr CX2) (k : Nat) (x : CX2) (f : Nat) (X : CX2), (trPut d t k x).get f = some X → (f = k ∧ X = x) ∨ t.get f = some X
  | 0, t, k, x, f, X, h => .inr h
  | d + 1, .lf, k, x, f, X, h => by rw [trPut, Tr.get_lf] at h; cases h
  | d + 1, .nd l v r, k, x, f, X, h => by
    rw [trPut] at h
    have h1 : Nat.beq k 0 = decide (k = 0) := by rw [Bool.eq_iff_iff, Nat.beq_eq, decide_eq_true_eq]
    have h2 : Nat.beq (Nat.mod k 2) 1 = decide (k % 2 = 1) := by rw [Bool.eq_iff_iff, Nat.beq_eq, decide_eq_true_eq]; exact Iff.rfl
    rw [h1, h2] at h
    by_cases hk : k = 0
    · simp only [hk, decide_true] at h
      rw [Tr.get_nd] at h ⊢
      by_cases hf : f = 0
      · rw [if_pos hf] at h; exact .inl ⟨by rw [hf, hk], (some_inj h).symm⟩
      · rw [if_neg hf] at h ⊢; exact .inr h
    · by_cases hm : k % 2 = 1
      · simp only [hk, hm, decide_true, decide_false] at h
        rw [Tr.get_nd] at h ⊢
        by_cases hf : f = 0
        · rw [if_pos hf] at h ⊢; exact .inr h
        · rw [if_neg hf] at h ⊢
          by_cases hm2 : f % 2 = 1
          · rw [if_pos hm2] at h ⊢
            rcases trPut_get d l (k / 2) x (f / 2) X h with ⟨e1, e2⟩ | e
            · exact .inl ⟨by omega, e2⟩
            · exact .inr e
          · rw [if_neg hm2] at h ⊢; exact .inr h
      · simp only [hk, hm, decide_false] at h
        rw [Tr.get_nd] at h ⊢
        by_cases hf : f = 0
        · rw [if_pos hf] at h ⊢; exact .inr h
        · rw [if_neg hf] at h ⊢
          by_cases hm2 : f % 2 = 1
          · rw [if_pos hm2] at h ⊢; exact .inr h
          · rw [if_neg hm2] at h ⊢
            rcases trPut_get d r (k / 2 - 1) x (f / 2 - 1) X h with ⟨e1, e2⟩ | e
            · exact .inl ⟨by omega, e2⟩
            · exact .inr e
theorem trPut_good {P : Program} {t : Tr CX2} (ht : ∀ f X, t.get f = some X → XGood P f X) {d k : Nat} {x : CX2} (hx : XGood P k x) : ∀ f X, (trPut d t k x).get f = some X → XGood P f X := fun f X h => by
  rcases trPut_get d t k x f X h with ⟨rfl, rfl⟩ | h
  · exact hx
  · exact ht f X h
theorem seq_nrm {A B : QM} {n n' : Nat} {h h' : Tr AO} {e e' : E2} (hA : A n h e = .nrm n' h' e') : cSeq A B n h e = B n' h' e' := by
  show resSeq (A n h e) B = _
  rw [hA]; rfl
theorem op_out {F : FK} {S : SM} {j r n : Nat} {K : OM} {h h' : Tr AO} {e : E2} {v : AV} {b : Nat} (hF : ∀ K' : VK, F e h (Nat.add r j) K' = K' v h') (hS : ∀ v e K, S v e K = K (eset e b v)) : kOp F S j K r n h e = K r n h' (eset e b v) := by
  show F e h _ (kSet S K r n e) = _
  rw [hF]
  exact hS v e _
/-- The tests of a text's length with which laws begin. -/
theorem reg_len {n : Nat} {h : Tr AO} {e : E2} {l : List UInt8} {C a b c d : Nat} {ga gb gc : GT} {sb sc sd : SM} (ha : ga e = .str l) (hb : ∀ v e K, sb v e K = K (eset e b v)) (hc : ∀ v e K, sc v e K = K (eset e c v)) (hd : ∀ v e K, sd v e K = K (eset e d v))
    (hgb : ∀ e v, gb (eset e b v) = v) (hgc : ∀ e v, gc (eset e c v) = v) :
    kReg 3 (kOp (vMove ga) sb 0 (kOp (vLenS gb) sc 1 (kOp (vN on_i64 wGtr .gtr gc (fun _ => .int .i64 (.ofNat C))) sd 2 kEnd))) n h e =
      .nrm (Nat.add n 3) h (eset (eset (eset e b (.str l)) c (.int .i64 (.ofNat l.length))) d (.bool (Nat.blt C l.length))) := by
  unfold kReg
  rw [forceNR_eq]
  unfold kReg1
  rw [op_out (v := .str l) (h' := h) (fun K' => by show K' (ga e) h = _; rw [ha]) hb]
  rw [op_out (v := .int .i64 (.ofNat l.length)) (h' := h) (fun K' => by unfold vLenS; rw [hgb]; show forceNR (lenF l) _ = _; rw [forceNR_eq, lenF_eq]; rfl) hc]
  rw [op_out (v := .bool (Nat.blt C l.length)) (h' := h) (fun K' => by unfold vN; rw [hgc]; show boolR (Nat.blt C l.length) _ _ = _; rw [boolR_eq]) hd]
  rfl
noncomputable def isT (x : CR) : Bool := CR.rec (motive := fun _ => Bool) false (fun v _ _ => ab_bool v (ebF true)) x
theorem isT_ok {x : CR} (h : isT x = true) : ∃ h' n', x = .ok (.bool true) h' n' := by
  cases x with
  | bad => cases h
  | ok v h' n' =>
    cases v
    case bool b =>
      have hb : b = true := h
      rw [hb]
      exact ⟨h', n', rfl⟩
    all_goals cases h
/-- What is asked of a world behind a law's call. -/
theorem Kept.grown_but {w w' : World} (hk : Kept w w') : w.keptBut w' (fun _ => False) := by
  refine ⟨hk.os, hk.output, fun i hi => ?_⟩
  rw [hk.old i hi]
  cases hx : w.heap[i]? with
  | none => trivial
  | some x => cases x <;> simp
theorem Kept.frozen {w w' : World} (hk : Kept w w') (a : Addr) (ha : a.block < w.heap.size) : w'.frozen? a = w.frozen? a := by
  simp only [World.frozen?, hk.old a.block ha]
end Go.Ae
namespace Go.ChangeShapes
open Go.WideShapes
variable {H : Type} {enc : TypeId × Value → H} {P : Program}
/-- As post_of_same, where only what there was is known not to be frozen or let go. -/
theorem post_of_kept {f : Func} {s : ChangeSpec} {apart fresh handsOn again : Bool} {W W' : World} {args : Array Value} {v : Value} {ds gs : List (DataW H)} {before pa pv : List MemPlace}
    (hW : DataW.Whole enc P f.params.toList s.vars apart W args.toList ds gs before)
    (hres : ∀ (b : Nat) (sp : Nat → Bool) (hd : Bool), DataW.TrodAll enc P W' b sp hd f.resultTypes.toList (v.resultList f.resultTypes.size) (s.fn H (ds ++ gs)).results [])
    (hargs : ∀ sp : Nat → Bool, (∀ p ∈ before, sp p.block = true) → DataW.TrodAll enc P W' 0 sp true f.params.toList args.toList (s.fn H (ds ++ gs)).args pa)
    (hvars : ∀ sp : Nat → Bool, (∀ p ∈ before, sp p.block = true) → DataW.TrodVars enc P W' sp s.vars (s.fn H (ds ++ gs)).vars pv)
    (hps : before = pa ++ pv) (hk : Ae.Kept W W')
    (hok : ∀ (j : Nat) (t : TypeId) (r : Value), f.resultTypes[j]? = some t → (v.resultList f.resultTypes.size)[j]? = some r → Value.okWide P W' .any 0 t r) :
    s.post enc P f apart fresh handsOn again W args v W' := by
  have hold : ∀ p ∈ before, (fun b => decide (b < W.heap.size)) p.block = true := fun p hp => by simpa using hW.lt p hp
  have hlt := hW.lt
  refine ⟨ds, gs, before, [], pa, pv, hW, hres _ _ _, hargs _ hold, hvars _ hold, World.keptBut_mono (fun p hp => hp.elim) hk.grown_but, fun _ => ?_⟩
  obtain ⟨_, _, _, _, _, hz, hn⟩ := hW
  refine ⟨hok, _, _, ([] ++ pa) ++ pv, ⟨[] ++ pa, pv, trodAll_append (hargs _ (fun _ _ => rfl)) (hres _ _ _), hvars _ (fun _ _ => rfl), rfl, ?_, ?_⟩, ?_⟩
  · intro b off hp
    have hp' : MemPlace.cell b off ∈ before := by rw [hps]; simpa using hp
    rw [hk.frozen _ (hlt _ hp')]
    exact hz b off hp'
  · intro ha
    have := hn ha
    rw [hps] at this
    simpa using this
  · intro p hp _
    rw [hps]
    simpa using hp
end Go.ChangeShapes
