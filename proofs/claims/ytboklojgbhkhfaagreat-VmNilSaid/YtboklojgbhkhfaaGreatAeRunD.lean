/- The run of the abstract evaluator does what the model does: code, functions. Conditions: the table of types is the program's (TIok); the table of functions is the program's (FOk); the program is read under mixed orders. -/
import Derived.Test.YtboklojgbhkhfaaGreatAeRunC
namespace Go.Ae

def Ex.toExit : Ex → Exit
  | .normal => .normal
  | .exit id => .exit id
  | .ret => .ret

theorem Post.trans {E E1 E2 : Env} {h : Tr AO} {n : Nat} {w w1 w2 : World} {s1 s2 : St} {d : List Deferred} {a1 a2 : Act} (p : Post E h n w s1 d E1 a1 w1) (q : Post E1 s1.h s1.n w1 s2 a1.defers E2 a2 w2) :
    Post E h n w s2 d E2 a2 w2 :=
  ⟨p.ext.trans q.ext, q.vals, q.defers.trans p.defers, fun j hj => by rw [q.fix j (Nat.lt_of_lt_of_le hj p.le), p.fix j hj], q.fresh, Nat.le_trans p.le q.le⟩

theorem Post.refl {E : Env} {s : St} {a : Act} {w : World} (hr : Rel E s.h w) (hv : Vals E s.t a) (hf : Fresh E s.n) : Post E s.h s.n w s a.defers E a w :=
  ⟨Ext.refl hr, hv, rfl, fun _ _ => rfl, hf, Nat.le_refl _⟩

section
variable {P : Program} {T : TT} {cf : CF}

/-- What is shown of a piece of code. -/
def CodeOk (P : Program) (c : Code) (f : St → Option (Ex × St)) : Prop := ∀ s ex s', f s = some (ex, s') → ∀ E a w, Rel E s.h w → Vals E s.t a → Fresh E s.n →
  c.wp P (fun e a' w' => e = ex.toExit ∧ ∃ E', Post E s.h s.n w s' a.defers E' a' w') a w

theorem iter_ok {c : Code} {f : St → Option (Ex × St)} (hc : CodeOk P c f) : ∀ (k : Nat) (s : St) (ex : Ex) (s' : St), iter f k s = some (ex, s') → ∀ E a w, Rel E s.h w → Vals E s.t a → Fresh E s.n →
    Code.rounds P c (fun e a' w' => e = ex.toExit ∧ ∃ E', Post E s.h s.n w s' a.defers E' a' w') k a w
  | 0, s, ex, s', hq, E, a, w, hr, hv, hf => by simp [iter] at hq
  | k + 1, s, ex, s', hq, E, a, w, hr, hv, hf => by
    simp only [iter] at hq
    rw [rounds_succ]
    split at hq
    · rename_i s1 hs1
      refine Code.wp_mono ?_ (hc s .normal s1 hs1 E a w hr hv hf)
      rintro e a1 w1 ⟨rfl, E1, hp⟩
      have := iter_ok hc k s1 ex s' hq E1 a1 w1 hp.ext.rel hp.vals hp.fresh
      have mono : ∀ (k : Nat) (Q Q' : Exit → Act → World → Prop) (a : Act) (w : World), (∀ e a w, Q e a w → Q' e a w) → Code.rounds P c Q k a w → Code.rounds P c Q' k a w := by
        intro k
        induction k with
        | zero => intro Q Q' a w _ h; exact h
        | succ k ih =>
          intro Q Q' a w hQ h
          rw [rounds_succ] at h ⊢
          refine Code.wp_mono ?_ h
          intro e a' w' h'
          cases e with
          | normal => exact ih Q Q' a' w' hQ h'
          | _ => exact hQ _ _ _ h'
      refine mono k _ _ a1 w1 ?_ this
      rintro e a2 w2 ⟨rfl, E2, hp2⟩
      exact ⟨rfl, E2, hp.trans hp2⟩
    · rename_i r hne
      refine Code.wp_mono ?_ (hc s ex s' hq E a w hr hv hf)
      rintro e a1 w1 ⟨rfl, E1, hp⟩
      cases ex with
      | normal => exact absurd hq (by intro h; exact hne s' h)
      | exit id => exact ⟨rfl, E1, hp⟩
      | ret => exact ⟨rfl, E1, hp⟩

theorem code_ok (hmix : P.follows .mixedOrders = true) (hT : ∀ t ti, T t = some ti → TIok P T t ti) (hcf : CfOk P cf) {plans : List (Nat × Plan)} {k : Nat} : ∀ (c : Code), chk plans c = true → CodeOk P c (code T cf plans k c)
  | .skip, _ => fun s ex s' hq E a w hr hv hf => by
    simp only [code] at hq
    have hq := some_inj hq
    injection hq with e1 e2
    subst e1 e2
    exact wp_skip ⟨rfl, E, Post.refl hr hv hf⟩
  | .label _, _ => fun s ex s' hq E a w hr hv hf => by
    simp only [code] at hq
    have hq := some_inj hq
    injection hq with e1 e2
    subst e1 e2
    exact wp_label ⟨rfl, E, Post.refl hr hv hf⟩
  | .region id ops draw, hc => fun s ex s' hq E a w hr hv hf => by
    simp only [code] at hq
    split at hq
    · rename_i s1 hs
      have hq := some_inj hq
      injection hq with e1 e2
      subst e1 e2
      exact region_ok hmix hT hcf hs hc hr hv hf
    · cases hq
  | .seq x y, hc => fun s ex s' hq E a w hr hv hf => by
    simp only [chk, Bool.and_eq_true] at hc
    have hx := code_ok hmix hT hcf (k := k) x hc.1
    have hy := code_ok hmix hT hcf (k := k) y hc.2
    simp only [code] at hq
    refine wp_seq ?_
    split at hq
    · rename_i s1 hs1
      refine Code.wp_mono ?_ (hx s .normal s1 hs1 E a w hr hv hf)
      rintro e a1 w1 ⟨rfl, E1, hp⟩
      refine Code.wp_mono ?_ (hy s1 ex s' hq E1 a1 w1 hp.ext.rel hp.vals hp.fresh)
      rintro e a2 w2 ⟨rfl, E2, hp2⟩
      exact ⟨rfl, E2, hp.trans hp2⟩
    · rename_i r hne
      refine Code.wp_mono ?_ (hx s ex s' hq E a w hr hv hf)
      rintro e a1 w1 ⟨rfl, E1, hp⟩
      cases ex with
      | normal => exact absurd hq (by intro h; exact hne s' h)
      | exit id => exact ⟨rfl, E1, hp⟩
      | ret => exact ⟨rfl, E1, hp⟩
  | .cond c x y, hc => fun s ex s' hq E a w hr hv hf => by
    simp only [chk, Bool.and_eq_true] at hc
    have hx := code_ok hmix hT hcf (k := k) x hc.1
    have hy := code_ok hmix hT hcf (k := k) y hc.2
    simp only [code] at hq
    split at hq
    · rename_i ho
      exact wp_cond_true (den_bool (opd_den hv ho)) (hx s ex s' hq E a w hr hv hf)
    · rename_i ho
      exact wp_cond_false (den_bool (opd_den hv ho)) (hy s ex s' hq E a w hr hv hf)
    · cases hq
  | .block id c, hc => fun s ex s' hq E a w hr hv hf => by
    simp only [chk] at hc
    have hx := code_ok hmix hT hcf (k := k) c hc
    simp only [code] at hq
    refine wp_block ?_
    split at hq
    · rename_i i s1 hs1
      split at hq
      · rename_i hb
        have hb := Nat.eq_of_beq_eq_true hb
        have hq := some_inj hq
        injection hq with e1 e2
        subst e1 e2
        refine Code.wp_mono ?_ (hx s (.exit i) s1 hs1 E a w hr hv hf)
        rintro e a1 w1 ⟨rfl, E1, hp⟩
        simp only [Ex.toExit, Exit.inBlock, hb, if_true]
        exact ⟨trivial, E1, hp⟩
      · rename_i hb
        have hb : ¬ i = id := fun e => by subst e; rw [Nat.beq_refl] at hb; cases hb
        have hq := some_inj hq
        injection hq with e1 e2
        subst e1 e2
        refine Code.wp_mono ?_ (hx s (.exit i) s1 hs1 E a w hr hv hf)
        rintro e a1 w1 ⟨rfl, E1, hp⟩
        simp only [Ex.toExit, Exit.inBlock, hb, if_false]
        exact ⟨trivial, E1, hp⟩
    · rename_i r hne
      refine Code.wp_mono ?_ (hx s ex s' hq E a w hr hv hf)
      rintro e a1 w1 ⟨rfl, E1, hp⟩
      cases ex with
      | normal => exact ⟨rfl, E1, hp⟩
      | exit i => exact absurd hq (by intro h; exact hne i s' h)
      | ret => exact ⟨rfl, E1, hp⟩
  | .loop c, hc => fun s ex s' hq E a w hr hv hf => by
    simp only [chk] at hc
    have hx := code_ok hmix hT hcf (k := k) c hc
    simp only [code] at hq
    exact wp_loop_rounds k (iter_ok hx k s ex s' hq E a w hr hv hf)
  | .exit id, _ => fun s ex s' hq E a w hr hv hf => by
    simp only [code] at hq
    have hq := some_inj hq
    injection hq with e1 e2
    subst e1 e2
    exact wp_exit ⟨rfl, E, Post.refl hr hv hf⟩
  | .scope c, hc => fun s ex s' hq E a w hr hv hf => by
    simp only [chk] at hc
    have hx := code_ok hmix hT hcf (k := k) c hc
    simp only [code] at hq
    refine wp_scope_straight ?_
    refine Code.wp_mono ?_ (hx s ex s' hq E a w hr hv hf)
    rintro e a1 w1 ⟨rfl, E1, hp⟩
    cases ex <;> exact ⟨rfl, E1, hp⟩
  | .ret, _ => fun s ex s' hq E a w hr hv hf => by
    simp only [code] at hq
    have hq := some_inj hq
    injection hq with e1 e2
    subst e1 e2
    exact wp_ret ⟨rfl, E, Post.refl hr hv hf⟩
  | .rangeFunc .., _ => fun s ex s' hq E a w hr hv hf => by simp [code] at hq
  | .goto _, _ => fun s ex s' hq E a w hr hv hf => by simp [code] at hq
  | .refuse _, _ => fun s ex s' hq E a w hr hv hf => by simp [code] at hq

theorem tmps_getD {E : Env} {t : List AV} {a : Act} (hv : Vals E t a) {i : Nat} {v : AV} (h : getN t i = some v) : den E v = some (a.tmps.getD i undef) :=
  opd_den hv (x := .tmp i) h

/-- One result. -/
def resS (tmps : Array Value) : ResultVar → Sem Value
  | .tmp t => pure (tmps.getD t undef)
  | .cell x t => do loadVar t (← asAddr (tmps.getD x undef))

theorem resA_ok (hT : ∀ t ti, T t = some ti → TIok P T t ti) {E : Env} {t : List AV} {h : Tr AO} {a : Act} {w : World} (hr : Rel E h w) (hv : Vals E t a) : ∀ (l : List ResultVar) (r : List AV), resA T t h l = some r →
    ∃ Vs, denL E r = some Vs ∧ (l.mapM (resS a.tmps)).run P w = .ok Vs w
  | [], r, hq => by
    simp [resA] at hq; subst hq
    exact ⟨[], rfl, rfl⟩
  | .tmp i :: l, r, hq => by
    simp only [resA] at hq
    split at hq
    · cases hq
    · rename_i v hg
      split at hq
      · rename_i q hl
        cases some_inj hq
        obtain ⟨Vs, h1, h2⟩ := resA_ok hT hr hv l q hl
        refine ⟨_, denL_mk (tmps_getD hv hg) h1, ?_⟩
        simp only [List.mapM_cons, Sem.run_bind, resS, Sem.run_pure, Result.andThen_ok]
        rw [h2]
        rfl
      · cases hq
  | .cell i ty :: l, r, hq => by
    simp only [resA] at hq
    split at hq
    · cases hq
    · rename_i u hg
      split at hq
      · cases hq
      · rename_i v hx
        split at hq
        · rename_i q hl
          cases some_inj hq
          obtain ⟨Vs, h1, h2⟩ := resA_ok hT hr hv l q hl
          have hA := tmps_getD hv hg
          obtain ⟨V, h3, h4⟩ := xload_ok (w := w) hT hr hx hA
          refine ⟨_, denL_mk h4 h1, ?_⟩
          obtain ⟨i2, off, rfl⟩ : ∃ i off, u = .ptr i off := by
            cases u <;> simp [xload] at hx
            exact ⟨_, _, rfl⟩
          obtain ⟨b, s, _, hA'⟩ := den_ptr hA
          have h5 : (loadVar ty ⟨b, off, none⟩).run P w = .ok V w := by
            rw [hA'] at h3
            simpa [Instr.loadAt, Instr.sureAddr] using h3
          have h6 : (resS a.tmps (.cell i ty)).run P w = .ok V w := by
            simp only [resS, Sem.run_bind, hA', asAddr, Sem.run_pure, Result.andThen_ok, h5]
          simp only [List.mapM_cons, Sem.run_bind, h6, Result.andThen_ok, h2]
          rfl
        · cases hq

/-- The table of functions is the program's. -/
def FOk (P : Program) (F : Nat → Option FE) : Prop := ∀ f e, F f = some e → P.funcs[f]? = some e.fn ∧ e.fn.name ≠ "runtime.NumGoroutine" ∧ ∀ c, e.fn.body = some c → chk e.plans c = true

theorem repU_eq : ∀ n, repU n = List.replicate n (.tup [])
  | 0 => rfl
  | n + 1 => by rw [repU, repU_eq n, List.replicate_succ]

/-- One call, where what it calls answers by 'cf'. -/
def level (T : TT) (F : Nat → Option FE) (k : Nat) (cf : CF) : CF := fun f args h n => match F f with
  | none => none
  | some e => match e.fn.body with
    | none => none
    | some c => match appK args (repU (Nat.sub e.fn.ntmps args.length)) fun t => code T cf e.plans k c ⟨t, h, n⟩ with
      | some (.normal, s) => match resA T s.t s.h e.fn.results.toList with
        | some l => some (resV l, s.h, s.n)
        | none => none
      | some (.ret, s) => match resA T s.t s.h e.fn.results.toList with
        | some l => some (resV l, s.h, s.n)
        | none => none
      | _ => none

theorem level_ok (hmix : P.follows .mixedOrders = true) (hT : ∀ t ti, T t = some ti → TIok P T t ti) {F : Nat → Option FE} (hF : FOk P F) {k : Nat} {cf : CF} (ih : CfOk P cf) : CfOk P (level T F k cf) :=
  fun f args h n v h' n' hq => by
    simp only [level] at hq
    split at hq
    · cases hq
    · rename_i e he
      obtain ⟨hf1, hf2, hf3⟩ := hF f e he
      split at hq
      · cases hq
      · rename_i c hb
        refine ⟨⟨e.fn, hf1, hf2, by rw [hb]; rfl⟩, fun E w vs hr hfr hargs => ?_⟩
        rw [appK_eq] at hq
        have fin : ∀ ex s, (ex = Ex.normal ∨ ex = Ex.ret) → code T (cf) e.plans k c ⟨args ++ repU (Nat.sub e.fn.ntmps args.length), h, n⟩ = some (ex, s) →
            (match resA T s.t s.h e.fn.results.toList with
              | some l => some (resV l, s.h, s.n)
              | none => none) = some (v, h', n') →
            Calls P f vs.toArray w fun e w' => ∃ E' V, e = .returned V ∧ Ext E h w E' h' w' ∧ (∀ j, j < n → E' j = E j) ∧ Fresh E' n' ∧ n ≤ n' ∧ den E' v = some V := by
          intro ex s hex hs hres
          split at hres
          · rename_i l hl
            have hres := some_inj hres
            injection hres with e1 hres
            injection hres with e2 e3
            subst e1 e2 e3
            refine calls_of_wp hf1 hb ?_
            have hlen := denL_length hargs
            have hvals : Vals E (args ++ repU (Nat.sub e.fn.ntmps args.length)) { tmps := vs.toArray ++ Array.replicate (e.fn.ntmps - vs.toArray.size) undef, defers := [] } := by
              unfold Vals
              rw [repU_eq]
              simp only [Array.toList_append, Array.toList_replicate, List.size_toArray, hlen]
              exact denL_append hargs (denL_replicate undef_den _)
            refine Code.wp_mono ?_ (code_ok hmix hT ih c (hf3 c hb) _ ex s hs E _ w hr hvals hfr)
            rintro e' a' w' ⟨rfl, E', hp⟩
            obtain ⟨Vs, h1, h2⟩ := resA_ok (w := w') hT hp.ext.rel hp.vals _ _ hl
            have hrun : ∃ V, (results e.fn a'.tmps).run P w' = .ok V w' ∧ den E' (resV l) = some V := by
              have hm : (e.fn.results.mapM (resS a'.tmps)).run P w' = .ok Vs.toArray w' := by
                rw [Array.mapM_eq_mapM_toList]
                simp only [Sem.run_map, h2, Result.andThen_ok]
              refine ⟨if h : Vs.toArray.size = 1 then Vs.toArray[0] else .tuple Vs.toArray, ?_, ?_⟩
              · have he : results e.fn a'.tmps = (e.fn.results.mapM (resS a'.tmps) >>= fun vs => pure (if h : vs.size = 1 then vs[0] else .tuple vs)) := by
                  unfold results
                  congr 1
                rw [he]
                simp only [Sem.run_bind, hm, Result.andThen_ok, Sem.run_pure]
              · have hl2 := denL_length h1
                cases l with
                | nil => simp at hl2; subst hl2; rfl
                | cons x l =>
                  obtain ⟨X, M, rfl, hX, hM⟩ := denL_cons h1
                  cases l with
                  | nil => simp [denL] at hM; subst hM; simpa [resV] using hX
                  | cons y l =>
                    obtain ⟨Y, N, rfl, hY, hN⟩ := denL_cons hM
                    simp [resV, den, denL, hX, hY, hN]
            obtain ⟨V, hrun, hV⟩ := hrun
            have : bodyPost P e.fn (fun e w' => ∃ E' V, e = .returned V ∧ Ext E h w E' s.h w' ∧ (∀ j, j < n → E' j = E j) ∧ Fresh E' s.n ∧ n ≤ s.n ∧ den E' (resV l) = some V) ex.toExit a' w' := by
              rcases hex with rfl | rfl <;> exact ⟨hp.defers, V, hrun, E', V, rfl, hp.ext, hp.fix, hp.fresh, hp.le, hV⟩
            exact this
          · cases hres
        split at hq
        · rename_i s hs; exact fin _ s (.inl rfl) hs hq
        · rename_i s hs; exact fin _ s (.inr rfl) hs hq
        · cases hq

theorem call_ok (hmix : P.follows .mixedOrders = true) (hT : ∀ t ti, T t = some ti → TIok P T t ti) {F : Nat → Option FE} (hF : FOk P F) {k : Nat} : ∀ d, CfOk P (call T F k d)
  | 0 => fun f args h n v h' n' hq => by simp [call] at hq
  | d + 1 => level_ok hmix hT hF (call_ok hmix hT hF (k := k) d)

end
end Go.Ae
