/- The operations of the abstract evaluator do what the model's operations do: comparisons of other values, operations of one and of two. The one condition: the table of types is the program's (TIok). -/
import Derived.Test.YtboklojgbhkhfaaGreatAeSnd2
namespace Go.Ae
section
variable {P : Program} {T : TT} {a : Act} {o : Oper} {E : Env} {h : Tr AO} {w : World} {t : List AV}

/-- What '==' and '!=' answer. -/
def EqAns (P : Program) (w : World) (ty : Nat) (x y : Operand) (A B : Value) (r : Bool) : Prop :=
  (eqGuard .eql ty x y A B).run P w = .ok () w ∧ (eqGuard .neq ty x y A B).run P w = .ok () w ∧
  (binOp .eql ty A B).run P w = .ok (.bool r) w ∧ (binOp .neq ty A B).run P w = .ok (.bool (!r)) w

theorem eqAns_of {ty : Nat} {x y : Operand} {A B : Value} {r : Bool} (hg : ∀ op, (eqGuard op ty x y A B).run P w = .ok () w)
    (h1 : (binOp .eql ty A B) = (do pure (.bool (← Op.equal ty A B)))) (h2 : (binOp .neq ty A B) = (do pure (.bool (!(← Op.equal ty A B)))))
    (he : ∀ d, (Op.equalIn (d + 1) ty A B).run P w = .ok r w) : EqAns P w ty x y A B r := by
  have he' : (Op.equal ty A B).run P w = .ok r w := he 9999
  exact ⟨hg _, hg _, by rw [h1]; simp [he'], by rw [h2]; simp [he']⟩

theorem eqOther_ok (hT : ∀ t ti, T t = some ti → TIok P T t ti) {ty : Nat} {x y : Operand} {u v : AV} {r : Bool} {A B : Value} (hq : eqOther T ty x y u v = some r)
    (hA : den E u = some A) (hB : den E v = some B) : EqAns P w ty x y A B r := by
  simp only [eqOther] at hq
  cases hD : T ty with
  | none => simp [hD] at hq
  | some D =>
    simp only [hD] at hq
    have hu := (hT ty D hD).und
    have heqs := (hT ty D hD).eqs
    obtain ⟨k, size, bytes, zero, eqs⟩ := D
    cases k
    case bool =>
      split at hq <;> first | (cases hq; done) | (rename_i hk; cases hk; done) | skip
      rename_i a b hk
      cases den_bool hA; cases den_bool hB
      injection hq with hq
      refine eqAns_of (fun op => by cases op <;> rfl) rfl rfl fun d => ?_
      rw [run_equalIn_bool w d ty a b hu]
      congr 1
      cases a <;> cases b <;> exact hq
    case st =>
      split at hq <;> first | (cases hq; done) | (rename_i hk; cases hk; done) | skip
      split at hq
      · cases hq
      · rename_i k1 ks he
        simp only at he
        obtain ⟨hg, hr⟩ := heqs (by simp [he])
        obtain ⟨X, hX, rfl⟩ := den_agg hA
        obtain ⟨Y, hY, rfl⟩ := den_agg hB
        have e := hr E w _ _ X Y r (by simp only [he]; exact hq) hX hY
        refine ⟨run_eqGuard_agg w _ ty x y _ _ hg, run_eqGuard_agg w _ ty x y _ _ hg, ?_, ?_⟩
        · rw [run_eql_struct, e]; rfl
        · rw [run_neq_struct, e]; rfl
    case ptr =>
      obtain ⟨e, hu⟩ := hu
      split at hq <;> first | (cases hq; done) | (rename_i hk; cases hk; done) | skip
      all_goals
        injection hq with hq; subst hq
        first
          | (simp [den] at hA; subst hA)
          | (obtain ⟨b, s, _, rfl⟩ := den_ptr hA)
        first
          | (simp [den] at hB; subst hB)
          | (obtain ⟨b, s, _, rfl⟩ := den_ptr hB)
        exact eqAns_of (fun op => by cases op <;> rfl) rfl rfl (fun d => by simp [Op.equalIn, run_underlying hu])
    case slice =>
      split at hq <;> first | (cases hq; done) | (rename_i hk; cases hk; done) | skip
      all_goals
        injection hq with hq; subst hq
        first
          | (simp [den] at hA; subst hA)
          | (obtain ⟨b, s, _, _, rfl⟩ := den_slc hA)
        first
          | (simp [den] at hB; subst hB)
          | (obtain ⟨b, s, _, _, rfl⟩ := den_slc hB)
        exact eqAns_of (fun op => by cases op <;> rfl) rfl rfl (fun d => by simp [Op.equalIn, run_underlying hu])
    case map =>
      split at hq <;> first | (cases hq; done) | (rename_i hk; cases hk; done) | skip
      all_goals
        injection hq with hq; subst hq
        first
          | (simp [den] at hA; subst hA)
          | (obtain ⟨b, s, _, rfl⟩ := den_map hA)
        first
          | (simp [den] at hB; subst hB)
          | (obtain ⟨b, s, _, rfl⟩ := den_map hB)
        exact eqAns_of (fun op => by cases op <;> rfl) rfl rfl (fun d => by simp [Op.equalIn, run_underlying hu])
    case fn =>
      obtain ⟨e1, e2, e3, hu⟩ := hu
      split at hq <;> first | (cases hq; done) | (rename_i hk; cases hk; done) | skip
      all_goals
        injection hq with hq; subst hq
        first
          | (simp [den] at hA; subst hA)
          | (obtain ⟨X, Y, _, _, rfl⟩ := den_fn hA)
        first
          | (simp [den] at hB; subst hB)
          | (obtain ⟨X, Y, _, _, rfl⟩ := den_fn hB)
        exact eqAns_of (fun op => by cases op <;> rfl) rfl rfl (fun d => by simp [Op.equalIn, run_underlying hu])
    case iface =>
      obtain ⟨ms, hu⟩ := hu
      split at hq <;> first | (cases hq; done) | (rename_i hk; cases hk; done) | skip
      · simp [den] at hA hB; subst hA; subst hB
        have hr : r = true := by split at hq <;> first | (injection hq with hq; exact hq.symm) | cases hq
        subst hr
        have hg : ∀ op, (eqGuard op ty x y .nilIface .nilIface).run P w = .ok () w := by
          intro op
          split at hq
          · cases op <;> simp [eqGuard]
          · cases op <;> simp [eqGuard]
          · cases hq
        exact eqAns_of hg rfl rfl (fun d => by simp [Op.equalIn, run_underlying hu])
      all_goals
        injection hq with hq; subst hq
        first
          | (simp [den] at hA; subst hA)
          | (obtain ⟨X, _, rfl⟩ := den_ifc hA)
        first
          | (simp [den] at hB; subst hB)
          | (obtain ⟨X, _, rfl⟩ := den_ifc hB)
        exact eqAns_of (fun op => by cases op <;> rfl) rfl rfl (fun d => by simp [Op.equalIn, run_underlying hu])
    all_goals
      split at hq <;> first | (cases hq; done) | (rename_i hk; cases hk; done)

theorem Bin.ok {op : BinOp} {ty yt : Nat} {x y : Operand} {A B : Value} {q : OR} (hr : Rel E h w) (hx : a.eval x = A) (hy : a.eval y = B) (ho : o.op = .binOp op ty x y yt)
    (hg : ∀ op, (eqGuard op ty x y A B).run P w = .ok () w) (hb : Bin P w op ty A B (some q) (fun v => some (.val v h))) (r : Nat) : OpOk P a o E h w r q := by
  obtain ⟨v, hk, hd⟩ := hb
  obtain ⟨V, h1, h2⟩ := hd E
  injection hk with hk
  subst hk
  exact Yld.ok hr (.mk (by simp [execOp, ho, hx, hy, hg, h2]) h1)

theorem xbin_ok (hT : ∀ t ti, T t = some ti → TIok P T t ti) (hr : Rel E h w) {op : BinOp} {ty yt : Nat} {x y : Operand} {u v : AV} {A B : Value} {q : OR} (hx : a.eval x = A) (hy : a.eval y = B)
    (ho : o.op = .binOp op ty x y yt) (hq : xbin T op ty x y u v h = some q) (hA : den E u = some A) (hB : den E v = some B) (r : Nat) : OpOk P a o E h w r q := by
  unfold xbin at hq
  simp only at hq
  split at hq
  · cases den_int hA; cases den_int hB
    have hg : ∀ (k j : IntKind) (m n : Int) op, (eqGuard op ty x y (.int k m) (.int j n)).run P w = .ok () w := fun k j m n op => by cases op <;> rfl
    split at hq
    · exact (binShift_ok (.inl rfl) hq).ok hr hx hy ho (hg _ _ _ _) r
    · exact (binShift_ok (.inr rfl) hq).ok hr hx hy ho (hg _ _ _ _) r
    · split at hq
      · rename_i hk
        cases ikBeq_eq hk
        exact (binInt_ok hq).ok hr hx hy ho (hg _ _ _ _) r
      · cases hq
  · cases den_str hA; cases den_str hB
    exact (binStr_ok hq).ok hr hx hy ho (fun op => by cases op <;> rfl) r
  · split at hq
    · split at hq
      · rename_i z hz
        rw [boolK_eq] at hq
        injection hq with hq; subst hq
        obtain ⟨h1, h2, h3, h4⟩ := eqOther_ok hT (w := w) hz hA hB
        exact Yld.ok hr (.mk (by simp [execOp, ho, hx, hy, h1, h3]) rfl)
      · cases hq
    · split at hq
      · rename_i z hz
        rw [boolK_eq] at hq
        injection hq with hq; subst hq
        obtain ⟨h1, h2, h3, h4⟩ := eqOther_ok hT (w := w) hz hA hB
        exact Yld.ok hr (.mk (by simp [execOp, ho, hx, hy, h2, h4]) rfl)
      · cases hq
    · cases hq

theorem xun_ok (hr : Rel E h w) {op : UnOp} {ty : Nat} {x : Operand} {u : AV} {q : OR} (hv : Vals E t a) (hx : opd t x = some u) (ho : o.op = .unOp op ty x) (hq : xun op u h = some q) (r : Nat) : OpOk P a o E h w r q := by
  have hA := opd_den hv hx
  unfold xun at hq
  split at hq
  · rw [boolK_eq] at hq
    injection hq with hq; subst hq
    have e := den_bool hA
    exact Yld.ok hr (.mk (by simp [execOp, ho, e, Op.unary]) rfl)
  · rw [wrapK_eq] at hq
    injection hq with hq; subst hq
    have e := den_int hA
    exact Yld.ok hr (.mk (V := .int _ _) (by simp only [execOp, ho, e, Op.unary, Op.intArith]; rfl) rfl)
  · cases hq

end
end Go.Ae
