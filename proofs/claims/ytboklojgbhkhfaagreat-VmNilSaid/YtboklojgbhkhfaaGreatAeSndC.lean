/- The operations of the abstract evaluator do what the model's operations do: calls, and all of them together. The one condition: the table of types is the program's (TIok). -/
import Derived.Test.YtboklojgbhkhfaaGreatAeSndB
namespace Go.Ae
section
variable {P : Program} {T : TT} {a : Act} {o : Oper} {E : Env} {h : Tr AO} {w : World} {t : List AV}

theorem nqc {o : Oper} {c : Call} {b : Builtin} {C : Prop} (ho : o.op = .call c) (hc : c.callee = .builtin b) (hf : quiet (.call { callee := .builtin b, args := c.args, argTypes := c.argTypes }) = false) : quiet o.op = true → C := fun h => by
  obtain ⟨x, y, z⟩ := c
  simp only at hc
  subst hc
  rw [ho, hf] at h; cases h

theorem args_eq (c : Call) : (c.args.map a.eval) = (c.args.toList.map a.eval).toArray := by
  rw [← Array.toList_map, Array.toArray_toList]

theorem argTypes2 {c : Call} {ty tx : Nat} (h : c.argTypes.toList = [ty, tx]) : c.argTypes = #[ty, tx] := by
  apply Array.ext'; simpa using h
theorem argTypes1 {c : Call} {ty : Nat} (h : c.argTypes.toList = [ty]) : c.argTypes = #[ty] := by
  apply Array.ext'; simpa using h

theorem xcall_ok (hT : ∀ t ti, T t = some ti → TIok P T t ti) (hr : Rel E h w) {c : Call} {q : OR} {r : Nat} (hfree : E r = none) (hv : Vals E t a) (ho : o.op = .call c) (hq : xcall T t c h r = some q) : OpOk P a o E h w r q := by
  unfold xcall at hq
  split at hq
  · cases hq
  · rename_i args hargs
    have hA := opds_den hv hargs
    have hae := args_eq (a := a) c
    generalize c.args.toList.map a.eval = L at hA hae
    split at hq
    · rename_i f hc
      split at hq
      · rename_i g first cap hf
        injection hq with hq; subst hq
        obtain ⟨X, Y, hX, hY, hF⟩ := den_fn (opd_den hv hf)
        refine ⟨X ++ (L ++ Y), denL_append hX (denL_append hA hY), fun fn h1 h2 h3 => ?_⟩
        have hb : ¬ fn.body = none := by cases hh : fn.body <;> simp_all
        simp [execOp, ho, resolve, hc, hae, hF, Deferred.ofValue, invoke, callFunc, h1, h2, hb]
      · cases hq
    · rename_i hc
      split at hq
      · rename_i x ty hty
        split at hq
        · rename_i v hl
          injection hq with hq; subst hq
          obtain ⟨V, M, rfl, hV, hM⟩ := denL_cons hA
          simp [denL] at hM; subst hM
          obtain ⟨R, h1, h2⟩ := len_ok (rt := o.type) (w := w) hT hr hV hl
          refine Yld.ok hr (.mk (V := R) ?_ h2)
          simp [execOp, ho, resolve, hc, hae, invoke, builtin, argTypes1 hty, h1]
        · cases hq
      · cases hq
    · rename_i hc
      split at hq
      · rename_i s x ty tx hty
        obtain ⟨V, M, rfl, hV, hM⟩ := denL_cons hA
        obtain ⟨V2, M, rfl, hV2, hM⟩ := denL_cons hM
        simp [denL] at hM; subst hM
        unfold xappend at hq
        split at hq
        · rename_i e size bytes zr eqs ht
          have hu := (hT _ _ ht).und
          split at hq
          · cases hq
          · rename_i F hF
            split at hq
            · rename_i h1 h2 h3
              obtain ⟨v, h', R, w', E', rfl, h4, h5, h6, h7⟩ := append_ok (rt := o.type) hT hr hu hF (rowOrText_ok hT h1) (Nat.le_of_ble_eq_true h2) (Nat.eq_of_beq_eq_true h3) hfree hV hV2 hq
              refine ⟨R, w', E', _, ?_, .inl rfl, h5, h6, h7, nqc ho hc (by rfl)⟩
              simp [execOp, ho, resolve, hc, hae, invoke, builtin, argTypes2 hty, h4]
            · cases hq
        · cases hq
      · cases hq
    · rename_i hc
      split at hq
      · rename_i s x ty tx hty
        obtain ⟨V, M, rfl, hV, hM⟩ := denL_cons hA
        obtain ⟨V2, M, rfl, hV2, hM⟩ := denL_cons hM
        simp [denL] at hM; subst hM
        obtain ⟨v, h', R, w', E', rfl, h4, h5, h6, h7⟩ := copy_ok (rt := o.type) (tx := tx) (r := r) hT hr hV hV2 hq
        refine ⟨R, w', E', _, ?_, .inl rfl, h5, h6, h7, nqc ho hc (by rfl)⟩
        simp [execOp, ho, resolve, hc, hae, invoke, builtin, argTypes2 hty, h4]
      · cases hq
    · rename_i hc
      split at hq
      · rename_i s x ty tx hty
        obtain ⟨V, M, rfl, hV, hM⟩ := denL_cons hA
        obtain ⟨V2, M, rfl, hV2, hM⟩ := denL_cons hM
        simp [denL] at hM; subst hM
        obtain ⟨v, h', R, w', E', rfl, h4, h5, h6, h7⟩ := delete_ok (rt := o.type) (tx := tx) (r := r) hT hr hV hV2 hq
        refine ⟨R, w', E', _, ?_, .inl rfl, h5, h6, h7, nqc ho hc (by rfl)⟩
        simp [execOp, ho, resolve, hc, hae, invoke, builtin, argTypes2 hty, h4]
      · cases hq
    · rename_i hc
      split at hq
      · rename_i k x j y
        obtain ⟨V, M, rfl, hV, hM⟩ := denL_cons hA
        obtain ⟨V2, M, rfl, hV2, hM⟩ := denL_cons hM
        simp [denL] at hM; subst hM
        cases den_int hV; cases den_int hV2
        split at hq
        · rename_i hk
          cases ikBeq_eq hk
          have hm : (Builtin.max_ c.argTypes o.type #[.int k x, .int k y]).run P w = .ok (.int k (if y > x then y else x)) w := by simp [Builtin.max_, Builtin.max2]
          split at hq
          · rename_i hlt
            rw [ltI_eq] at hlt
            injection hq with hq; subst hq
            refine Yld.ok hr (.mk (V := .int k y) ?_ rfl)
            have hlt' : y > x := by simpa using hlt
            rw [if_pos hlt'] at hm
            simp [execOp, ho, resolve, hc, hae, invoke, builtin, hm]
          · rename_i hlt
            rw [ltI_eq] at hlt
            injection hq with hq; subst hq
            refine Yld.ok hr (.mk (V := .int k x) ?_ rfl)
            have hlt' : ¬ y > x := by simpa using hlt
            rw [if_neg hlt'] at hm
            simp [execOp, ho, resolve, hc, hae, invoke, builtin, hm]
        · cases hq
      · cases hq
    · rename_i hc
      split at hq
      · rename_i k x j y
        obtain ⟨V, M, rfl, hV, hM⟩ := denL_cons hA
        obtain ⟨V2, M, rfl, hV2, hM⟩ := denL_cons hM
        simp [denL] at hM; subst hM
        cases den_int hV; cases den_int hV2
        split at hq
        · rename_i hk
          cases ikBeq_eq hk
          have hm : (Builtin.min_ c.argTypes o.type #[.int k x, .int k y]).run P w = .ok (.int k (if y < x then y else x)) w := by simp [Builtin.min_, Builtin.min2]
          split at hq
          · rename_i hlt
            rw [ltI_eq] at hlt
            injection hq with hq; subst hq
            refine Yld.ok hr (.mk (V := .int k y) ?_ rfl)
            have hlt' : y < x := by simpa using hlt
            rw [if_pos hlt'] at hm
            simp [execOp, ho, resolve, hc, hae, invoke, builtin, hm]
          · rename_i hlt
            rw [ltI_eq] at hlt
            injection hq with hq; subst hq
            refine Yld.ok hr (.mk (V := .int k x) ?_ rfl)
            have hlt' : ¬ y < x := by simpa using hlt
            rw [if_neg hlt'] at hm
            simp [execOp, ho, resolve, hc, hae, invoke, builtin, hm]
        · cases hq
      · cases hq
    · cases hq

theorem xop_ok (hT : ∀ t ti, T t = some ti → TIok P T t ti) (hr : Rel E h w) {op : Op} {q : OR} {r : Nat} (hfree : E r = none) (hv : Vals E t a) (ho : o.op = op) (hq : xop T op t h r = some q) : OpOk P a o E h w r q := by
  cases op
  case move x =>
    simp only [xop] at hq
    split at hq
    · rename_i v hx; injection hq with hq; subst hq; exact (yld_move hv hx ho).ok hr
    · cases hq
  case assign x =>
    simp only [xop] at hq
    split at hq
    · rename_i v hx; injection hq with hq; subst hq; exact (yld_assign hv hx ho).ok hr
    · cases hq
  case pick c x y =>
    simp only [xop] at hq
    split at hq
    · rename_i hc
      split at hq
      · rename_i v hx; injection hq with hq; subst hq; exact (yld_pick (b := true) hv hc hx ho).ok hr
      · cases hq
    · rename_i hc
      split at hq
      · rename_i v hx; injection hq with hq; subst hq; exact (yld_pick (b := false) hv hc hx ho).ok hr
      · cases hq
    · cases hq
  case alloc => exact alloc_ok hT hr hfree ho hq
  case box => exact box_ok hr hfree hv ho hq
  case build => exact build_ok hT hr hv ho hq
  case buildSlice => exact buildSlice_ok hT hr hfree hv ho hq
  case load ty x =>
    simp only [xop] at hq
    split at hq
    · rename_i u hx
      split at hq
      · rename_i v hl
        injection hq with hq; subst hq
        obtain ⟨V, h1, h2⟩ := xload_ok (w := w) hT hr hl (opd_den hv hx)
        exact Yld.ok hr (.mk (by simp [execOp, ho, h1]) h2)
      · cases hq
    · cases hq
  case store ty x y =>
    simp only [xop] at hq
    split at hq
    · rename_i u hx
      split at hq
      · rename_i v hy; exact xstore_ok hT hr hv hx hy ho hq r
      · cases hq
    · cases hq
  case nilCheck => exact nilCheck_ok hr hv ho hq
  case binOp op ty x y yt =>
    simp only [xop] at hq
    split at hq
    · rename_i u hx
      split at hq
      · rename_i v hy; exact xbin_ok hT hr rfl rfl ho hq (opd_den hv hx) (opd_den hv hy) r
      · cases hq
    · cases hq
  case unOp op ty x =>
    simp only [xop] at hq
    split at hq
    · rename_i u hx; exact xun_ok hr hv hx ho hq r
    · cases hq
  case convert => exact conv_ok hT hr hfree hv ho hq
  case makeInterface => exact makeInterface_ok hT hr hv ho hq
  case makeFunc => exact makeFunc_ok hr hv ho hq
  case makeMap ty x =>
    cases x with
    | none => exact makeMap_ok hr hfree ho hq
    | some x => simp [xop] at hq
  case makeSlice => exact makeSlice_ok hT hr hfree hv ho hq
  case slice ty x lo hi mx =>
    cases mx with
    | none => exact slice_ok hT hr hv ho hq
    | some x => simp [xop] at hq
  case fieldAddr => exact fieldAddr_ok hT hr hv ho hq
  case field => exact field_ok hT hr hv ho hq
  case indexAddr => exact indexAddr_ok hT hr hv ho hq
  case index => exact index_ok hT hr hv ho hq
  case lookup ty x i ok =>
    simp only [xop] at hq
    split at hq
    · rename_i u hx
      split at hq
      · rename_i k hi
        split at hq
        · rename_i v hl
          injection hq with hq; subst hq
          obtain ⟨V, h1, h2⟩ := lookup_ok (w := w) hT hr (opd_den hv hx) (opd_den hv hi) hl
          exact Yld.ok hr (.mk (by simp [execOp, ho, h1]) h2)
        · cases hq
      · cases hq
    · cases hq
  case mapUpdate ty m k x =>
    simp only [xop] at hq
    split at hq
    · rename_i um hm
      split at hq
      · rename_i uk hk
        split at hq
        · rename_i ux hx
          obtain ⟨h', w', E', rfl, h1, h2, h3⟩ := update_ok (r := r) hT hr (opd_den hv hm) (opd_den hv hk) (opd_den hv hx) hq
          exact ⟨undef, w', E', .skip, by simp [execOp, ho, h1], .inr ⟨rfl, rfl⟩, h2, h3, rfl, nq ho rfl⟩
        · cases hq
      · cases hq
    · cases hq
  case range ty x =>
    simp only [xop] at hq
    split at hq
    · rename_i u hx
      obtain ⟨v, h', R, w', E', rfl, h4, h5, h6, h7⟩ := range_ok hT hr hfree (opd_den hv hx) hq
      exact ⟨R, w', E', _, by simp [execOp, ho, h4], .inl rfl, h5, h6, h7, nq ho rfl⟩
    · cases hq
  case next x s =>
    simp only [xop] at hq
    split at hq
    · rename_i u hx
      obtain ⟨v, h', R, w', E', rfl, h4, h5, h6, h7⟩ := next_ok (P := P) (ty := o.type) (r := r) hr (opd_den hv hx) hq
      exact ⟨R, w', E', _, by simp [execOp, ho, h4], .inl rfl, h5, h6, h7, nq ho rfl⟩
    · cases hq
  case entry x =>
    simp only [xop] at hq
    split at hq
    · rename_i u hx
      obtain ⟨v, h', R, w', E', rfl, h4, h5, h6, h7⟩ := entry_ok (P := P) (r := r) hr (opd_den hv hx) hq
      exact ⟨R, w', E', _, by simp [execOp, ho, h4], .inl rfl, h5, h6, h7, nq ho rfl⟩
    · cases hq
  case typeAssert x xt ty ok =>
    cases ok with
    | true => exact typeAssert_ok hT hr hv ho hq
    | false => simp [xop] at hq
  case extract => exact extract_ok hr hv ho hq
  case call c => exact xcall_ok hT hr hfree hv ho hq
  all_goals simp [xop] at hq

end
end Go.Ae
