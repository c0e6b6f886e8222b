/- The operations of the abstract evaluator do what the model's operations do: addresses, parts, slices, lengths, tuples, functions, interfaces. The one condition: the table of types is the program's (TIok). -/
import Derived.Test.YtboklojgbhkhfaaGreatAeSnd5
namespace Go.Ae
section
variable {P : Program} {T : TT} {a : Act} {o : Oper} {E : Env} {h : Tr AO} {w : World} {t : List AV}

theorem getField {fields : Array Field} {fs : List (Nat × Nat)} (hfs : fields.toList.map (fun f => (f.offset, f.type)) = fs) {n fo ft : Nat} (hf : fieldOf fs n = some (fo, ft)) :
    ∃ f, fields[n]? = some f ∧ f.offset = fo ∧ f.type = ft := by
  rw [fieldOf_eq, ← hfs, List.getElem?_map, Array.getElem?_toList] at hf
  cases hx : fields[n]? with
  | none => simp [hx] at hf
  | some f =>
    simp [hx] at hf
    exact ⟨f, rfl, hf.1, hf.2⟩

theorem fieldAddr_ok (hT : ∀ t ti, T t = some ti → TIok P T t ti) (hr : Rel E h w) {ty f : Nat} {x : Operand} {q : OR} {r : Nat} (hv : Vals E t a) (ho : o.op = .fieldAddr ty x f)
    (hq : xop T (.fieldAddr ty x f) t h r = some q) : OpOk P a o E h w r q := by
  simp only [xop] at hq
  split at hq
  · rename_i i off hx
    obtain ⟨b, s, hE, hA⟩ := den_ptr (opd_den hv hx)
    split at hq
    · rename_i fs size bytes zr eqs ht
      obtain ⟨fields, hu, hfs, hfi⟩ := (hT _ _ ht).und
      split at hq
      · rename_i fo ft hf
        obtain ⟨fd, h1, h2, h3⟩ := getField hfs hf
        split at hq
        · rename_i F hF
          split at hq
          · rename_i hz
            rw [forceN_eq] at hq
            injection hq with hq; subst hq
            have hz' : ¬ F.size = 0 := fun e => by rw [e] at hz; cases hz
            refine Yld.ok hr (.mk (V := .pointer (some ⟨b, off + fo, none⟩)) ?_ (by simp only [den, hE]; rfl))
            have hs := run_sizeOf' (hT _ _ hF) w
            simp only [execOp, ho, Instr.fieldAt, Sem.run_bind, run_underlying hu, Result.andThen_ok, h1, hA, Instr.sureAddr, Sem.run_pure, fieldPlace, h3, hs, hz', if_false, h2, addr_add]
          · cases hq
        · cases hq
      · cases hq
    · cases hq
  · cases hq

theorem partA_ok (hT : ∀ t ti, T t = some ti → TIok P T t ti) {ty off : Nat} {cs : List AV} {C : List Value} {v : AV} (hd : denL E cs = some C) (hq : partA T ty cs off = some v) :
    ∃ V, (part ty C.toArray off).run P w = .ok V w ∧ den E v = some V := by
  unfold partA at hq
  have agg : ∀ ti : TI, T ty = some ti → aggK ti.k = true → ∀ rs, seg cs off ti.size = some rs → ∃ V, (part ty C.toArray off).run P w = .ok V w ∧ den E (.agg rs) = some V := by
    intro ti ht hk rs hs
    obtain ⟨R, h1, h2, h3, h4⟩ := denL_seg hd hs
    refine ⟨.agg R.toArray, ?_, by simp [den, h1]⟩
    have e : C.toArray.extract off (off + ti.size) = R.toArray := by
      rw [h3]
      apply Array.ext'
      simp
    simp only [part, Sem.run_bind, run_isAgg' (hT _ _ ht), run_sizeOf' (hT _ _ ht), hk, Result.andThen_ok, if_true, Sem.run_pure, e]
  split at hq
  · rename_i fs size bytes zr eqs ht
    split at hq
    · rename_i rs hs
      injection hq with hq; subst hq
      exact agg _ ht rfl rs hs
    · cases hq
  · rename_i n e size bytes zr eqs ht
    split at hq
    · rename_i rs hs
      injection hq with hq; subst hq
      exact agg _ ht rfl rs hs
    · cases hq
  · rename_i ti h1 h2 ht
    rw [getN_eq] at hq
    obtain ⟨V, h3, h4⟩ := denL_get hd off hq
    refine ⟨V, ?_, h4⟩
    have hk : aggK ti.k = false := by
      obtain ⟨k, size, bytes, zr, eqs⟩ := ti
      cases k <;> first | rfl | (exfalso; exact h1 _ _ _ _ _ rfl) | (exfalso; exact h2 _ _ _ _ _ _ rfl)
    simp [part, run_isAgg' (hT _ _ ht), hk, h3]
  · cases hq

theorem field_ok (hT : ∀ t ti, T t = some ti → TIok P T t ti) (hr : Rel E h w) {ty f : Nat} {x : Operand} {q : OR} {r : Nat} (hv : Vals E t a) (ho : o.op = .field ty x f)
    (hq : xop T (.field ty x f) t h r = some q) : OpOk P a o E h w r q := by
  simp only [xop] at hq
  split at hq
  · rename_i cs hx
    obtain ⟨C, hd, hA⟩ := den_agg (opd_den hv hx)
    split at hq
    · rename_i fs size bytes zr eqs ht
      obtain ⟨fields, hu, hfs, hfi⟩ := (hT _ _ ht).und
      split at hq
      · rename_i fo ft hf
        obtain ⟨fd, h1, h2, h3⟩ := getField hfs hf
        split at hq
        · rename_i v hp
          injection hq with hq; subst hq
          obtain ⟨V, h4, h5⟩ := partA_ok (w := w) hT hd hp
          refine Yld.ok hr (.mk ?_ h5)
          simp only [execOp, ho, Instr.field, Sem.run_bind, run_underlying hu, Result.andThen_ok, h1, hA, asAgg, Sem.run_pure, h2, h3, h4]
        · cases hq
      · cases hq
    · cases hq
  · cases hq

theorem indexAddr_ok (hT : ∀ t ti, T t = some ti → TIok P T t ti) (hr : Rel E h w) {ty : Nat} {x i : Operand} {q : OR} {r : Nat} (hv : Vals E t a) (ho : o.op = .indexAddr ty x i)
    (hq : xop T (.indexAddr ty x i) t h r = some q) : OpOk P a o E h w r q := by
  simp only [xop] at hq
  split at hq
  · rename_i u hx
    have hA := opd_den hv hx
    split at hq
    · rename_i j hi
      have hI := opd_den hv hi
      split at hq
      · rename_i v hp
        injection hq with hq; subst hq
        unfold xindexAddr at hp
        split at hp
        · rename_i k n
          have hI := den_int hI
          split at hp
          · rename_i b off base len esz
            obtain ⟨bl, s, hE, hl, hA⟩ := den_slc hA
            split at hp
            · rename_i e size bytes zr eqs ht
              have hu := (hT _ _ ht).und
              split at hp
              · rename_i F hF
                split at hp
                · rename_i h1 h2 h3
                  rw [forceN_eq] at hp
                  injection hp with hp; subst hp
                  have h1' := Nat.eq_of_beq_eq_true h1
                  have h3' : n < len := by simpa [Nat.blt_eq] using h3
                  refine Yld.ok hr (.mk (V := .pointer (some ⟨bl, off + n * esz, none⟩)) ?_ (by simp only [den, hE]; rfl))
                  have hs := run_sizeOf' (hT _ _ hF) w
                  have hc : ¬ (s - off) / esz = 0 := by omega
                  simp only [execOp, ho, Instr.indexAt, Sem.run_bind, hI, asIntOf, Sem.run_pure, Result.andThen_ok, run_underlying hu, hA, if_neg hc]
                  rw [if_pos (by simp; omega)]
                  simp [hs, h1', addr_add]
                · cases hp
              · cases hp
            · cases hp
          · rename_i b off
            obtain ⟨bl, s, hE, hA⟩ := den_ptr hA
            split at hp
            · rename_i m e size bytes zr eqs ht
              have hu := (hT _ _ ht).und
              split at hp
              · rename_i F hF
                split at hp
                · rename_i h3
                  rw [forceN_eq] at hp
                  injection hp with hp; subst hp
                  have h3' : n < m := by simpa [Nat.blt_eq] using h3
                  refine Yld.ok hr (.mk (V := .pointer (some ⟨bl, off + n * F.size, none⟩)) ?_ (by simp only [den, hE]; rfl))
                  have hs := run_sizeOf' (hT _ _ hF) w
                  simp only [execOp, ho, Instr.indexAt, Sem.run_bind, hI, asIntOf, Sem.run_pure, Result.andThen_ok, run_underlying hu, hA, Instr.sureAddr]
                  rw [if_pos (by simp; omega)]
                  simp [hs, addr_add]
                · cases hp
              · cases hp
            · cases hp
          · cases hp
        · cases hp
      · cases hq
    · cases hq
  · cases hq

theorem getB_eq : ∀ (l : List UInt8) (n : Nat), getB l n = l[n]?
  | [], _ => by simp [getB]
  | _ :: _, 0 => by simp [getB]
  | a :: l, n + 1 => by simp [getB, getB_eq l n]

theorem index_ok (hT : ∀ t ti, T t = some ti → TIok P T t ti) (hr : Rel E h w) {ty : Nat} {x i : Operand} {q : OR} {r : Nat} (hv : Vals E t a) (ho : o.op = .index ty x i)
    (hq : xop T (.index ty x i) t h r = some q) : OpOk P a o E h w r q := by
  simp only [xop] at hq
  split at hq
  · rename_i u hx
    have hA := opd_den hv hx
    split at hq
    · rename_i j hi
      have hI := opd_den hv hi
      split at hq
      · rename_i v hp
        injection hq with hq; subst hq
        unfold xindex at hp
        split at hp
        · rename_i k n
          have hI := den_int hI
          split at hp
          · rename_i l
            have hA := den_str hA
            split at hp
            · rename_i size bytes zr eqs ht
              have hu := (hT _ _ ht).und
              split at hp
              · rename_i b hb
                rw [forceN_eq] at hp
                injection hp with hp; subst hp
                rw [getB_eq] at hb
                have hlt := (List.getElem?_eq_some_iff.1 hb)
                obtain ⟨hlt, hbe⟩ := hlt
                have hsz : n < (ByteArray.mk l.toArray).size := by rw [size_mk]; exact hlt
                have hg : (ByteArray.mk l.toArray)[n]? = some b := by
                  rw [ByteArray.getElem?_lt' _ _ hsz]
                  congr 1
                refine Yld.ok hr (.mk (V := .int .u8 b.toNat) ?_ rfl)
                simp only [execOp, ho, Instr.index, Sem.run_bind, hI, asIntOf, Sem.run_pure, Result.andThen_ok, run_underlying hu, hA, Int.ofNat_eq_natCast]
                rw [if_pos (by omega)]
                simp [hg]
              · cases hp
            · cases hp
          · rename_i cs
            obtain ⟨C, hd, hA⟩ := den_agg hA
            split at hp
            · rename_i m e size bytes zr eqs ht
              have hu := (hT _ _ ht).und
              split at hp
              · rename_i F hF
                split at hp
                · rename_i h3
                  have h3' : n < m := by simpa [Nat.blt_eq] using h3
                  obtain ⟨V, h4, h5⟩ := partA_ok (w := w) hT hd hp
                  refine Yld.ok hr (.mk ?_ h5)
                  have hs := run_sizeOf' (hT _ _ hF) w
                  simp only [execOp, ho, Instr.index, Sem.run_bind, hI, asIntOf, Sem.run_pure, Result.andThen_ok, run_underlying hu, hA]
                  rw [if_pos (by simp; omega)]
                  simp only [Sem.run_bind, hs, Result.andThen_ok, Int.ofNat_eq_natCast, Int.toNat_natCast]
                  have e : n * F.size = n.mul F.size := rfl
                  rw [e, h4]
                  rfl
                · cases hp
              · cases hp
            · cases hp
          · cases hp
        · cases hp
      · cases hq
    · cases hq
  · cases hq

/-! ### slice expressions -/

theorem sliceBound_ok (hv : Vals E t a) {x : Operand} {k : IntKind} {n y : Nat} (hx : opd t x = some (.int k (.ofNat n))) (hn : n ≤ y) (code : BoundsCode) :
    (Instr.sliceBound (a.eval x) y code).run P w = .ok n w := by
  have := den_int (opd_den hv hx)
  simp only [this, Instr.sliceBound, asIntOf, Sem.run_bind, Sem.run_pure, Result.andThen_ok]
  rw [if_pos (by simp; omega)]
  simp

theorem bounds_ok (hv : Vals E t a) {len cap : Nat} {lo hi : Option Operand} {p q : Nat} {sl : Bool} (hq : bounds t len lo hi = some (p, q)) (hc : q ≤ cap) :
    (Instr.sliceBounds sl len cap (lo.map a.eval) (hi.map a.eval) none).run P w = .ok (p, q, cap) w := by
  unfold bounds at hq
  split at hq
  · cases hq
  · rename_i b hb
    split at hq
    · cases hq
    · rename_i c hcl
      split at hq
      · rename_i hle
        injection hq with hq
        injection hq with e1 e2
        subst e1 e2
        have hle' := Nat.le_of_ble_eq_true hle
        have hH : (hi = none ∧ b = len) ∨ ∃ x k, hi = some x ∧ opd t x = some (.int k (.ofNat b)) := by
          cases hi with
          | none => simp at hb; exact .inl ⟨rfl, hb.symm⟩
          | some x =>
            simp only at hb
            split at hb
            · rename_i k n hx
              injection hb with hb; subst hb
              exact .inr ⟨x, k, rfl, hx⟩
            · cases hb
        have hL : (lo = none ∧ c = 0) ∨ ∃ x k, lo = some x ∧ opd t x = some (.int k (.ofNat c)) := by
          cases lo with
          | none => simp at hcl; exact .inl ⟨rfl, hcl.symm⟩
          | some x =>
            simp only at hcl
            split at hcl
            · rename_i k n hx
              injection hcl with hcl; subst hcl
              exact .inr ⟨x, k, rfl, hx⟩
            · cases hcl
        rcases hH with ⟨rfl, rfl⟩ | ⟨x, k, rfl, hx⟩ <;> rcases hL with ⟨rfl, rfl⟩ | ⟨y, j, rfl, hy⟩
        · simp [Instr.sliceBounds]
        · simp [Instr.sliceBounds, sliceBound_ok hv hy hle']
        · simp [Instr.sliceBounds, sliceBound_ok hv hx hc]
        · simp [Instr.sliceBounds, sliceBound_ok hv hx hc, sliceBound_ok hv hy hle']
      · cases hq

theorem slice_ok (hT : ∀ t ti, T t = some ti → TIok P T t ti) (hr : Rel E h w) {ty : Nat} {x : Operand} {lo hi : Option Operand} {q : OR} {r : Nat} (hv : Vals E t a) (ho : o.op = .slice ty x lo hi none)
    (hq : xop T (.slice ty x lo hi none) t h r = some q) : OpOk P a o E h w r q := by
  simp only [xop] at hq
  split at hq
  · rename_i u hx
    have hA := opd_den hv hx
    unfold xslice at hq
    split at hq
    · cases hq
    · rename_i D hD
      have hu := (hT _ _ hD).und
      obtain ⟨k, size, bytes, zr, eqs⟩ := D
      cases k
      case str =>
        split at hq <;> first | (cases hq; done) | (rename_i hk; cases hk; done) | skip
        rename_i l _
        have hA := den_str hA
        split at hq
        · rename_i p q' hb
          split at hq
          · rename_i hle
            rw [dropK_eq, takeK_eq] at hq
            injection hq with hq; subst hq
            have hle' := Nat.le_of_ble_eq_true hle
            have hbn := bounds_ok (P := P) (w := w) (sl := false) hv hb hle'
            refine Yld.ok hr (.mk (V := .string ⟨((l.drop p).take (q' - p)).toArray⟩) ?_ rfl)
            simp only [execOp, ho, Instr.sliceAt, Instr.slice, Sem.run_bind, run_underlying hu, Result.andThen_ok, hA, size_mk, Option.map_none, Option.isSome_none, Bool.false_eq_true, if_false, Sem.run_pure, hbn, ByteArray.extract_mk]
          · cases hq
        · cases hq
      case slice e =>
        split at hq <;> first | (cases hq; done) | (rename_i hk; cases hk; done) | skip
        · rename_i e2 hk
          injection hk with hk; subst hk
          simp [den] at hA
          split at hq
          · cases hq
          · rename_i F hF
            split at hq
            · rename_i hb
              injection hq with hq; subst hq
              have hbn := bounds_ok (P := P) (w := w) (sl := true) hv hb (Nat.le_refl 0)
              have hs := run_sizeOf' (hT _ _ hF) w
              refine Yld.ok hr (.mk (V := .slice none 0 0) ?_ rfl)
              simp only [execOp, ho, Instr.sliceAt, Instr.slice, Sem.run_bind, run_underlying hu, Result.andThen_ok, ← hA, Option.map_none, hbn, hs, Sem.run_pure]
              simp
            · cases hq
        · rename_i e2 i off base len esz hk
          injection hk with hk; subst hk
          obtain ⟨b, s, hE, hl, hA⟩ := den_slc hA
          split at hq
          · cases hq
          · rename_i F hF
            split at hq
            · rename_i h1 h2
              have h1' := Nat.eq_of_beq_eq_true h1
              have h2' := Nat.le_of_ble_eq_true h2
              split at hq
              · rename_i p q' hb
                split at hq
                · rename_i hle
                  have hle' := Nat.le_of_ble_eq_true hle
                  have hpq : p ≤ q' := by
                    unfold bounds at hb
                    split at hb
                    · cases hb
                    · split at hb
                      · cases hb
                      · split at hb
                        · rename_i hle
                          injection hb with hb
                          injection hb with e1 e2
                          have := Nat.le_of_ble_eq_true hle
                          omega
                        · cases hb
                  have hbn := bounds_ok (P := P) (w := w) (sl := true) (cap := (s - off) / esz) hv hb (by omega)
                  have hs := run_sizeOf' (hT _ _ hF) w
                  have hrun : (execOp a.eval o).run P w = .ok (.value (.slice (if (s - off) / esz = p then some ⟨b, if (s - off) / esz = 0 then base else off, none⟩ else some ⟨b, (if (s - off) / esz = 0 then base else off) + p * esz, none⟩) (q' - p) ((s - off) / esz - p))) w := by
                    simp only [execOp, ho, Instr.sliceAt, Instr.slice, Sem.run_bind, run_underlying hu, Result.andThen_ok, hA, Option.map_none, hbn, hs, Sem.run_pure, Option.map_some, addr_add, h1']
                  split at hq
                  · rw [forceN_eq] at hq
                    injection hq with hq; subst hq
                    refine Yld.ok hr (.mk hrun ?_)
                    simp only [den, hE, Nat.sub_zero, Nat.zero_mul, Nat.add_zero]
                    rw [if_pos (by omega)]
                    simp
                  · rename_i p
                    rw [forceN_eq, forceN_eq] at hq
                    injection hq with hq; subst hq
                    refine Yld.ok hr (.mk hrun ?_)
                    have e1 : (s - (off + (p + 1) * esz)) / esz = (s - off) / esz - (p + 1) := by
                      rw [← Nat.sub_sub, Nat.mul_comm, Nat.sub_mul_div]
                    have e2 : off.add ((Nat.succ p).mul esz) = off + (p + 1) * esz := rfl
                    have hc : ¬ (s - off) / esz = 0 := by omega
                    simp only [den, hE, e2, e1]
                    rw [if_pos (by show q' - (p + 1) ≤ _; omega)]
                    by_cases hcp : (s - off) / esz = p + 1
                    · rw [if_pos (by omega), if_pos hcp, if_neg hc]; rfl
                    · rw [if_neg (by omega), if_neg hcp, if_neg hc]; rfl
                · cases hq
              · cases hq
            · cases hq
      case arr n e =>
        split at hq <;> first | (cases hq; done) | (rename_i hk; cases hk; done) | skip
        rename_i n2 e2 i hk
        injection hk with hk1 hk2; subst hk1 hk2
        obtain ⟨b, s, hE, hA⟩ := den_ptr hA
        split at hq
        · cases hq
        · rename_i F hF
          split at hq
          · rename_i cs hi
            obtain ⟨b', s', c, ee, fr, vs, rest, hE', hb, hsz, hf, hd, hc, hre⟩ := hr.cells hi
            rw [hE] at hE'
            injection hE' with hE'
            injection hE' with e1 e2
            subst e1 e2
            split at hq
            · rename_i h1 h2
              have h1' : cs.length = n * F.size := Nat.eq_of_beq_eq_true h1
              have h2' := Nat.le_of_ble_eq_true h2
              have hs0 : s = n * F.size := by
                rw [← hsz, ← h1', ← denL_length hd, ← Array.length_toList, hc, hre rfl]; simp
              have hdiv : s / F.size = n := by rw [hs0]; exact Nat.mul_div_cancel _ h2'
              split at hq
              · rename_i p q' hb
                split at hq
                · rename_i hle
                  have hle' := Nat.le_of_ble_eq_true hle
                  have hpq : p ≤ q' := by
                    unfold bounds at hb
                    split at hb
                    · cases hb
                    · split at hb
                      · cases hb
                      · split at hb
                        · rename_i hle
                          injection hb with hb
                          injection hb with e1 e2
                          have := Nat.le_of_ble_eq_true hle
                          omega
                        · cases hb
                  have hbn := bounds_ok (P := P) (w := w) (sl := false) (cap := n) hv hb (by omega)
                  have hs := run_sizeOf' (hT _ _ hF) w
                  have hrun : (execOp a.eval o).run P w = .ok (.value (.slice (some (if n = p then ⟨b, 0, none⟩ else ⟨b, 0 + p * F.size, none⟩)) (q' - p) (n - p))) w := by
                    simp only [execOp, ho, Instr.sliceAt, Instr.sureAddr, Sem.run_bind, run_underlying hu, Result.andThen_ok, hA, Option.map_none, hbn, hs, Sem.run_pure, addr_add]
                  split at hq
                  · rw [forceN_eq] at hq
                    injection hq with hq; subst hq
                    refine Yld.ok hr (.mk hrun ?_)
                    simp only [den, hE, Nat.sub_zero, Nat.zero_mul, Nat.add_zero, hdiv]
                    rw [if_pos (by omega)]
                    simp
                  · rename_i p
                    rw [forceN_eq, forceN_eq] at hq
                    injection hq with hq; subst hq
                    refine Yld.ok hr (.mk hrun ?_)
                    have e1 : (s - (p + 1) * F.size) / F.size = n - (p + 1) := by
                      rw [Nat.mul_comm, Nat.sub_mul_div, hdiv]
                    have e2 : (Nat.succ p).mul F.size = (p + 1) * F.size := rfl
                    simp only [den, hE, e2, e1]
                    rw [if_pos (by show q' - (p + 1) ≤ _; omega)]
                    by_cases hcp : n = p + 1
                    · rw [if_pos (by omega), if_pos hcp]; rfl
                    · rw [if_neg (by omega), if_neg hcp, Nat.zero_add]; rfl
                · cases hq
              · cases hq
            · cases hq
          · cases hq
      all_goals
        split at hq <;> first | (cases hq; done) | (rename_i hk; cases hk; done)
  · cases hq

end
end Go.Ae
