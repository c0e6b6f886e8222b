/- The operations of the abstract evaluator do what the model's operations do: lengths, tuples, functions, interfaces, maps and slices that are made, conversions between bytes and texts. The one condition: the table of types is the program's (TIok). -/
import Derived.Test.YtboklojgbhkhfaaGreatAeSnd6
import Derived.Laws.BytesString
import Derived.Laws.BytesArg
import Derived.Laws.MakeOwn
namespace Go.Ae
section
variable {P : Program} {T : TT} {a : Act} {o : Oper} {E : Env} {h : Tr AO} {w : World} {t : List AV}

theorem extract_ok (hr : Rel E h w) {x : Operand} {i : Nat} {q : OR} {r : Nat} (hv : Vals E t a) (ho : o.op = .extract x i) (hq : xop T (.extract x i) t h r = some q) : OpOk P a o E h w r q := by
  simp only [xop] at hq
  split at hq
  · rename_i vs hx
    obtain ⟨L, hd, hA⟩ := den_tup (opd_den hv hx)
    split at hq
    · rename_i v hg
      injection hq with hq; subst hq
      rw [getN_eq] at hg
      obtain ⟨V, h1, h2⟩ := denL_get hd i hg
      refine Yld.ok hr (.mk (V := V) ?_ h2)
      simp [execOp, ho, hA, Instr.extract, h1]
    · cases hq
  · cases hq

theorem nilCheck_ok (hr : Rel E h w) {x : Operand} {q : OR} {r : Nat} (hv : Vals E t a) (ho : o.op = .nilCheck x) (hq : xop T (.nilCheck x) t h r = some q) : OpOk P a o E h w r q := by
  simp only [xop] at hq
  split at hq
  · rename_i i off hx
    injection hq with hq; subst hq
    have hA := opd_den hv hx
    obtain ⟨b, s, hE, hA'⟩ := den_ptr hA
    refine Yld.ok hr (.mk (V := a.eval x) ?_ hA)
    simp [execOp, ho, hA']
  · rename_i f p q' hx
    injection hq with hq; subst hq
    have hA := opd_den hv hx
    obtain ⟨X, Y, _, _, hA'⟩ := den_fn hA
    refine Yld.ok hr (.mk (V := a.eval x) ?_ hA)
    simp [execOp, ho, hA']
  · cases hq

theorem makeFunc_ok (hr : Rel E h w) {f : Fn} {x y : Array Operand} {q : OR} {r : Nat} (hv : Vals E t a) (ho : o.op = .makeFunc f x y) (hq : xop T (.makeFunc f x y) t h r = some q) : OpOk P a o E h w r q := by
  simp only [xop] at hq
  split at hq
  · rename_i p hx
    split at hq
    · rename_i s hy
      injection hq with hq; subst hq
      refine Yld.ok hr (.mk (V := .func f (x.map a.eval) (y.map a.eval)) ?_ ?_)
      · simp [execOp, ho, Instr.makeFunc]
      · have e1 : (x.toList.map a.eval).toArray = x.map a.eval := by rw [← Array.toList_map, Array.toArray_toList]
        have e2 : (y.toList.map a.eval).toArray = y.map a.eval := by rw [← Array.toList_map, Array.toArray_toList]
        simp only [den, opds_den hv hx, opds_den hv hy, e1, e2]
    · cases hq
  · cases hq

theorem und_noIface {ty : Nat} {ti : TI} (hT : TIok P T ty ti) (hk : ∀ s b z e, ti ≠ { k := .iface, size := s, bytes := b, zero := z, eqs := e }) : ∃ d, P.underlying ty = some d ∧ ∀ ms, d ≠ .interface ms := by
  have hu := hT.und
  obtain ⟨k, size, bytes, zr, eqs⟩ := ti
  cases k <;> simp only at hu
  case iface => exact absurd rfl (hk _ _ _ _)
  case st => obtain ⟨f, hu, _⟩ := hu; exact ⟨_, hu, fun _ h => by cases h⟩
  case ptr => obtain ⟨_, hu⟩ := hu; exact ⟨_, hu, fun _ h => by cases h⟩
  case fn => obtain ⟨_, _, _, hu⟩ := hu; exact ⟨_, hu, fun _ h => by cases h⟩
  case word => obtain ⟨d, hu, hd⟩ := hu; exact ⟨_, hu, fun _ h => by subst h; exact hd⟩
  all_goals exact ⟨_, hu, fun _ h => by cases h⟩

theorem makeInterface_ok (hT : ∀ t ti, T t = some ti → TIok P T t ti) (hr : Rel E h w) {ty : Nat} {x : Operand} {q : OR} {r : Nat} (hv : Vals E t a) (ho : o.op = .makeInterface ty x)
    (hq : xop T (.makeInterface ty x) t h r = some q) : OpOk P a o E h w r q := by
  simp only [xop] at hq
  split at hq
  · rename_i v hx
    have hA := opd_den hv hx
    split at hq
    · cases hq
    · rename_i ti hk ht
      injection hq with hq; subst hq
      obtain ⟨d, hu, hd⟩ := und_noIface (hT _ _ ht) hk
      refine Yld.ok hr (.mk (V := .iface ty (a.eval x)) ?_ (by simp [den, hA]))
      simp only [execOp, ho, Instr.makeInterface, Sem.run_bind, run_underlying hu, Result.andThen_ok]
      cases d <;> first | (exact absurd rfl (hd _)) | simp
    · cases hq
  · cases hq

theorem typeAssert_ok (hT : ∀ t ti, T t = some ti → TIok P T t ti) (hr : Rel E h w) {xt ty : Nat} {x : Operand} {q : OR} {r : Nat} (hv : Vals E t a) (ho : o.op = .typeAssert x xt ty true)
    (hq : xop T (.typeAssert x xt ty true) t h r = some q) : OpOk P a o E h w r q := by
  simp only [xop] at hq
  split at hq
  · rename_i u v hx
    obtain ⟨X, hX, hA⟩ := den_ifc (opd_den hv hx)
    split at hq
    · cases hq
    · cases hq
    · rename_i ti hk ht
      obtain ⟨d, hu, hd⟩ := und_noIface (hT _ _ ht) hk
      split at hq
      · rename_i hb
        injection hq with hq; subst hq
        have hb' : u = ty := Nat.eq_of_beq_eq_true hb
        refine Yld.ok hr (.mk (V := .tuple #[X, .bool true]) ?_ (by simp [den, denL, hX]))
        simp only [execOp, ho, Instr.typeAssert, hA, Sem.run_bind, run_underlying hu, Result.andThen_ok]
        cases d <;> first | (exact absurd rfl (hd _)) | simp [hb']
      · rename_i hb
        have hb' : ¬ u = ty := fun e => by rw [e, Nat.beq_refl] at hb; cases hb
        split at hq
        · rename_i z hz
          injection hq with hq; subst hq
          obtain ⟨Z, hz1, hz2⟩ := zeroOf_den hT hz w
          refine Yld.ok hr (.mk (V := .tuple #[Z, .bool false]) ?_ (by simp [den, denL, hz2]))
          simp only [execOp, ho, Instr.typeAssert, hA, Sem.run_bind, run_underlying hu, Result.andThen_ok]
          cases d <;> first | (exact absurd rfl (hd _)) | simp [hb', hz1]
        · cases hq
  · rename_i hx
    have hA := opd_den hv hx
    simp [den] at hA
    split at hq
    · cases hq
    · cases hq
    · rename_i ti hk ht
      obtain ⟨d, hu, hd⟩ := und_noIface (hT _ _ ht) hk
      split at hq
      · rename_i z hz
        injection hq with hq; subst hq
        obtain ⟨Z, hz1, hz2⟩ := zeroOf_den hT hz w
        refine Yld.ok hr (.mk (V := .tuple #[Z, .bool false]) ?_ (by simp [den, denL, hz2]))
        simp only [execOp, ho, Instr.typeAssert, ← hA, Sem.run_bind, run_underlying hu, Result.andThen_ok]
        cases d <;> first | (exact absurd rfl (hd _)) | simp [hz1]
      · cases hq
  · cases hq

theorem makeMap_ok (hr : Rel E h w) {ty : Nat} {q : OR} {r : Nat} (hfree : E r = none) (ho : o.op = .makeMap ty none) (hq : xop T (.makeMap ty none) t h r = some q) : OpOk P a o E h w r q := by
  simp only [xop] at hq
  obtain ⟨h', hget, hK⟩ := Tr.setK_spec _ _ _ _ _ _ hq
  injection hK with hK
  subst hK
  have hext := Ext.alloc hr hfree (x := .map #[] 0) (s := 0) hget ⟨#[], rfl, by simp [entDen]⟩
  refine ⟨.map (some w.heap.size), _, _, _, ?_, .inl rfl, hext, fun j hj => Env.put_ne _ _ hj, by simp [den, Env.put_self], nq ho rfl⟩
  simp [execOp, ho, Instr.makeMap, newObj, Sem.run]

theorem makeSlice_ok (hT : ∀ t ti, T t = some ti → TIok P T t ti) (hr : Rel E h w) {ty : Nat} {x y : Operand} {q : OR} {r : Nat} (hfree : E r = none) (hv : Vals E t a) (ho : o.op = .makeSlice ty x y)
    (hq : xop T (.makeSlice ty x y) t h r = some q) : OpOk P a o E h w r q := by
  simp only [xop] at hq
  split at hq
  · rename_i k1 n hx
    have hX := den_int (opd_den hv hx)
    split at hq
    · rename_i k2 m hy
      have hY := den_int (opd_den hv hy)
      split at hq
      · rename_i e size bytes zr eqs ht
        have hu := (hT _ _ ht).und
        split at hq
        · rename_i F hF
          split at hq
          · rename_i h1 h2 h3 h4 h5
            have h1' := Nat.le_of_ble_eq_true h1
            have h2' : F.bytes * m ≤ 140737488355328 := Nat.le_of_ble_eq_true h2
            have h3' := Nat.le_of_ble_eq_true h3
            have h4' := Nat.le_of_ble_eq_true h4
            split at hq
            · obtain ⟨h', hget, hK⟩ := Tr.setK_spec _ _ _ _ _ _ hq
              rw [forceN_eq] at hK
              injection hK with hK
              subst hK
              obtain ⟨i, z, hi1, hi2, hi3, hi4, hzd, _⟩ := (hT _ _ hF).info
              have hzs : z.cells.size = F.size := by
                rw [← Nat.eq_of_beq_eq_true h5, ← denL_length (hzd E)]; simp
              have hrep := rep_den (hzd E) (by omega) m
              rw [hzs] at hrep
              have hext := alloc_cells hr hfree hget e ((Array.range (m * F.size)).map (fun i => z.cells[i % F.size]!)) _ [] hrep (by simp) (fun _ => rfl)
              refine ⟨.slice (some ⟨w.heap.size, 0, none⟩) n m, _, _, _, ?_, .inl rfl, hext, fun j hj => Env.put_ne _ _ hj, ?_, nq ho rfl⟩
              · have hbm : ((i.bytes : Int) * (m : Int)) ≤ 281474976710656 := by
                  rw [hi3]
                  have : ((F.bytes * m : Nat) : Int) ≤ 140737488355328 := Int.ofNat_le.2 h2'
                  rw [Int.natCast_mul] at this
                  omega
                have hmk := run_make (P := P) w ty e i z hu hi1 hi4 k1 k2 n m (by omega) (by omega) hbm (by omega)
                simp only [madeCells, hi2, hzs, Int.toNat_natCast] at hmk
                simp only [execOp, ho, hX, hY, Int.ofNat_eq_natCast, Sem.run_bind, hmk, Result.andThen_ok, Sem.run_pure]
              · simp only [den, Env.put_self]
                simp [Nat.mul_div_cancel m (show 0 < F.size by omega)]
                omega
            · cases hq
          · cases hq
        · cases hq
      · cases hq
    · cases hq
  · cases hq

theorem entDen_length : ∀ {l : List (AV × AV × Nat)} {L : List MapEntry}, entDen E l = some L → L.length = l.length
  | [], L, h => by simp [entDen] at h; simp [← h]
  | (k, v, b) :: l, L, h => by
    simp only [entDen] at h
    split at h
    · rename_i r _ _ hr
      injection h with h; subst h
      simp [entDen_length hr]
    · cases h

theorem len_ok (hT : ∀ t ti, T t = some ti → TIok P T t ti) (hr : Rel E h w) {ty rt : Nat} {u v : AV} {A : Value} (hA : den E u = some A) (hq : xlen T ty u h = some v) :
    ∃ V, (Builtin.len_ #[ty] rt #[A]).run P w = .ok V w ∧ den E v = some V := by
  unfold xlen at hq
  cases hD : T ty with
  | none => simp [hD] at hq
  | some D =>
    simp only [hD] at hq
    have hu := (hT ty D hD).und
    obtain ⟨k, size, bytes, zr, eqs⟩ := D
    cases k
    case str =>
      split at hq <;> first | (cases hq; done) | (rename_i hk; cases hk; done) | skip
      cases den_str hA
      rw [forceN_eq] at hq
      injection hq with hq; subst hq
      exact ⟨_, by simp [Builtin.len_, run_underlying hu, size_mk]; rfl, rfl⟩
    case slice =>
      split at hq <;> first | (cases hq; done) | (rename_i hk; cases hk; done) | skip
      · simp [den] at hA; subst hA
        injection hq with hq; subst hq
        exact ⟨_, by simp [Builtin.len_, run_underlying hu]; rfl, rfl⟩
      · obtain ⟨b, s, _, _, rfl⟩ := den_slc hA
        injection hq with hq; subst hq
        exact ⟨_, by simp [Builtin.len_, run_underlying hu]; rfl, rfl⟩
    case arr n e =>
      cases u <;> (
        simp only at hq
        injection hq with hq; subst hq
        exact ⟨_, by simp [Builtin.len_, run_underlying hu]; rfl, rfl⟩)
    case map =>
      split at hq <;> first | (cases hq; done) | (rename_i hk; cases hk; done) | skip
      · simp [den] at hA; subst hA
        injection hq with hq; subst hq
        exact ⟨_, by simp [Builtin.len_, run_underlying hu]; rfl, rfl⟩
      · obtain ⟨b, s, hE, rfl⟩ := den_map hA
        split at hq
        · rename_i es clk hi
          rw [forceN_eq] at hq
          injection hq with hq; subst hq
          obtain ⟨b', s', x, h1, h2, ents, rfl, h3⟩ := hr.obj _ _ hi
          rw [hE] at h1
          injection h1 with h1
          injection h1 with e1 e2
          subst e1
          refine ⟨.int .i64 ents.size, ?_, ?_⟩
          · simp [Builtin.len_, run_underlying hu, getObj, Sem.run, h2, goInt]
          · have : ents.size = es.length := by rw [← Array.length_toList]; exact entDen_length h3
            simp [den, this]
        · cases hq
    all_goals
      split at hq <;> first | (cases hq; done) | (rename_i hk; cases hk; done)

/-! ### conversions -/

theorem natBytes_eq : ∀ (l : List UInt8), natBytes l = l.map fun b => AV.int .u8 (b.toNat : Int)
  | [] => rfl
  | b :: l => by simp [natBytes, natBytes_eq l]

theorem natBytes_den : ∀ (l : List UInt8), denL E (natBytes l) = some (l.map fun b => Value.int .u8 (b.toNat : Int))
  | [] => rfl
  | b :: l => denL_mk (by simp [den]) (natBytes_den l)

theorem bytesNat_den : ∀ (vs : List AV) (l : List UInt8) (R : List Value), bytesNat vs = some l → denL E vs = some R →
    ∃ ns : List Nat, R = ns.map (fun (n : Nat) => Value.int .u8 (n : Int)) ∧ l = ns.map UInt8.ofNat
  | [], l, R, h, hd => by simp [bytesNat] at h; simp [denL] at hd; subst h hd; exact ⟨[], rfl, rfl⟩
  | v :: vs, l, R, h, hd => by
    obtain ⟨V, M, rfl, hV, hM⟩ := denL_cons hd
    unfold bytesNat at h
    split at h
    · rename_i h1; cases h1
    · rename_i n m h1
      injection h1 with e1 e2
      subst e1 e2
      split at h
      · rename_i r hr
        injection h with h; subst h
        obtain ⟨ns, h2, h3⟩ := bytesNat_den _ r M hr hM
        cases den_int hV
        exact ⟨n :: ns, by simp [h2], by simp [h3]⟩
      · cases h
    · cases h

end
end Go.Ae
