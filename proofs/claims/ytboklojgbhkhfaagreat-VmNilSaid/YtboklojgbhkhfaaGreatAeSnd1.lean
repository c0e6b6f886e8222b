/- The operations of the abstract evaluator do what the model's operations do: first part: constants, types, values alone. The one condition: the table of types is the program's (TIok). -/
import Derived.Test.YtboklojgbhkhfaaGreatAeRel
import Derived.WalkKit
import Derived.Laws.StructEq
import Derived.Laws.Concat
namespace Go.Ae

mutual
theorem ofV_den (E : Env) : ∀ (v : Value) (a : AV), ofV v = some a → den E a = some v
  | .bool b, a, h => by simp [ofV] at h; subst h; rfl
  | .int k n, a, h => by simp [ofV] at h; subst h; rfl
  | .float k n, a, h => by simp [ofV] at h
  | .complex k n m, a, h => by simp [ofV] at h
  | .string ⟨⟨l⟩⟩, a, h => by simp [ofV] at h; subst h; rfl
  | .pointer none, a, h => by simp [ofV] at h; subst h; rfl
  | .pointer (some _), a, h => by simp [ofV] at h
  | .slice none 0 0, a, h => by simp [ofV] at h; subst h; rfl
  | .slice none 0 (n + 1), a, h => by simp [ofV] at h
  | .slice none (n + 1) _, a, h => by simp [ofV] at h
  | .slice (some _) _ _, a, h => by simp [ofV] at h
  | .map none, a, h => by simp [ofV] at h; subst h; rfl
  | .map (some _), a, h => by simp [ofV] at h
  | .chan _, a, h => by simp [ofV] at h
  | .func _ _ _, a, h => by simp [ofV] at h
  | .nilFunc, a, h => by simp [ofV] at h; subst h; rfl
  | .iface _ _, a, h => by simp [ofV] at h
  | .nilIface, a, h => by simp [ofV] at h; subst h; rfl
  | .agg ⟨l⟩, a, h => by
    simp only [ofV] at h
    cases hl : ofVL l with
    | none => simp [hl] at h
    | some r =>
      simp [hl] at h
      subst h
      simp [den, ofVL_den E l r hl]
  | .tuple ⟨l⟩, a, h => by
    simp only [ofV] at h
    cases hl : ofVL l with
    | none => simp [hl] at h
    | some r =>
      simp [hl] at h
      subst h
      simp [den, ofVL_den E l r hl]
theorem ofVL_den (E : Env) : ∀ (l : List Value) (r : List AV), ofVL l = some r → denL E r = some l
  | [], r, h => by simp [ofVL] at h; subst h; rfl
  | v :: l, r, h => by
    simp only [ofVL] at h
    cases hv : ofV v with
    | none => simp [hv] at h
    | some a =>
      cases hl : ofVL l with
      | none => simp [hv, hl] at h
      | some b =>
        simp [hv, hl] at h
        subst h
        exact denL_mk (ofV_den E v a hv) (ofVL_den E l b hl)
end

/-- The temporaries read the frame's. -/
def Vals (E : Env) (t : List AV) (a : Act) : Prop := denL E t = some a.tmps.toList

theorem opd_den {E : Env} {t : List AV} {a : Act} (hv : Vals E t a) {x : Operand} {v : AV} (h : opd t x = some v) : den E v = some (a.eval x) := by
  cases x with
  | tmp i =>
    simp only [opd, getN_eq] at h
    obtain ⟨V, h1, h2⟩ := denL_get hv i h
    rw [h2]
    simp only [Act.eval]
    rw [Array.getElem?_toList] at h1
    simp [Array.getD_eq_getD_getElem?, h1]
  | const c => exact ofV_den E c v h
  | global g => simp [opd] at h
  | func f => simp [opd] at h; subst h; rfl

theorem opds_den {E : Env} {t : List AV} {a : Act} (hv : Vals E t a) : ∀ {l : List Operand} {r : List AV}, opds t l = some r → denL E r = some (l.map a.eval)
  | [], r, h => by simp [opds] at h; subst h; rfl
  | x :: l, r, h => by
    simp only [opds] at h
    cases hx : opd t x with
    | none => simp [hx] at h
    | some v =>
      cases hl : opds t l with
      | none => simp [hx, hl] at h
      | some q =>
        simp [hx, hl] at h
        subst h
        exact denL_mk (opd_den hv hx) (opds_den hv hl)

/-- The evaluator's table of types is the program's. -/
structure TIok (P : Program) (T : TT) (t : Nat) (ti : TI) : Prop where
  info : ∃ i z, P.info? t = some i ∧ i.size = ti.size ∧ i.bytes = ti.bytes ∧ i.zero = some z ∧ (∀ E, denL E ti.zero = some z.cells.toList) ∧
    (match ti.k with
      | .st _ | .arr _ _ => ∃ c, z = .agg c
      | _ => z.cells = #[z])
  und : match ti.k with
    | .bool => P.underlying t = some .bool
    | .int k => P.underlying t = some (.int k)
    | .str => P.underlying t = some .string
    | .slice e => P.underlying t = some (.slice e)
    | .arr n e => P.underlying t = some (.array n e)
    | .map k e => P.underlying t = some (.map k e)
    | .st fs => ∃ fields : Array Field, P.underlying t = some (.struct fields) ∧ fields.toList.map (fun f => (f.offset, f.type)) = fs ∧ ∀ f ∈ fields.toList, ∃ i, P.info? f.type = some i
    | .ptr => ∃ e, P.underlying t = some (.pointer e)
    | .fn => ∃ a b c, P.underlying t = some (.func a b c)
    | .iface => ∃ ms, P.underlying t = some (.interface ms)
    | .word => ∃ d, P.underlying t = some d ∧ (match d with | .struct _ | .array _ _ | .interface _ => False | _ => True)
  eqs : ti.eqs ≠ [] → P.eqGuardType P.depth t = false ∧ ∀ (E : Env) (w : World) (xs ys : List AV) (X Y : List Value) (r : Bool), eqCells ti.eqs xs ys = some r →
    denL E xs = some X → denL E ys = some Y → (Op.equalIn 10000 t (.agg X.toArray) (.agg Y.toArray)).run P w = .ok r w

/-- What an operation has come to, as the model sees it. -/
def OpOk (P : Program) (a : Act) (o : Oper) (E : Env) (h : Tr AO) (w : World) (r : Nat) : OR → Prop
  | .val v h' => ∃ V w' E' nx, (execOp a.eval o).run P w = .ok nx w' ∧ (nx = .value V ∨ nx = .skip ∧ V = undef) ∧ Ext E h w E' h' w' ∧ (∀ j, j ≠ r → E' j = E j) ∧ den E' v = some V ∧
      (quiet o.op = true → nx = .value V ∧ w' = w ∧ E' = E)
  | .call f args => ∃ vs, denL E args = some vs ∧ ∀ fn, P.funcs[f]? = some fn → fn.name ≠ "runtime.NumGoroutine" → fn.body.isSome = true →
      (execOp a.eval o).run P w = .ok (.enter f vs.toArray) w

/-- An operation that only yields a value. -/
def Yld (P : Program) (a : Act) (o : Oper) (E : Env) (w : World) (v : AV) : Prop := ∃ V, (execOp a.eval o).run P w = .ok (.value V) w ∧ den E v = some V

theorem Yld.ok {P : Program} {a : Act} {o : Oper} {E : Env} {h : Tr AO} {w : World} {r : Nat} {v : AV} (hr : Rel E h w) (hy : Yld P a o E w v) : OpOk P a o E h w r (.val v h) := by
  obtain ⟨V, h1, h2⟩ := hy
  exact ⟨V, w, E, _, h1, .inl rfl, Ext.refl hr, fun _ _ => rfl, h2, fun _ => ⟨rfl, rfl, rfl⟩⟩

/-- An operation that is not one of those that only yield a value. -/
theorem nq {o : Oper} {op : Op} {C : Prop} (ho : o.op = op) (hf : quiet op = false) : quiet o.op = true → C := fun h => by rw [ho, hf] at h; cases h

theorem Yld.mk {P : Program} {a : Act} {o : Oper} {E : Env} {w : World} {v : AV} {V : Value} (h1 : (execOp a.eval o).run P w = .ok (.value V) w) (h2 : den E v = some V) : Yld P a o E w v := ⟨V, h1, h2⟩

section
variable {P : Program} {T : TT} {a : Act} {o : Oper} {E : Env} {h : Tr AO} {w : World} {t : List AV}

theorem info_of {ty : Nat} {ti : TI} (hT : TIok P T ty ti) : ∃ i, P.info? ty = some i ∧ i.size = ti.size ∧ i.bytes = ti.bytes :=
  let ⟨i, _, h1, h2, h3, _⟩ := hT.info
  ⟨i, h1, h2, h3⟩

theorem run_sizeOf' {ty : Nat} {ti : TI} (hT : TIok P T ty ti) (w : World) : (sizeOf ty).run P w = .ok ti.size w := by
  obtain ⟨i, h1, h2, _⟩ := info_of hT
  simp [sizeOf, typeInfo, h1, h2]

theorem run_zero' {ty : Nat} {ti : TI} (hT : TIok P T ty ti) (w : World) : ∃ z, (zeroValue ty).run P w = .ok z w ∧ ∀ E, denL E ti.zero = some z.cells.toList := by
  obtain ⟨i, z, h1, h2, h3, h4, h5, _⟩ := hT.info
  exact ⟨z, by simp [zeroValue, typeInfo, h1, h4], h5⟩

theorem zeroOf_den (hT : ∀ t ti, T t = some ti → TIok P T t ti) {ty : Nat} {v : AV} (hz : zeroOf T ty = some v) (w : World) : ∃ z, (zeroValue ty).run P w = .ok z w ∧ ∀ E, den E v = some z := by
  unfold zeroOf at hz
  split at hz
  · rename_i fs size bytes zero eqs ht
    injection hz with hz; subst hz
    obtain ⟨i, z, h1, h2, h3, h4, h5, c, hc⟩ := (hT _ _ ht).info
    refine ⟨z, by simp [zeroValue, typeInfo, h1, h4], fun E => ?_⟩
    have := h5 E
    subst hc
    simp only [Value.cells] at this
    simp [den, this]
  · rename_i n e size bytes zero eqs ht
    injection hz with hz; subst hz
    obtain ⟨i, z, h1, h2, h3, h4, h5, c, hc⟩ := (hT _ _ ht).info
    refine ⟨z, by simp [zeroValue, typeInfo, h1, h4], fun E => ?_⟩
    have := h5 E
    subst hc
    simp only [Value.cells] at this
    simp [den, this]
  · rename_i ti k size bytes z0 eqs hn1 hn2 ht
    injection hz with hz; subst hz
    obtain ⟨i, z, h1, h2, h3, h4, h5, hc⟩ := (hT _ _ ht).info
    refine ⟨z, by simp [zeroValue, typeInfo, h1, h4], fun E => ?_⟩
    have hc' : z.cells = #[z] := by
      cases k <;> first | exact hc | (exfalso; exact hn1 _ rfl) | (exfalso; exact hn2 _ _ rfl) | (exfalso; simp_all; done)
    have := h5 E
    rw [hc'] at this
    obtain ⟨V, M, e1, e2, _⟩ := denL_cons this
    simp at e1
    rw [e2, e1.1]
  · cases hz

theorem yld_move {x : Operand} {v : AV} (hv : Vals E t a) (hx : opd t x = some v) (ho : o.op = .move x) : Yld P a o E w v :=
  .mk (by simp [execOp, ho]) (opd_den hv hx)
theorem yld_assign {x : Operand} {v : AV} (hv : Vals E t a) (hx : opd t x = some v) (ho : o.op = .assign x) : Yld P a o E w v :=
  .mk (by simp [execOp, ho]) (opd_den hv hx)

theorem den_bool {b : Bool} {V : Value} (h : den E (.bool b) = some V) : V = .bool b := by simp [den] at h; exact h.symm
theorem den_int {k : IntKind} {n : Int} {V : Value} (h : den E (.int k n) = some V) : V = .int k n := by simp [den] at h; exact h.symm
theorem den_str {l : List UInt8} {V : Value} (h : den E (.str l) = some V) : V = .string ⟨l.toArray⟩ := by simp [den] at h; exact h.symm
theorem den_agg {l : List AV} {V : Value} (h : den E (.agg l) = some V) : ∃ L, denL E l = some L ∧ V = .agg L.toArray := by
  simp only [den] at h
  split at h
  · rename_i L hL; injection h with h; exact ⟨L, hL, h.symm⟩
  · cases h
theorem den_tup {l : List AV} {V : Value} (h : den E (.tup l) = some V) : ∃ L, denL E l = some L ∧ V = .tuple L.toArray := by
  simp only [den] at h
  split at h
  · rename_i L hL; injection h with h; exact ⟨L, hL, h.symm⟩
  · cases h
theorem den_ptr {i off : Nat} {V : Value} (h : den E (.ptr i off) = some V) : ∃ b s, E i = some (b, s) ∧ V = .pointer (some ⟨b, off, none⟩) := by
  simp only [den] at h
  split at h
  · rename_i b s hE; injection h with h; exact ⟨b, s, hE, h.symm⟩
  · cases h
theorem den_map {i : Nat} {V : Value} (h : den E (.map i) = some V) : ∃ b s, E i = some (b, s) ∧ V = .map (some b) := by
  simp only [den] at h
  split at h
  · rename_i b s hE; injection h with h; exact ⟨b, s, hE, h.symm⟩
  · cases h
theorem den_slc {i off base len esz : Nat} {V : Value} (h : den E (.slc i off base len esz) = some V) : ∃ b s, E i = some (b, s) ∧ len ≤ (s - off) / esz ∧
    V = .slice (some ⟨b, if (s - off) / esz = 0 then base else off, none⟩) len ((s - off) / esz) := by
  simp only [den] at h
  split at h
  · rename_i b s hE
    split at h
    · rename_i hl; injection h with h; exact ⟨b, s, hE, hl, h.symm⟩
    · cases h
  · cases h
theorem den_fn {f : Fn} {x y : List AV} {V : Value} (h : den E (.fn f x y) = some V) : ∃ X Y, denL E x = some X ∧ denL E y = some Y ∧ V = .func f X.toArray Y.toArray := by
  simp only [den] at h
  split at h
  · rename_i X Y hX hY; injection h with h; exact ⟨X, Y, hX, hY, h.symm⟩
  · cases h
theorem den_ifc {u : TypeId} {v : AV} {V : Value} (h : den E (.ifc u v) = some V) : ∃ X, den E v = some X ∧ V = .iface u X := by
  simp only [den] at h
  split at h
  · rename_i X hX; injection h with h; exact ⟨X, hX, h.symm⟩
  · cases h

theorem yld_pick {c x y : Operand} {v : AV} {b : Bool} (hv : Vals E t a) (hc : opd t c = some (.bool b)) (hx : opd t (if b then x else y) = some v) (ho : o.op = .pick c x y) : Yld P a o E w v := by
  have h1 := den_bool (opd_den hv hc)
  have h2 := opd_den hv hx
  refine .mk (V := a.eval (if b then x else y)) ?_ h2
  simp [execOp, ho, h1, asBool]
  cases b <;> simp

/-! ### numbers -/

theorem wrap_lt (k : IntKind) (m : Nat) (h : m < half k) : k.wrap (.ofNat m) = .ofNat m := by
  cases k <;> simp only [half] at h <;> simp only [IntKind.wrap, IntKind.bits, IntKind.signed] <;>
    (simp only [Int.ofNat_eq_natCast, Bool.true_and, Bool.false_and, Bool.false_eq_true, if_false]) <;> first | omega | (split <;> simp_all <;> omega)

theorem wrapK_eq {β : Type} (k : IntKind) (n : Int) (K : Int → Option β) : wrapK k n K = K (k.wrap n) := by
  cases n with
  | ofNat m =>
    simp only [wrapK]
    split
    · rename_i h
      rw [forceI_eq, wrap_lt k m (by simpa [Nat.blt_eq] using h)]
    · rw [forceI_eq]
  | negSucc m => simp only [wrapK]; rw [forceI_eq]

theorem ltI_eq (a b : Int) : ltI a b = decide (a < b) := by
  rw [Bool.eq_iff_iff, decide_eq_true_eq]
  cases a <;> cases b <;> simp only [ltI, Int.ofNat_eq_natCast, Int.negSucc_eq, Nat.blt_eq, Bool.false_eq_true, false_iff, true_iff] <;> omega

end
end Go.Ae
