/- The operations of the abstract evaluator do what the model's operations do: loads, stores, new memory, parts of values. The one condition: the table of types is the program's (TIok). -/
import Derived.Test.YtboklojgbhkhfaaGreatAeSnd3
namespace Go.Ae
section
variable {P : Program} {T : TT} {a : Act} {o : Oper} {E : Env} {h : Tr AO} {w : World} {t : List AV}

theorem run_newRow' (w : World) (e : TypeId) (c : Array Value) : (newRow e c).run P w = .ok ⟨w.heap.size, 0, none⟩ (w.alloc (.cells c e)) := by
  simp [newRow, newObj, Sem.run]

def aggK : TK → Bool
  | .st _ => true
  | .arr _ _ => true
  | _ => false

theorem run_isAgg' {ty : Nat} {ti : TI} (hT : TIok P T ty ti) (w : World) : (isAgg ty).run P w = .ok (aggK ti.k) w := by
  have hu := hT.und
  obtain ⟨k, size, bytes, zero, eqs⟩ := ti
  cases k <;> simp only at hu
  case st => obtain ⟨f, hu, _⟩ := hu; simp [isAgg, run_underlying hu, aggK]
  case ptr => obtain ⟨f, hu⟩ := hu; simp [isAgg, run_underlying hu, aggK]
  case fn => obtain ⟨_, _, _, hu⟩ := hu; simp [isAgg, run_underlying hu, aggK]
  case iface => obtain ⟨_, hu⟩ := hu; simp [isAgg, run_underlying hu, aggK]
  case word => obtain ⟨d, hu, hd⟩ := hu; simp only [isAgg, Sem.run_bind, run_underlying hu, Result.andThen_ok]; cases d <;> first | (exact hd.elim) | rfl
  all_goals simp [isAgg, run_underlying hu, aggK]

theorem seg_cells {c : Array Value} {vs rest : List Value} (hc : c.toList = vs ++ rest) {off n : Nat} {R : List Value} (hR : R = (vs.drop off).take n) :
    ∀ j v, R[j]? = some v → c[off + j]? = some v := by
  intro j v hj
  subst hR
  rw [List.getElem?_take] at hj
  split at hj
  · rw [List.getElem?_drop] at hj
    rw [← Array.getElem?_toList, hc, List.getElem?_append]
    have := (List.getElem?_eq_some_iff.1 hj).1
    rw [if_pos this]; exact hj
  · cases hj

theorem cell_at {c : Array Value} {cs : List AV} {vs rest : List Value} (hc : c.toList = vs ++ rest) (hd : denL E cs = some vs) {off : Nat} {v : AV} (hg : getN cs off = some v) :
    ∃ V, c[off]? = some V ∧ den E v = some V := by
  rw [getN_eq] at hg
  obtain ⟨V, h1, h2⟩ := denL_get hd off hg
  refine ⟨V, ?_, h2⟩
  rw [← Array.getElem?_toList, hc, List.getElem?_append]
  have := (List.getElem?_eq_some_iff.1 h1).1
  rw [if_pos this]; exact h1

theorem xload_ok (hT : ∀ t ti, T t = some ti → TIok P T t ti) (hr : Rel E h w) {ty : Nat} {u v : AV} {A : Value} (hq : xload T ty u h = some v) (hA : den E u = some A) :
    ∃ V, (Instr.loadAt ty A).run P w = .ok V w ∧ den E v = some V := by
  unfold xload at hq
  split at hq
  · rename_i i off
    obtain ⟨b, s, hE, rfl⟩ := den_ptr hA
    split at hq
    · rename_i cs op hi
      obtain ⟨b', s', c, e, fr, vs, rest, hE', hb, hs, hf, hd, hc, _⟩ := hr.cells hi
      rw [hE] at hE'
      injection hE' with hE'
      injection hE' with e1 e2
      subst e1
      have agg : ∀ ti : TI, T ty = some ti → aggK ti.k = true → ∀ rs, seg cs off ti.size = some rs → ∃ V, (Instr.loadAt ty (.pointer (some ⟨b, off, none⟩))).run P w = .ok V w ∧ den E (.agg rs) = some V := by
        intro ti ht hk rs hs
        obtain ⟨R, h1, h2, h3, h4⟩ := denL_seg hd hs
        have hl := run_loadCells_row (P := P) hb off R (seg_cells hc h3)
        rw [h2] at hl
        refine ⟨.agg R.toArray, ?_, by simp [den, h1]⟩
        simp [Instr.loadAt, Instr.sureAddr, loadVar, run_isAgg' (hT _ _ ht), run_sizeOf' (hT _ _ ht), hk, hl]
      split at hq
      · rename_i fs size bytes zero eqs ht
        split at hq
        · rename_i rs hs
          injection hq with hq; subst hq
          exact agg _ ht rfl rs hs
        · cases hq
      · rename_i fs size bytes zro eqs _ ht
        split at hq
        · rename_i rs hs
          injection hq with hq; subst hq
          exact agg _ ht rfl rs hs
        · cases hq
      · rename_i ti h1 h2 ht
        obtain ⟨V, h3, h4⟩ := cell_at hc hd hq
        refine ⟨V, ?_, h4⟩
        have hk : aggK ti.k = false := by
          obtain ⟨k, size, bytes, zero, eqs⟩ := ti
          cases k <;> first | rfl | (exfalso; exact h1 _ _ _ _ _ rfl) | (exfalso; exact h2 _ _ _ _ _ _ rfl)
        simp [Instr.loadAt, Instr.sureAddr, loadVar, run_isAgg' (hT _ _ ht), hk, cell_of hb, h3]
      · cases hq
    · cases hq
  · cases hq

theorem overV_app {vs rest VS : List Value} {off : Nat} (hl : off + VS.length ≤ vs.length) : overV (vs ++ rest) off VS = overV vs off VS ++ rest := by
  unfold overV
  rw [List.take_append_of_le_length (by omega), List.drop_append_of_le_length (by omega)]
  simp

theorem overV_length {vs VS : List Value} {off : Nat} (hl : off + VS.length ≤ vs.length) : (overV vs off VS).length = vs.length := by
  unfold overV
  simp
  omega

/-- Cells of a row written: what the row is then. -/
theorem write_cells (hr : Rel E h w) {i : Nat} {cs : List AV} {op : Bool} (hi : h.get i = some (.cells cs op)) {off : Nat} {vs cs' : List AV} (ho : over cs off vs = some cs') (h1 : allOne vs = true)
    {VS : List Value} (hv : denL E vs = some VS) {h' : Tr AO} (hget : ∀ j, h'.get j = if j = i then some (.cells cs' op) else h.get j) {b s : Nat} (hE : E i = some (b, s)) :
    ∃ w', (storeCells ⟨b, off, none⟩ VS).run P w = .ok () w' ∧ Ext E h w E h' w' := by
  obtain ⟨b', s', c, e, fr, us, rest, hE', hb, hs, hf, hd, hc, hop⟩ := hr.cells hi
  rw [hE] at hE'
  injection hE' with hE'
  injection hE' with e1 e2
  subst e1
  subst e2
  obtain ⟨hd', hl⟩ := denL_over hd hv ho
  have hcl : c.size = us.length + rest.length := by rw [← Array.length_toList, hc, List.length_append]
  have hst := run_storeCells_row (P := P) off VS 0 c w hb (by omega) (by rw [hs]; exact hf) (allOne_den h1 hv)
  refine ⟨_, hst, ?_⟩
  refine Ext.write hr hi hE hget ⟨_, e, fr, _, rest, rfl, ?_, hf, hd', ?_, hop⟩
  · rw [← hs, Nat.add_zero, hc, overV_app hl]
    simp [overV_length hl, hcl]
  · rw [Nat.add_zero, hc, overV_app hl]

theorem xstore_ok (hT : ∀ t ti, T t = some ti → TIok P T t ti) (hr : Rel E h w) {ty : Nat} {x y : Operand} {u v : AV} {q : OR} (hv : Vals E t a) (hx : opd t x = some u) (hy : opd t y = some v)
    (ho : o.op = .store ty x y) (hq : xstore T ty u v h = some q) (r : Nat) : OpOk P a o E h w r q := by
  have hA := opd_den hv hx
  have hB := opd_den hv hy
  generalize a.eval x = A at hA ho
  generalize hV : a.eval y = V at hB
  unfold xstore at hq
  split at hq
  · rename_i i off
    obtain ⟨b, s, hE, hAe⟩ := den_ptr (opd_den hv hx)
    split at hq
    · rename_i cs op hi
      split at hq
      · rename_i k size bytes zr eqs ht
        split at hq
        · rename_i hlen h1
          split at hq
          · rename_i cs' hov
            obtain ⟨h', hget, hK⟩ := Tr.setK_spec _ _ _ _ _ _ hq
            injection hK with hK
            subst hK
            have hvs := cellsOf_den hB
            obtain ⟨w', hst, hext⟩ := write_cells (P := P) hr hi hov h1 hvs hget hE
            refine ⟨undef, w', E, .skip, ?_, .inr ⟨rfl, rfl⟩, hext, fun _ _ => rfl, by simp [den, denL]; rfl, nq ho rfl⟩
            have hsz := run_sizeOf' (hT _ _ ht) w
            have hn : V.cells.size = size := by
              rw [← Nat.eq_of_beq_eq_true hlen, ← denL_length hvs]; simp
            simp only [execOp, ho, hAe, hV, Instr.storeAt, Instr.sureAddr, storeVar]
            simp [hsz, hn, hst]
          · cases hq
        · cases hq
      · cases hq
    · cases hq
  · cases hq

/-- A new row of cells under a new name. -/
theorem alloc_cells (hr : Rel E h w) {r : Nat} (hfree : E r = none) {cs : List AV} {op : Bool} {h' : Tr AO} (hget : ∀ j, h'.get j = if j = r then some (.cells cs op) else h.get j) (e : TypeId) (c : Array Value)
    (vs rest : List Value) (hd : denL E cs = some vs) (hc : c.toList = vs ++ rest) (hop : op = false → rest = []) :
    Ext E h w (E.put r (w.heap.size, c.size)) h' (w.alloc (.cells c e)) :=
  Ext.alloc hr hfree hget ⟨c, e, (0, 0), vs, rest, rfl, rfl, fun i _ => by omega, denL_mono (Env.le_put hfree) _ _ hd, hc, hop⟩

theorem alloc_ok (hT : ∀ t ti, T t = some ti → TIok P T t ti) (hr : Rel E h w) {e : Nat} {q : OR} {r : Nat} (hfree : E r = none) (ho : o.op = .alloc e) (hq : xop T (.alloc e) t h r = some q) : OpOk P a o E h w r q := by
  simp only [xop] at hq
  split at hq
  · rename_i F ht
    obtain ⟨h', hget, hK⟩ := Tr.setK_spec _ _ _ _ _ _ hq
    injection hK with hK
    subst hK
    obtain ⟨z, hz, hzd⟩ := run_zero' (hT _ _ ht) w
    have hext := alloc_cells hr hfree hget e z.cells z.cells.toList [] (hzd E) (by simp) (fun _ => rfl)
    refine ⟨.pointer (some ⟨w.heap.size, 0, none⟩), _, _, _, ?_, .inl rfl, hext, fun j hj => Env.put_ne _ _ hj, ?_, nq ho rfl⟩
    · simp [execOp, ho, Instr.alloc, hz, newVar, run_newRow']
    · simp [den, Env.put_self]
  · cases hq

theorem box_ok (hr : Rel E h w) {e : Nat} {x : Operand} {q : OR} {r : Nat} (hfree : E r = none) (hv : Vals E t a) (ho : o.op = .box e x) (hq : xop T (.box e x) t h r = some q) : OpOk P a o E h w r q := by
  simp only [xop] at hq
  split at hq
  · rename_i v hx
    have hA := opd_den hv hx
    obtain ⟨h', hget, hK⟩ := Tr.setK_spec _ _ _ _ _ _ hq
    injection hK with hK
    subst hK
    have hext := alloc_cells hr hfree hget e (a.eval x).cells (a.eval x).cells.toList [] (cellsOf_den hA) (by simp) (fun _ => rfl)
    refine ⟨.pointer (some ⟨w.heap.size, 0, none⟩), _, _, _, ?_, .inl rfl, hext, fun j hj => Env.put_ne _ _ hj, ?_, nq ho rfl⟩
    · simp [execOp, ho, Instr.box, newVar, run_newRow']
    · simp [den, Env.put_self]
  · cases hq

theorem opdsI_den (hv : Vals E t a) : ∀ {l : List (Nat × Operand)} {r : List (Nat × AV)}, opdsI t l = some r →
    r.map (·.1) = l.map (·.1) ∧ denL E (r.map (·.2)) = some (l.map fun x => a.eval x.2)
  | [], r, h => by simp [opdsI] at h; subst h; exact ⟨rfl, rfl⟩
  | (i, x) :: l, r, h => by
    simp only [opdsI] at h
    cases hx : opd t x with
    | none => simp [hx] at h
    | some v =>
      cases hl : opdsI t l with
      | none => simp [hx, hl] at h
      | some q =>
        simp [hx, hl] at h
        subst h
        obtain ⟨h1, h2⟩ := opdsI_den hv hl
        exact ⟨by simp [h1], denL_mk (opd_den hv hx) h2⟩

end
end Go.Ae
