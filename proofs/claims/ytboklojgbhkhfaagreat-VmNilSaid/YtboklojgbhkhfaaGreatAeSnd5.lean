/- The operations of the abstract evaluator do what the model's operations do: literals, addresses, parts, slices, lengths. The one condition: the table of types is the program's (TIok). -/
import Derived.Test.YtboklojgbhkhfaaGreatAeSnd4
namespace Go.Ae
section
variable {P : Program} {T : TT} {a : Act} {o : Oper} {E : Env} {h : Tr AO} {w : World} {t : List AV}

theorem foldl_over (off : Nat) : ∀ (l : List Value) (k : Nat) (c : Array Value), off + k + l.length ≤ c.size →
    ((l.zipIdx k).foldl (fun cs (x : Value × Nat) => cs.setIfInBounds (off + x.2) x.1) c).toList = overV c.toList (off + k) l
  | [], k, c, _ => by simp [overV]
  | v :: l, k, c, hl => by
    simp only [List.zipIdx_cons, List.foldl_cons]
    rw [foldl_over off l (k + 1) (c.setIfInBounds (off + k) v) (by simp at hl ⊢; omega)]
    have q := list_seg_step c.toList (off + k) v l (by simp at hl ⊢; omega)
    simpa [overV, Array.toList_setIfInBounds, Nat.add_assoc] using q

theorem fillA_ok {place place' : Nat → Option (Nat × Nat)} (hp : ∀ i p, place i = some p → place' i = some p) : ∀ (ps : List (Nat × AV)) (cs r : List AV) (C : Array Value) (Vs : List Value),
    fillA place cs ps = some r → denL E cs = some C.toList → denL E (ps.map (·.2)) = some Vs →
    ∃ R, Instr.fill place' C ((ps.map (·.1)).zip Vs) = some R ∧ denL E r = some R.toList
  | [], cs, r, C, Vs, h, hc, hv => by
    simp [fillA] at h; subst h
    exact ⟨C, by simp [Instr.fill], hc⟩
  | (i, v) :: ps, cs, r, C, Vs, h, hc, hv => by
    obtain ⟨V, M, rfl, hV, hM⟩ := denL_cons (l := ps.map (·.2)) hv
    simp only [fillA] at h
    split at h
    · cases h
    · rename_i off size hpl
      split at h
      · cases h
      · rename_i hsz
        split at h
        · rename_i cs' ho
          have hcv := cellsOf_den hV
          have hlen : V.cells.size = size := by
            have := Nat.eq_of_beq_eq_true hsz
            rw [← this, ← denL_length hcv]; simp
          obtain ⟨hd, hl⟩ := denL_over hc hcv ho
          have hl' : off + V.cells.size ≤ C.size := by simpa using hl
          have hf : ((V.cells.zipIdx.foldl (fun cs (x : Value × Nat) => cs.setIfInBounds (off + x.2) x.1) C)).toList = overV C.toList off V.cells.toList := by
            have := foldl_over off V.cells.toList 0 C (by simpa using hl')
            rw [← Array.foldl_toList, Array.toList_zipIdx]
            simpa using this
          obtain ⟨R, h1, h2⟩ := fillA_ok hp ps cs' r _ M h (by rw [hf]; exact hd) hM
          refine ⟨R, ?_, h2⟩
          simp only [List.map_cons, List.zip_cons_cons, Instr.fill, hp i _ hpl]
          rw [if_neg (by simp [hlen]; omega)]
          exact h1
        · cases h

theorem parts_eq (parts : Array (Nat × Operand)) {ps : List (Nat × AV)} (hv : Vals E t a) (hps : opdsI t parts.toList = some ps) :
    (parts.map fun (i, x) => (i, a.eval x)).toList = (ps.map (·.1)).zip (parts.toList.map fun x => a.eval x.2) := by
  obtain ⟨h1, h2⟩ := opdsI_den hv hps
  rw [h1]
  simp [List.zip_map']

theorem mapM_sizes (fields : List Field) (hf : ∀ f ∈ fields, ∃ i, P.info? f.type = some i) (w : World) :
    (fields.mapM fun f => do pure (f.offset, ← sizeOf f.type) : Sem (List (Nat × Nat))).run P w = .ok (fields.map fun f => (f.offset, P.cellsOf f.type)) w := by
  induction fields with
  | nil => rfl
  | cons f l ih =>
    obtain ⟨i, hi⟩ := hf f (by simp)
    have hs : (sizeOf f.type).run P w = .ok (P.cellsOf f.type) w := by simp [sizeOf, typeInfo, hi, Program.cellsOf]
    have ih' := ih (fun g hg => hf g (by simp [hg]))
    simp only [List.mapM_cons, Sem.run_bind, hs, Result.andThen_ok, Sem.run_pure, ih', List.map_cons]

theorem cellsOf_T (hT : ∀ t ti, T t = some ti → TIok P T t ti) {ty : Nat} {ti : TI} (ht : T ty = some ti) : P.cellsOf ty = ti.size := by
  obtain ⟨i, h1, h2, _⟩ := info_of (hT _ _ ht)
  simp [Program.cellsOf, h1, h2]

theorem fieldOf_eq : ∀ (l : List (Nat × Nat)) (n : Nat), fieldOf l n = l[n]?
  | [], _ => by simp [fieldOf]
  | _ :: _, 0 => by simp [fieldOf]
  | a :: l, n + 1 => by simp [fieldOf, fieldOf_eq l n]

theorem build_ok (hT : ∀ t ti, T t = some ti → TIok P T t ti) (hr : Rel E h w) {ty : Nat} {parts : Array (Nat × Operand)} {q : OR} {r : Nat} (hv : Vals E t a) (ho : o.op = .build ty parts)
    (hq : xop T (.build ty parts) t h r = some q) : OpOk P a o E h w r q := by
  simp only [xop] at hq
  split at hq
  · rename_i ps hps
    obtain ⟨hi, hd⟩ := opdsI_den hv hps
    have hpe := parts_eq parts hv hps
    unfold xbuild at hq
    split at hq
    · rename_i fs size bytes zr eqs ht
      obtain ⟨fields, hu, hfs, hfi⟩ := (hT _ _ ht).und
      obtain ⟨z, hz, hzd⟩ := run_zero' (hT _ _ ht) w
      split at hq
      · rename_i cs hf
        injection hq with hq; subst hq
        obtain ⟨R, h1, h2⟩ := fillA_ok (place' := fun i => (fields.map fun f => (f.offset, P.cellsOf f.type))[i]?) (fun i p hp => by
          split at hp
          · rename_i fo ft hfo
            rw [fieldOf_eq, ← hfs] at hfo
            split at hp
            · rename_i F hF
              injection hp with hp
              subst hp
              simp only [List.getElem?_map] at hfo
              rw [Array.getElem?_map]
              simp only [Array.getElem?_toList] at hfo
              cases hfi' : fields[i]? with
              | none => simp [hfi'] at hfo
              | some f =>
                simp [hfi'] at hfo
                obtain ⟨e1, e2⟩ := hfo
                simp only [Option.map_some, e1, e2, cellsOf_T hT hF]
            · cases hp
          · cases hp) ps zr cs z.cells _ hf (hzd E) hd
        refine Yld.ok hr (.mk (V := .agg R) ?_ (by simp [den, h2]))
        have hm := mapM_sizes (P := P) fields.toList hfi w
        simp only [execOp, ho, Instr.build, Sem.run_bind, hz, Result.andThen_ok, run_underlying hu]
        simp only [Array.mapM_eq_mapM_toList, Sem.run_map, hm, hpe, Sem.run_pure]
        have e : (fields.toList.map fun f => (f.offset, P.cellsOf f.type)).toArray = fields.map fun f => (f.offset, P.cellsOf f.type) := by
          rw [← Array.toList_map, Array.toArray_toList]
        simp only [Result.andThen_ok]
        rw [e, h1]
        rfl
      · cases hq
    · rename_i n e size bytes zr eqs ht
      have hu := (hT _ _ ht).und
      obtain ⟨z, hz, hzd⟩ := run_zero' (hT _ _ ht) w
      split at hq
      · rename_i F hF
        split at hq
        · rename_i cs hf
          injection hq with hq; subst hq
          obtain ⟨R, h1, h2⟩ := fillA_ok (place' := fun i => some (i * F.size, F.size)) (fun i p hp => hp) ps zr cs z.cells _ hf (hzd E) hd
          refine Yld.ok hr (.mk (V := .agg R) ?_ (by simp [den, h2]))
          simp only [execOp, ho, Instr.build, Sem.run_bind, hz, Result.andThen_ok, run_underlying hu, run_sizeOf' (hT _ _ hF), hpe, h1, Sem.run_pure]
        · cases hq
      · cases hq
    · cases hq
  · cases hq

theorem rep_den {z : Array Value} {zs : List AV} (hz : denL E zs = some z.toList) (hs : 0 < z.size) : ∀ n, denL E (repN zs n) = some ((Array.range (n * z.size)).map (fun i => z[i % z.size]!)).toList
  | 0 => by simp [repN, denL]
  | n + 1 => by
    have ih := rep_den hz hs n
    have h1 := denL_append hz ih
    simp only [repN]
    rw [h1]
    congr 1
    simp only [Array.toList_map, Array.toList_range]
    rw [show (n + 1) * z.size = z.size + n * z.size by rw [Nat.succ_mul]; omega, List.range_add, List.map_append, List.map_map]
    congr 1
    · apply List.ext_getElem
      · simp
      · intro i h1 h2
        simp at h1
        simp [Nat.mod_eq_of_lt h1, h1]
    · apply List.map_congr_left
      intro i _
      simp [Nat.add_mod_left]

theorem buildSlice_ok (hT : ∀ t ti, T t = some ti → TIok P T t ti) (hr : Rel E h w) {ty len : Nat} {parts : Array (Nat × Operand)} {q : OR} {r : Nat} (hfree : E r = none) (hv : Vals E t a) (ho : o.op = .buildSlice ty len parts)
    (hq : xop T (.buildSlice ty len parts) t h r = some q) : OpOk P a o E h w r q := by
  simp only [xop] at hq
  split at hq
  · rename_i ps hps
    obtain ⟨hi, hd⟩ := opdsI_den hv hps
    have hpe := parts_eq parts hv hps
    unfold xbuildSlice at hq
    split at hq
    · rename_i e size bytes zr eqs ht
      have hu := (hT _ _ ht).und
      split at hq
      · rename_i F hF
        split at hq
        · rename_i hb hs1 hzl
          obtain ⟨z, hz, hzd⟩ := run_zero' (hT _ _ hF) w
          have hb' := Nat.le_of_ble_eq_true hb
          have hs1' := Nat.le_of_ble_eq_true hs1
          have hzs : z.cells.size = F.size := by
            rw [← Nat.eq_of_beq_eq_true hzl, ← denL_length (hzd E)]; simp
          split at hq
          · rename_i cs hf
            split at hq
            · obtain ⟨h', hget, hK⟩ := Tr.setK_spec _ _ _ _ _ _ hq
              injection hK with hK
              subst hK
              have hrep := rep_den (hzd E) (by omega) len
              rw [hzs] at hrep
              obtain ⟨R, h1, h2⟩ := fillA_ok (place' := fun i => some (i * F.size, F.size)) (fun i p hp => hp) ps _ cs _ _ hf hrep hd
              have hext := alloc_cells hr hfree hget e R R.toList [] h2 (by simp) (fun _ => rfl)
              have hRs : R.size = len * F.size := by
                have := fill_size (fun i => some (i * F.size, F.size)) ((ps.map (·.1)).zip _) _ _ h1
                rw [this]; simp
              refine ⟨.slice (some ⟨w.heap.size, 0, none⟩) len len, _, _, _, ?_, .inl rfl, hext, fun j hj => Env.put_ne _ _ hj, ?_, nq ho rfl⟩
              · simp only [execOp, ho, Instr.buildSlice, Sem.run_bind, run_underlying hu, Result.andThen_ok, run_sizeOf' (hT _ _ hF), hpe]
                rw [if_neg (by have : len * F.size = len.mul F.size := rfl; omega)]
                simp only [Sem.run_pure]
                by_cases h0 : len * F.size = 0
                · have hl0 : len = 0 := by
                    rcases Nat.mul_eq_zero.1 h0 with h | h <;> omega
                  rw [if_pos h0]
                  simp only [Sem.run_bind, Sem.run_pure, Result.andThen_ok]
                  subst hl0
                  have e0 : ∀ f : Nat → Value, Array.map f (Array.range (0 * F.size)) = #[] := by simp
                  rw [e0] at h1
                  rw [e0, h1]
                  simp [run_newRow']
                · rw [if_neg h0]
                  simp only [Sem.run_bind, hz, Result.andThen_ok, Sem.run_pure, hzs]
                  rw [h1]
                  simp [run_newRow']
              · simp only [den, Env.put_self, hRs, Nat.sub_zero]
                have e := Nat.mul_div_cancel len (show 0 < F.size by omega)
                simp [e]
            · cases hq
          · cases hq
        · cases hq
      · cases hq
    · cases hq
  · cases hq
  where
  fill_size (place : Nat → Option (Nat × Nat)) : ∀ (l : List (Nat × Value)) (C R : Array Value), Instr.fill place C l = some R → R.size = C.size
    | [], C, R, h => by simp [Instr.fill] at h; rw [h]
    | (i, v) :: l, C, R, h => by
      simp only [Instr.fill] at h
      split at h
      · cases h
      · split at h
        · cases h
        · rename_i off size _ hc
          rw [fill_size place l _ R h]
          have : ∀ (m : List (Value × Nat)) (C : Array Value), (m.foldl (fun cs (x : Value × Nat) => cs.setIfInBounds (off + x.2) x.1) C).size = C.size := by
            intro m
            induction m with
            | nil => intro C; rfl
            | cons x m ih => intro C; simp [ih]
          rw [← Array.foldl_toList]
          exact this _ C

end
end Go.Ae
