/- The operations of the abstract evaluator do what the model's operations do: conversions, append, copy. The one condition: the table of types is the program's (TIok). -/
import Derived.Test.YtboklojgbhkhfaaGreatAeSnd7
namespace Go.Ae
section
variable {P : Program} {T : TT} {a : Act} {o : Oper} {E : Env} {h : Tr AO} {w : World} {t : List AV}

/-- Behind a draw a new row of cells under a new name. -/
theorem alloc_drew (hr : Rel E h w) {r : Nat} (hfree : E r = none) {cs : List AV} {op : Bool} {h' : Tr AO} (hget : ∀ j, h'.get j = if j = r then some (.cells cs op) else h.get j) (e : TypeId) (c : Array Value)
    (vs rest : List Value) (hd : denL E cs = some vs) (hc : c.toList = vs ++ rest) (hop : op = false → rest = []) :
    Ext E h w (E.put r (w.heap.size, c.size)) h' (w.drew.alloc (.cells c e)) :=
  (Ext.drew hr).trans (alloc_cells hr.drew hfree hget e c vs rest hd hc hop)

theorem push_modify (hp : Array Obj) (x : Obj) (f : Obj → Obj) : (hp.push x).modify hp.size f = hp.push (f x) := by
  apply Array.ext
  · simp
  · intro i h1 h2
    rw [Array.getElem_modify]
    by_cases hi : hp.size = i
    · subst hi
      simp
    · have h3 : i < hp.size := by simp at h2; omega
      rw [if_neg hi, Array.getElem_push_lt h3, Array.getElem_push_lt h3]

theorem freeze_new (w : World) (c : Array Value) (e : TypeId) :
    (w.alloc (.cells c e)).freeze { block := w.heap.size, off := c.size } 1 = w.alloc (.cells c e (c.size, c.size + 1)) := by
  unfold World.freeze
  rw [if_neg (by omega)]
  show ({ heap := (w.heap.push (.cells c e)).modify w.heap.size _, tape := w.tape, drawn := w.drawn, os := w.os, output := w.output } : World) = { heap := w.heap.push (.cells c e (c.size, c.size + 1)), tape := w.tape, drawn := w.drawn, os := w.os, output := w.output }
  rw [push_modify]
  rfl

theorem conv_ok (hT : ∀ t ti, T t = some ti → TIok P T t ti) (hr : Rel E h w) {s d : Nat} {x : Operand} {q : OR} {r : Nat} (hfree : E r = none) (hv : Vals E t a) (ho : o.op = .convert s d x)
    (hq : xop T (.convert s d x) t h r = some q) : OpOk P a o E h w r q := by
  simp only [xop] at hq
  split at hq
  · rename_i u hx
    have hA := opd_den hv hx
    unfold xconv at hq
    cases hS : T s with
    | none => simp [hS] at hq
    | some S =>
      cases hD : T d with
      | none => simp [hS, hD] at hq
      | some D =>
        simp only [hS, hD] at hq
        have hus := (hT _ _ hS).und
        have hud := (hT _ _ hD).und
        obtain ⟨us, hus'⟩ : ∃ us, P.underlying s = some us := by
          obtain ⟨k, size, bytes, zr, eqs⟩ := S
          cases k <;> simp only at hus
          case st => obtain ⟨f, hu, _⟩ := hus; exact ⟨_, hu⟩
          case ptr => obtain ⟨_, hu⟩ := hus; exact ⟨_, hu⟩
          case fn => obtain ⟨_, _, _, hu⟩ := hus; exact ⟨_, hu⟩
          case iface => obtain ⟨_, hu⟩ := hus; exact ⟨_, hu⟩
          case word => obtain ⟨d, hu, hd⟩ := hus; exact ⟨_, hu⟩
          all_goals exact ⟨_, hus⟩
        obtain ⟨k, size, bytes, zr, eqs⟩ := D
        cases k
        case int k =>
          split at hq <;> first | (cases hq; done) | (rename_i hk; cases hk; done) | skip
          rename_i k' j n hk
          injection hk with hk; subst hk
          rw [wrapK_eq] at hq
          injection hq with hq; subst hq
          have hA := den_int hA
          refine Yld.ok hr (.mk (V := .int k (k.wrap n)) ?_ rfl)
          simp only [execOp, ho, convert, Sem.run_bind, run_underlying hus', run_underlying hud, Result.andThen_ok, hA, Conv.intToInt, Sem.run_pure]
        case str =>
          split at hq <;> first | (cases hq; done) | (rename_i hk; cases hk; done) | skip
          · injection hq with hq; subst hq
            have hA' := den_str hA
            refine Yld.ok hr (.mk (V := a.eval x) ?_ hA)
            simp only [execOp, ho, convert, Sem.run_bind, run_underlying hus', run_underlying hud, Result.andThen_ok, hA', Sem.run_pure]
          · obtain ⟨k, size', bytes', zr', eqs'⟩ := S
            simp only at hq
            split at hq
            · rename_i e
              split at hq
              · rename_i z1 z2 z3 z4 he
                injection hq with hq; subst hq
                simp [den] at hA
                have hue := (hT _ _ he).und
                refine Yld.ok hr (.mk (V := .string .empty) ?_ rfl)
                simp only [execOp, ho, convert, Sem.run_bind, run_underlying hus, run_underlying hud, Result.andThen_ok, ← hA, run_underlying hue, Conv.bytesToString, Sem.run_pure]
              · cases hq
            · cases hq
          · rename_i i off base len esz _
            obtain ⟨b, sz, hE, hl, hA⟩ := den_slc hA
            obtain ⟨k, size', bytes', zr', eqs'⟩ := S
            simp only at hq
            split at hq
            · rename_i e
              split at hq
              · rename_i z1 z2 z3 he
                split at hq
                · rename_i cs op hi
                  split at hq
                  · rename_i vs hs
                    split at hq
                    · rename_i l hb
                      injection hq with hq; subst hq
                      have hue := (hT _ _ he).und
                      obtain ⟨b', s', c, e', fr, us', rest, hE', hbl, hsz, hf, hd, hc, _⟩ := hr.cells hi
                      rw [hE] at hE'
                      injection hE' with hE'
                      injection hE' with e1 e2
                      subst e1
                      obtain ⟨R, h1, h2, h3, h4⟩ := denL_seg hd hs
                      obtain ⟨ns, h5, h6⟩ := bytesNat_den vs l R hb h1
                      have hload : (loadCells ⟨b, if (sz - off) / esz = 0 then base else off, none⟩ len).run P w = .ok ((ns.map fun n => ((n : Nat) : Int)).map (Value.int .u8)).toArray w := by
                        have hRe : R = (ns.map fun n => ((n : Nat) : Int)).map (Value.int .u8) := by rw [h5, List.map_map]; rfl
                        by_cases h0 : (sz - off) / esz = 0
                        · have hl0 : len = 0 := by omega
                          subst hl0
                          have hR0 : R = [] := List.eq_nil_of_length_eq_zero h2
                          rw [← hRe, hR0]
                          rfl
                        · rw [if_neg h0, ← hRe, ← h2]
                          exact run_loadCells_row hbl off R (seg_cells hc h3)
                      have hbs := run_bytesToString (P := P) w _ len ((sz - off) / esz) _ hload
                      refine Yld.ok hr (.mk (V := .string ⟨l.toArray⟩) ?_ rfl)
                      have e2 : (ns.map fun n => ((n : Nat) : Int)).foldl (fun r n => r.push (UInt8.ofNat n.toNat)) ByteArray.empty = ⟨l.toArray⟩ := by
                        rw [foldl_push_bytes, h6]
                        simp [List.map_map, Function.comp_def, ByteArray.empty, ByteArray.emptyWithCapacity]
                        try rfl
                      simp only [execOp, ho, convert, Sem.run_bind, run_underlying hus, run_underlying hud, Result.andThen_ok, hA, run_underlying hue, hbs, e2, Sem.run_pure]
                    · cases hq
                  · cases hq
                · cases hq
              · cases hq
            · cases hq
        case slice e =>
          split at hq <;> first | (cases hq; done) | (rename_i hk; cases hk; done) | skip
          rename_i e2 l hk
          injection hk with hk; subst hk
          have hA := den_str hA
          split at hq
          · rename_i z1 z2 z3 z4 he
            have hue := (hT _ _ he).und
            obtain ⟨h', hget, hK⟩ := Tr.setK_spec _ _ _ _ _ _ hq
            injection hK with hK
            subst hK
            obtain ⟨i, hi, _, _⟩ := info_of (hT _ _ he)
            have hsz : (ByteArray.mk l.toArray).size = l.length := size_mk l
            generalize hcap : (Question.appendCap l.length 0 e).cut (w.tape w.drawn (.appendCap l.length 0 e)) = cap
            have hcap' : l.length ≤ cap := by rw [← hcap]; simp [Question.cut]
            generalize hc : (l.toArray.map fun b => Value.int .u8 (b.toNat : Int)) ++ Array.replicate (cap - l.length) (Value.int .u8 0) = c
            have hcs : c.size = cap := by rw [← hc]; simp; omega
            have hext : Ext E h w (E.put r (w.heap.size, c.size)) h' (w.drew.alloc (.cells c e (c.size, c.size + 1))) :=
              (Ext.drew hr).trans (Ext.alloc hr.drew hfree hget ⟨c, e, _, _, List.replicate (cap - l.length) (Value.int .u8 0), rfl, rfl, fun i hi hh => by simp at hh; omega, natBytes_den l, by rw [← hc]; simp, fun e => by cases e⟩)
            refine ⟨.slice (some ⟨w.heap.size, 0, none⟩) l.length cap, _, _, _, ?_, .inl rfl, hext, fun j hj => Env.put_ne _ _ hj, ?_, nq ho rfl⟩
            · simp only [execOp, ho, convert, Sem.run_bind, run_underlying hus', run_underlying hud, Result.andThen_ok, hA, run_underlying hue, Conv.stringToBytes, hsz]
              have hch : (choose (.appendCap l.length 0 e)).run P w = .ok cap w.drew := by
                simp only [choose, Sem.run, Question.forced, hcap]; rfl
              have hnr := run_newRow' (P := P) w.drew e c
              simp only [hch, Result.andThen_ok]
              have hcc : (ByteArray.mk l.toArray).data.map (fun b => Value.int .u8 (b.toNat : Int)) ++ Array.replicate (cap - l.length) (Value.int .u8 0) = c := hc
              simp only [hcc, hnr, Result.andThen_ok, markStringish, Sem.run_bind]
              have hsh : (shape w.drew.heap.size).run P (w.drew.alloc (.cells c e)) = .ok (some (e, c.size)) (w.drew.alloc (.cells c e)) := by
                simp only [shape, Sem.run, World.shape?, alloc_last]
              simp only [hsh, Result.andThen_ok]
              have hfz : (freeze { block := w.drew.heap.size, off := c.size } 1).run P (w.drew.alloc (.cells c e)) = .ok () (w.drew.alloc (.cells c e (c.size, c.size + 1))) := by
                simp only [freeze, Sem.run, freeze_new]
              simp only [hfz, Result.andThen_ok, Sem.run_pure]
              rfl
            · simp only [den, Env.put_self, hcs, Nat.sub_zero, Nat.div_one]
              rw [if_pos hcap']
              simp
          · cases hq
        all_goals
          split at hq <;> first | (cases hq; done) | (rename_i hk; cases hk; done)
  · cases hq

end
end Go.Ae
