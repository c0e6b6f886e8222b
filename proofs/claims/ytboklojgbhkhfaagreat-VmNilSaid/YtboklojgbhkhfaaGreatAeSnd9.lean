/- The operations of the abstract evaluator do what the model's operations do: append, copy. The one condition: the table of types is the program's (TIok). -/
import Derived.Test.YtboklojgbhkhfaaGreatAeSnd8
namespace Go.Ae
section
variable {P : Program} {T : TT} {a : Act} {o : Oper} {E : Env} {h : Tr AO} {w : World} {t : List AV}

/-- What is appended: so many elements, these cells, read in every world with this heap. -/
structure Src (P : Program) (w : World) (size : Nat) (X : Value) (n : Nat) (VS : List Value) : Prop where
  len : ∀ w', (Builtin.lenOf X).run P w' = .ok n w'
  cells : ∀ w' : World, w'.heap = w.heap → (Builtin.firstCells size n X).run P w' = .ok VS.toArray w'
  size : VS.length = n * size

theorem run_append_room' {ty tx rt e : TypeId} {i : TypeInfo} (ht : P.underlying ty = some (.slice e)) (hx : (∃ e, P.underlying tx = some (.slice e)) ∨ P.underlying tx = some .string) (hi : P.info? e = some i)
    {X : Value} {n : Nat} {VS : List Value} (hs : Src P w i.size X n VS) (b off sLen sCap : Nat) (hroom : sLen + n ≤ sCap) {w' : World}
    (hst : (storeCells ⟨b, off + sLen * i.size, none⟩ VS).run P w = .ok () w') :
    (Builtin.append_ #[ty, tx] rt #[.slice (some ⟨b, off, none⟩) sLen sCap, X]).run P w = .ok (.slice (some ⟨b, off, none⟩) (sLen + n) sCap) w' := by
  have hf := hs.cells w rfl
  have hl := hs.len w
  rcases hx with ⟨e', hx⟩ | hx <;>
    simp [Builtin.append_, run_underlying ht, run_underlying hx, sizeOf, typeInfo, hi, hl, hf, hroom, addr_add, hst]

theorem run_append_grow' {ty tx rt e : TypeId} {i : TypeInfo} {z : Value} (ht : P.underlying ty = some (.slice e)) (hx : (∃ e, P.underlying tx = some (.slice e)) ∨ P.underlying tx = some .string) (hi : P.info? e = some i) (hz : i.zero = some z)
    {X : Value} {n : Nat} {VS : List Value} (hs : Src P w i.size X n VS) (base : Option Addr) (sLen sCap : Nat) (olds : List Value)
    (ho : (Builtin.firstCells i.size sLen (.slice base sLen sCap)).run P w.drew = .ok olds.toArray w.drew)
    (hg : sCap < sLen + n) (h63 : sLen + n ≤ 140737488355328) (hfit : (sLen + n) * i.bytes ≤ 140737488355328) :
    ∃ cap, sLen + n ≤ cap ∧ (Builtin.append_ #[ty, tx] rt #[.slice base sLen sCap, X]).run P w = .ok (.slice (some ⟨w.heap.size, 0, none⟩) (sLen + n) cap)
        (w.drew.alloc (.cells (olds.toArray ++ VS.toArray ++ Builtin.zeroCells z.cells (cap - (sLen + n))) e)) := by
  refine ⟨grownCap w (sLen + n) sCap e, grownCap_ge _ _ _ _, ?_⟩
  have hn : ¬ (sLen + n ≤ sCap) := by omega
  have h63' : ¬ (9223372036854775807 < ((sLen : Int) + (n : Int))) := by omega
  have hcap := nextslicecap_le (need := sLen + n) (old := sCap) (by omega)
  have h48' : ¬ (281474976710656 < Builtin.nextslicecap (sLen + n) sCap * i.bytes) := by
    have h1 := Nat.mul_le_mul_right i.bytes hcap
    have h2 : 2 * (sLen + n) * i.bytes = 2 * ((sLen + n) * i.bytes) := Nat.mul_assoc _ _ _
    omega
  have hf := hs.cells w.drew rfl
  have hl := hs.len w
  rcases hx with ⟨e', hx⟩ | hx <;>
    (simp [Builtin.append_, run_underlying ht, run_underlying hx, sizeOf, typeInfo, zeroValue, hi, hz, hl, hf, ho, hn, h63', h48', Question.forced, newRow, grownCap]
     rw [← List.append_toArray, Array.append_assoc])

theorem zeroCells_size (z : Array Value) (n : Nat) : (Builtin.zeroCells z n).size = n * z.size := by simp [Builtin.zeroCells]

theorem rowOrText_ok (hT : ∀ t ti, T t = some ti → TIok P T t ti) {tx : Nat} (h : rowOrText T tx = true) : (∃ e, P.underlying tx = some (.slice e)) ∨ P.underlying tx = some .string := by
  unfold rowOrText at h
  split at h
  · rename_i ht; exact .inl ⟨_, (hT _ _ ht).und⟩
  · rename_i ht; exact .inr (hT _ _ ht).und
  · cases h

theorem srcOf_ok (hr : Rel E h w) {F : TI} {x : AV} {X : Value} {n : Nat} {vs : List AV} (hX : den E x = some X) (hq : srcOf h F x = some (n, vs)) :
    ∃ VS, denL E vs = some VS ∧ Src P w F.size X n VS := by
  unfold srcOf at hq
  split at hq
  · simp [den] at hX; subst hX
    injection hq with hq
    injection hq with e1 e2
    subst e1 e2
    exact ⟨[], rfl, fun w' => by simp [Builtin.lenOf], fun w' _ => by simp [Builtin.firstCells], by simp⟩
  · rename_i j off base m esz
    obtain ⟨b, s, hE, hl, rfl⟩ := den_slc hX
    split at hq
    · rename_i hz
      have hz' := Nat.eq_of_beq_eq_true hz
      split at hq
      · rename_i cs op hi
        split at hq
        · rename_i ws hs
          injection hq with hq
          injection hq with e1 e2
          subst e1 e2
          obtain ⟨b', s', c, e, fr, us, rest, hE', hb, hsz, hf, hd, hc, _⟩ := hr.cells hi
          rw [hE] at hE'
          injection hE' with hE'
          injection hE' with e1 e2
          subst e1
          obtain ⟨R, h1, h2, h3, h4⟩ := denL_seg hd hs
          refine ⟨R, h1, fun w' => by simp [Builtin.lenOf], fun w' hw => ?_, h2⟩
          have hb' : w'.heap[b]? = some (.cells c e fr) := by rw [hw]; exact hb
          simp only [Builtin.firstCells]
          by_cases h0 : (s - off) / esz = 0
          · have hm : m = 0 := by omega
            subst hm
            have hR0 : R = [] := List.eq_nil_of_length_eq_zero (by rw [h2]; exact Nat.zero_mul _)
            rw [hR0, Nat.zero_mul]
            rfl
          · rw [if_neg h0]
            have := run_loadCells_row (P := P) hb' off R (seg_cells hc h3)
            rw [h2] at this
            exact this
        · cases hq
      · cases hq
    · cases hq
  · rename_i l
    cases den_str hX
    split at hq
    · rename_i h1
      injection hq with hq
      injection hq with e1 e2
      subst e1 e2
      refine ⟨_, natBytes_den l, fun w' => by simp [Builtin.lenOf, size_mk], fun w' _ => ?_, by simp [h1]⟩
      simp only [Builtin.firstCells, ByteArray.extract_mk, Sem.run_pure]
      simp
    · cases hq
  · cases hq

theorem append_ok (hT : ∀ t ti, T t = some ti → TIok P T t ti) (hr : Rel E h w) {ty tx rt e : Nat} {F : TI} (hu : P.underlying ty = some (.slice e)) (hF : T e = some F) 
    (hx : (∃ e, P.underlying tx = some (.slice e)) ∨ P.underlying tx = some .string) (h1 : 1 ≤ F.size) (h2 : F.zero.length = F.size) {s x : AV} {S X : Value} {q : OR} {r : Nat} (hfree : E r = none)
    (hS : den E s = some S) (hXv : den E x = some X) (hq : appendA F s h r (srcOf h F x) = some q) :
    ∃ v h' V w' E', q = .val v h' ∧ (Builtin.append_ #[ty, tx] rt #[S, X]).run P w = .ok V w' ∧ Ext E h w E' h' w' ∧ (∀ j, j ≠ r → E' j = E j) ∧ den E' v = some V := by
  obtain ⟨i, z, hi1, hi2, hi3, hi4, hzd, _⟩ := (hT _ _ hF).info
  have hzs : z.cells.size = F.size := by rw [← h2, ← denL_length (hzd E)]; simp
  cases hsrc : srcOf h F x with
  | none => rw [hsrc] at hq; simp [appendA] at hq
  | some p =>
    obtain ⟨n, vs⟩ := p
    obtain ⟨VS, hVS, hSrc⟩ := srcOf_ok (P := P) hr hXv hsrc
    rw [hsrc] at hq
    rw [← hi2] at hSrc
    cases n with
    | zero =>
      have hVS0 : VS = [] := List.eq_nil_of_length_eq_zero (by rw [hSrc.size, Nat.zero_mul])
      have hf := hSrc.cells w rfl
      have hl := hSrc.len w
      simp only [appendA] at hq
      split at hq
      · injection hq with hq; subst hq
        simp [den] at hS; subst hS
        refine ⟨_, _, .slice none 0 0, w, E, rfl, ?_, Ext.refl hr, fun _ _ => rfl, rfl⟩
        rcases hx with ⟨e', hx⟩ | hx <;>
          simp [Builtin.append_, run_underlying hu, run_underlying hx, sizeOf, typeInfo, hi1, hl, hf]
      · injection hq with hq; subst hq
        obtain ⟨b, sz, hE, hle, hS'⟩ := den_slc hS
        refine ⟨_, _, S, w, E, rfl, ?_, Ext.refl hr, fun _ _ => rfl, hS⟩
        subst hS'
        exact run_append_room' hu hx hi1 hSrc b _ _ _ hle (by rw [hVS0]; rfl)
      · cases hq
    | succ m =>
      simp only [appendA] at hq
      split at hq
      · cases hq
      · rename_i hone
        split at hq
        · simp [den] at hS; subst hS
          split at hq
          · rename_i hb1 hb2
            have hb1' : (m + 1) * F.bytes ≤ 140737488355328 := Nat.le_of_ble_eq_true hb1
            have hb2' : m + 1 ≤ 140737488355328 := Nat.le_of_ble_eq_true hb2
            rw [forceN_eq] at hq
            obtain ⟨h', hget, hK⟩ := Tr.setK_spec _ _ _ _ _ _ hq
            injection hK with hK
            obtain ⟨cap, hcap, hrun⟩ := run_append_grow' (rt := rt) hu hx hi1 hi4 hSrc none 0 0 [] (by simp [Builtin.firstCells]) (by omega) (by omega) (by rw [hi3, Nat.zero_add]; exact hb1')
            have hext := alloc_drew hr hfree hget e _ VS (Builtin.zeroCells z.cells (cap - (0 + (m + 1)))).toList hVS (show (([] : List Value).toArray ++ VS.toArray ++ Builtin.zeroCells z.cells (cap - (0 + (m + 1)))).toList = _ by simp) (fun e => by cases e)
            refine ⟨_, _, _, _, _, hK.symm, hrun, hext, fun j hj => Env.put_ne _ _ hj, ?_⟩
            have hsz : (([] : List Value).toArray ++ VS.toArray ++ Builtin.zeroCells z.cells (cap - (0 + (m + 1)))).size = cap * F.size := by
              simp only [Array.size_append, zeroCells_size, hzs]
              simp only [List.size_toArray, List.length_nil, hSrc.size, hi2, Nat.zero_add]
              rw [← Nat.add_mul]
              congr 1
              omega
            simp only [den, Env.put_self, hsz, Nat.sub_zero]
            have e := Nat.mul_div_cancel cap (show 0 < F.size by omega)
            simp only [e]
            rw [if_pos (by omega)]
            simp
          · cases hq
        · rename_i j len esz
          obtain ⟨b, sz, hE, hle, rfl⟩ := den_slc hS
          split at hq
          · cases hq
          · rename_i hz
            have hz' := Nat.eq_of_beq_eq_true hz
            split at hq
            · rename_i cs op hi
              split at hq
              · cases hq
              · rename_i old hold
                split at hq
                · rename_i hb1 hb2
                  have hb1' : (len + (m + 1)) * F.bytes ≤ 140737488355328 := Nat.le_of_ble_eq_true hb1
                  have hb2' : len + (m + 1) ≤ 140737488355328 := Nat.le_of_ble_eq_true hb2
                  rw [appK_eq, forceN_eq] at hq
                  obtain ⟨h1', hget1, hq⟩ := Tr.setK_spec _ _ _ _ _ _ hq
                  obtain ⟨h', hget2, hK⟩ := Tr.setK_spec _ _ _ _ _ _ hq
                  injection hK with hK
                  have hget : ∀ k, h'.get k = if k = r then some (.cells (old ++ vs) true) else if k = j then none else h.get k := fun k => by rw [hget2, hget1]
                  obtain ⟨b', s', c, e', fr, us, rest, hE', hb, hsz, hf, hd, hc, _⟩ := hr.cells hi
                  rw [hE] at hE'
                  injection hE' with hE'
                  injection hE' with e1 e2
                  subst e1 e2
                  obtain ⟨R, h1r, h2r, h3r, h4r⟩ := denL_seg hd hold
                  rw [List.drop_zero] at h3r
                  have hdn : denL E (old ++ vs) = some (R ++ VS) := denL_append h1r hVS
                  have hlen : len.mul F.size = len * F.size := rfl
                  rw [hlen] at h2r h3r h4r
                  have hVl : VS.length = (m + 1) * F.size := by rw [hSrc.size, hi2]
                  simp only [ite_self] at hS ⊢
                  by_cases hroom : len + (m + 1) ≤ (sz - 0) / esz
                  · have hfit : (len + (m + 1)) * F.size ≤ sz := by
                      rw [hz', Nat.sub_zero] at hroom
                      exact Nat.le_trans (Nat.mul_le_mul_right _ hroom) (Nat.div_mul_le_self _ _)
                    have hst := run_storeCells_row (P := P) (len * F.size) VS 0 c w hb (by rw [hVl, hsz, Nat.add_zero, ← Nat.add_mul]; exact hfit) (by rw [hsz]; exact hf) (allOne_den hone hVS)
                    rw [Nat.add_zero] at hst
                    have hrun := run_append_room' (rt := rt) hu hx hi1 hSrc b 0 len ((sz - 0) / esz) hroom (by rw [Nat.zero_add, hi2]; exact hst)
                    have hov : overV c.toList (len * F.size) VS = (R ++ VS) ++ c.toList.drop (len * F.size + VS.length) := by
                      unfold overV
                      congr 2
                      rw [hc, List.take_append_of_le_length (by omega), h3r]
                    have hlen2 : (overV c.toList (len * F.size) VS).length = sz := by
                      rw [overV_length (by rw [hVl, Array.length_toList, hsz, ← Nat.add_mul]; exact hfit), Array.length_toList, hsz]
                    have hext : Ext E h w (E.put r (b, sz)) h' (putO w b (.cells (overV c.toList (len * F.size) VS).toArray e' fr)) :=
                      Ext.rename hr hi hE hfree hget ⟨_, e', fr, _, c.toList.drop (len * F.size + VS.length), rfl, by simpa using hlen2, hf, denL_mono (Env.le_put hfree) _ _ hdn, by rw [← hov], fun e => by cases e⟩
                    refine ⟨_, _, _, _, _, hK.symm, hrun, hext, fun j hj => Env.put_ne _ _ hj, ?_⟩
                    simp only [den, Env.put_self, Nat.sub_zero]
                    rw [← hz']
                    rw [if_pos (by simpa using hroom)]
                    simp
                  · have hload : (Builtin.firstCells i.size len (.slice (some ⟨b, 0, none⟩) len ((sz - 0) / esz))).run P w.drew = .ok R.toArray w.drew := by
                      simp only [Builtin.firstCells, hi2]
                      have := run_loadCells_row (P := P) (w := w.drew) hb 0 R (seg_cells hc (by rw [List.drop_zero]; exact h3r))
                      rw [h2r] at this
                      exact this
                    obtain ⟨cap, hcap, hrun⟩ := run_append_grow' (rt := rt) hu hx hi1 hi4 hSrc (some ⟨b, 0, none⟩) len ((sz - 0) / esz) R hload (by omega) (by omega) (by rw [hi3]; exact hb1')
                    have hsz2 : (R.toArray ++ VS.toArray ++ Builtin.zeroCells z.cells (cap - (len + (m + 1)))).size = cap * F.size := by
                      simp only [Array.size_append, zeroCells_size, hzs]
                      simp only [List.size_toArray, h2r, hVl]
                      rw [← Nat.add_mul, ← Nat.add_mul]
                      congr 1
                      omega
                    have hext : Ext E h w (E.put r (w.heap.size, cap * F.size)) h' (w.drew.alloc (.cells (R.toArray ++ VS.toArray ++ Builtin.zeroCells z.cells (cap - (len + (m + 1)))) e)) :=
                      (Ext.drew hr).trans (Ext.replace hr.drew hfree hget ⟨_, e, (0, 0), _, (Builtin.zeroCells z.cells (cap - (len + (m + 1)))).toList, rfl, hsz2, fun i _ hh => by omega, denL_mono (Env.le_put hfree) _ _ hdn, by simp, fun e => by cases e⟩)
                    refine ⟨_, _, _, _, _, hK.symm, hrun, hext, fun j hj => Env.put_ne _ _ hj, ?_⟩
                    simp only [den, Env.put_self, Nat.sub_zero]
                    have e := Nat.mul_div_cancel cap (show 0 < F.size by omega)
                    simp only [e]
                    rw [if_pos (by simpa using hcap)]
                    simp
                · cases hq
            · cases hq
        · cases hq

end
end Go.Ae
