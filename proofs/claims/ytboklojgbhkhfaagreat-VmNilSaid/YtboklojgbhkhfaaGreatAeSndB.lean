/- The operations of the abstract evaluator do what the model's operations do: maps written, iterators, calls; and all of them together. The one condition: the table of types is the program's (TIok). -/
import Derived.Test.YtboklojgbhkhfaaGreatAeSndA
import Derived.Laws.RangeString
namespace Go.Ae
section
variable {P : Program} {T : TT} {a : Act} {o : Oper} {E : Env} {h : Tr AO} {w : World} {t : List AV}

theorem run_setObj {b : Nat} {x y : Obj} (hb : w.heap[b]? = some x) (hx : ∀ c e f, x ≠ .cells c e f) : (setObj b y).run P w = .ok () (putO w b y) := by
  simp only [setObj, Sem.run, hb]
  cases x <;> first | (exact absurd rfl (hx _ _ _)) | rfl

theorem modN_den {k v : AV} {K V : Value} (hk : den E k = some K) (hv : den E v = some V) : ∀ (es : List (AV × AV × Nat)) (n : Nat) (L : List MapEntry), entDen E es = some L →
    entDen E (modN k v es n) = some (L.modify n fun e => { e with key := K, val := V })
  | [], n, L, hd => by simp [entDen] at hd; subst hd; cases n <;> simp [modN, entDen, List.modify]
  | (x, y, b) :: es, 0, L, hd => by
    obtain ⟨X, Y, M, rfl, hX, hY, hM⟩ := entDen_cons hd
    simp [modN, entDen, hk, hv, hM]
  | (x, y, b) :: es, n + 1, L, hd => by
    obtain ⟨X, Y, M, rfl, hX, hY, hM⟩ := entDen_cons hd
    have ih := modN_den hk hv es n M hM
    simp [modN, entDen, hX, hY, ih]

theorem entDen_append : ∀ {l m : List (AV × AV × Nat)} {L M : List MapEntry}, entDen E l = some L → entDen E m = some M → entDen E (l ++ m) = some (L ++ M)
  | [], m, L, M, h, h' => by simp [entDen] at h; subst h; simpa using h'
  | (x, y, b) :: l, m, L, M, h, h' => by
    obtain ⟨X, Y, N, rfl, hX, hY, hN⟩ := entDen_cons h
    have ih := entDen_append hN h'
    simp [entDen, hX, hY, ih]

theorem delN_den : ∀ (es : List (AV × AV × Nat)) (n : Nat) (L : List MapEntry), entDen E es = some L → entDen E (delN es n) = some (L.eraseIdx n)
  | [], n, L, hd => by simp [entDen] at hd; subst hd; simp [delN, entDen]
  | (x, y, b) :: es, 0, L, hd => by
    obtain ⟨X, Y, M, rfl, hX, hY, hM⟩ := entDen_cons hd
    simp [delN, hM]
  | (x, y, b) :: es, n + 1, L, hd => by
    obtain ⟨X, Y, M, rfl, hX, hY, hM⟩ := entDen_cons hd
    have ih := delN_den es n M hM
    simp [delN, entDen, hX, hY, ih]

theorem update_ok (hT : ∀ t ti, T t = some ti → TIok P T t ti) (hr : Rel E h w) {ty : Nat} {m k v : AV} {M K V : Value} {q : OR} {r : Nat} (hM : den E m = some M) (hK : den E k = some K) (hV : den E v = some V)
    (hq : xupdate T ty m k v h = some q) :
    ∃ h' w' E', q = .val (.tup []) h' ∧ (Instr.mapUpdate ty M K V).run P w = .ok () w' ∧ Ext E h w E' h' w' ∧ (∀ j, j ≠ r → E' j = E j) := by
  unfold xupdate at hq
  split at hq
  · rename_i kt et size bytes zr eqs ht
    have hu := (hT _ _ ht).und
    split at hq
    · cases hq
    · rename_i hkk
      obtain ⟨d, hk⟩ := keyKind_ok hT hkk
      have hck := checkKey_ok hk hK false w
      split at hq
      · rename_i i
        obtain ⟨b, s, hE, rfl⟩ := den_map hM
        split at hq
        · rename_i es clk hi
          obtain ⟨b', s', x, h1, h2, ents, rfl, h3⟩ := hr.obj _ _ hi
          rw [hE] at h1
          injection h1 with h1
          injection h1 with e1 e2
          subst e1 e2
          split at hq
          · rename_i n u hf
            obtain ⟨h', hget, hq⟩ := Tr.setK_spec _ _ _ _ _ _ hq
            injection hq with hq
            obtain ⟨U, hU, hfn, _, e, he, hsb⟩ := findA_ok hk hK es ents.toList 0 _ h3 hf
            have hfk := findKey_ok hk hfn w
            have he' : ents[n]? = some e := by simpa using he
            have hkeep : (Instr.keyThatStays e.key K).run P w = .ok K w := by simp [Instr.keyThatStays, hsb]
            refine ⟨h', _, E, hq.symm, ?_, Ext.write hr hi hE hget (x := .map (ents.modify n fun e => { e with key := K, val := V }) clk) ⟨_, rfl, by rw [Array.toList_modify]; exact modN_den hK hV es n _ h3⟩, fun _ _ => rfl⟩
            simp [Instr.mapUpdate, run_underlying hu, getObj, Sem.run, h2, hck, hfk, he', hkeep, run_setObj (P := P) h2 (by simp)]
          · rename_i hf
            obtain ⟨h', hget, hq⟩ := Tr.setK_spec _ _ _ _ _ _ hq
            injection hq with hq
            have hfn := findA_ok hk hK es ents.toList 0 _ h3 hf
            have hfk := findKey_ok hk hfn w
            refine ⟨h', _, E, hq.symm, ?_, Ext.write hr hi hE hget (x := .map (ents.push { key := K, val := V, born := clk }) (clk + 1)) ⟨_, rfl, by rw [Array.toList_push]; exact entDen_append h3 (by simp [entDen, hK, hV])⟩, fun _ _ => rfl⟩
            simp [Instr.mapUpdate, run_underlying hu, getObj, Sem.run, h2, hck, hfk, run_setObj (P := P) h2 (by simp)]
          · cases hq
        · cases hq
      · cases hq
  · cases hq

theorem delete_ok (hT : ∀ t ti, T t = some ti → TIok P T t ti) (hr : Rel E h w) {ty tx rt : Nat} {m k : AV} {M K : Value} {q : OR} {r : Nat} (hM : den E m = some M) (hK : den E k = some K)
    (hq : xdelete T ty m k h = some q) :
    ∃ v h' V w' E', q = .val v h' ∧ (Builtin.delete_ #[ty, tx] rt #[M, K]).run P w = .ok V w' ∧ Ext E h w E' h' w' ∧ (∀ j, j ≠ r → E' j = E j) ∧ den E' v = some V := by
  unfold xdelete at hq
  split at hq
  · rename_i kt et size bytes zr eqs ht
    have hu := (hT _ _ ht).und
    split at hq
    · cases hq
    · rename_i hkk
      obtain ⟨d, hk⟩ := keyKind_ok hT hkk
      have hck := fun b => checkKey_ok hk hK b w
      split at hq
      · injection hq with hq; subst hq
        simp [den] at hM; subst hM
        refine ⟨_, _, .tuple #[], w, E, rfl, ?_, Ext.refl hr, fun _ _ => rfl, rfl⟩
        simp [Builtin.delete_, run_underlying hu, hck]
      · rename_i i
        obtain ⟨b, s, hE, rfl⟩ := den_map hM
        split at hq
        · rename_i es clk hi
          obtain ⟨b', s', x, h1, h2, ents, rfl, h3⟩ := hr.obj _ _ hi
          rw [hE] at h1
          injection h1 with h1
          injection h1 with e1 e2
          subst e1 e2
          split at hq
          · rename_i n u hf
            obtain ⟨h', hget, hq⟩ := Tr.setK_spec _ _ _ _ _ _ hq
            injection hq with hq
            obtain ⟨U, hU, hfn, _⟩ := findA_ok hk hK es ents.toList 0 _ h3 hf
            have hfk := findKey_ok hk hfn w
            refine ⟨_, h', .tuple #[], _, E, hq.symm, ?_, Ext.write hr hi hE hget (x := .map (ents.eraseIdxIfInBounds n) clk) ⟨_, rfl, by rw [Array.toList_eraseIdxIfInBounds]; exact delN_den es n _ h3⟩, fun _ _ => rfl, rfl⟩
            simp [Builtin.delete_, run_underlying hu, getObj, Sem.run, h2, hck, hfk, run_setObj (P := P) h2 (by simp)]
          · rename_i hf
            injection hq with hq; subst hq
            have hfn := findA_ok hk hK es ents.toList 0 _ h3 hf
            have hfk := findKey_ok hk hfn w
            refine ⟨_, _, .tuple #[], w, E, rfl, ?_, Ext.refl hr, fun _ _ => rfl, rfl⟩
            simp [Builtin.delete_, run_underlying hu, getObj, Sem.run, h2, hck, hfk, run_setObj (P := P) h2 (by simp), putO_self w b _ h2]
          · cases hq
        · cases hq
      · cases hq
  · cases hq

theorem range_ok (hT : ∀ t ti, T t = some ti → TIok P T t ti) (hr : Rel E h w) {ty : Nat} {x : AV} {X : Value} {q : OR} {r : Nat} (hfree : E r = none) (hX : den E x = some X) (hq : xrange T ty x h r = some q) :
    ∃ v h' V w' E', q = .val v h' ∧ (Instr.range ty X).run P w = .ok V w' ∧ Ext E h w E' h' w' ∧ (∀ j, j ≠ r → E' j = E j) ∧ den E' v = some V := by
  have fin : ∀ (ob : AO) (x : Obj) (h' : Tr AO), (∀ j, h'.get j = if j = r then some ob else h.get j) → ob.rel (E.put r (w.heap.size, 0)) 0 x →
      Ext E h w (E.put r (w.heap.size, 0)) h' (w.alloc x) ∧ (∀ j, j ≠ r → E.put r (w.heap.size, 0) j = E j) ∧ den (E.put r (w.heap.size, 0)) (.ptr r 0) = some (.pointer (some ⟨w.heap.size, 0, none⟩)) := by
    intro ob x h' hget ho
    exact ⟨Ext.alloc hr hfree hget ho, fun j hj => Env.put_ne _ _ hj, by simp [den, Env.put_self]⟩
  unfold xrange at hq
  split at hq
  · rename_i size bytes zr eqs ht
    have hu := (hT _ _ ht).und
    split at hq
    · rename_i l
      cases den_str hX
      obtain ⟨h', hget, hq⟩ := Tr.setK_spec _ _ _ _ _ _ hq
      injection hq with hq
      obtain ⟨f1, f2, f3⟩ := fin _ (.stringIter ⟨l.toArray⟩ 0) h' hget rfl
      exact ⟨_, h', _, _, _, hq.symm, by simp [Instr.range, run_underlying hu, newObj, Sem.run], f1, f2, f3⟩
    · cases hq
  · rename_i kt et size bytes zr eqs ht
    have hu := (hT _ _ ht).und
    split at hq
    · simp [den] at hX; subst hX
      obtain ⟨h', hget, hq⟩ := Tr.setK_spec _ _ _ _ _ _ hq
      injection hq with hq
      obtain ⟨f1, f2, f3⟩ := fin _ (.mapIter none 0 #[] 0) h' hget (.inl ⟨rfl, rfl⟩)
      exact ⟨_, h', _, _, _, hq.symm, by simp [Instr.range, run_underlying hu, newObj, Sem.run], f1, f2, f3⟩
    · rename_i i
      obtain ⟨b, s, hE, rfl⟩ := den_map hX
      split at hq
      · rename_i es clk hi
        obtain ⟨b', s', x, h1, h2, ents, rfl, h3⟩ := hr.obj _ _ hi
        rw [hE] at h1
        injection h1 with h1
        injection h1 with e1 e2
        subst e1 e2
        obtain ⟨h', hget, hq⟩ := Tr.setK_spec _ _ _ _ _ _ hq
        injection hq with hq
        obtain ⟨f1, f2, f3⟩ := fin _ (.mapIter (some b) clk #[] clk) h' hget (.inr ⟨i, b, s, rfl, Env.le_put hfree _ _ hE, rfl⟩)
        exact ⟨_, h', _, _, _, hq.symm, by simp [Instr.range, run_underlying hu, newObj, getObj, Sem.run, h2], f1, f2, f3⟩
      · cases hq
    · cases hq
  · cases hq

theorem entry_ok (hr : Rel E h w) {x : AV} {X : Value} {q : OR} {r : Nat} (hX : den E x = some X) (hq : xentry x h = some q) :
    ∃ v h' V w' E', q = .val v h' ∧ (Instr.entry X).run P w = .ok V w' ∧ Ext E h w E' h' w' ∧ (∀ j, j ≠ r → E' j = E j) ∧ den E' v = some V := by
  unfold xentry at hq
  split at hq
  · rename_i i
    obtain ⟨bl, s, hE, rfl⟩ := den_ptr hX
    split at hq
    · rename_i m since sn stepped hi
      obtain ⟨b', s', x, h1, h2, h3⟩ := hr.obj _ _ hi
      rw [hE] at h1
      injection h1 with h1
      injection h1 with e1 e2
      subst e1 e2
      rcases h3 with ⟨h3, _⟩ | ⟨m', mb, ms, h3, hEm, rfl⟩
      · cases h3
      · injection h3 with h3
        subst h3
        split at hq
        · rename_i k v born clk hm
          obtain ⟨b', s', x, h4, h5, ents, rfl, h6⟩ := hr.obj _ _ hm
          rw [hEm] at h4
          injection h4 with h4
          injection h4 with e1 e2
          subst e1 e2
          obtain ⟨K, V, M, hL, hK, hV, hM⟩ := entDen_cons h6
          have hM0 : M = [] := by simp [entDen] at hM; exact hM
          subst hM0
          have he : ents = #[{ key := K, val := V, born := born }] := by
            apply Array.ext'
            simp [hL]
          subst he
          split at hq
          · rename_i hb1 hb2
            injection hq with hq; subst hq
            have e1 := Nat.eq_of_beq_eq_true hb1
            have e2 := Nat.eq_of_beq_eq_true hb2
            subst e1 e2
            refine ⟨_, _, .tuple #[K, V], w, E, rfl, ?_, Ext.refl hr, fun _ _ => rfl, by simp [den, denL, hK, hV]⟩
            simp [Instr.entry, getObj, Sem.run, h2, h5]
          · cases hq
        · cases hq
    · cases hq
  · cases hq

theorem next_ok (hr : Rel E h w) {ty : Nat} {x : AV} {X : Value} {b : Bool} {q : OR} {r : Nat} (hX : den E x = some X) (hq : xnext x b h = some q) :
    ∃ v h' V w' E', q = .val v h' ∧ (Instr.next X b ty).run P w = .ok V w' ∧ Ext E h w E' h' w' ∧ (∀ j, j ≠ r → E' j = E j) ∧ den E' v = some V := by
  unfold xnext at hq
  split at hq
  · rename_i i
    obtain ⟨bl, s, hE, rfl⟩ := den_ptr hX
    split at hq
    · rename_i l pos hi
      obtain ⟨b', s', x, h1, h2, h3⟩ := hr.obj _ _ hi
      rw [hE] at h1
      injection h1 with h1
      injection h1 with e1 e2
      subst e1 e2
      have h3' : x = .stringIter ⟨l.toArray⟩ pos := h3
      subst h3'
      split at hq
      · rename_i hg
        injection hq with hq; subst hq
        rw [getB_eq] at hg
        have hp : ¬ pos < (ByteArray.mk l.toArray).size := by rw [size_mk]; have := List.getElem?_eq_none_iff.1 hg; omega
        exact ⟨_, _, .tuple #[.bool false], w, E, rfl, by simp [Instr.next, getObj, Sem.run, h2, hp], Ext.refl hr, fun _ _ => rfl, by simp [den, denL]⟩
      · rename_i c hg
        split at hq
        · rename_i hc
          rw [forceN_eq] at hq
          obtain ⟨h', hget, hq⟩ := Tr.setK_spec _ _ _ _ _ _ hq
          injection hq with hq
          rw [getB_eq] at hg
          obtain ⟨hlt, hce⟩ := List.getElem?_eq_some_iff.1 hg
          have hp : pos < (ByteArray.mk l.toArray).size := by rw [size_mk]; exact hlt
          have hcv : ((ByteArray.mk l.toArray)[pos]'hp) = c := hce
          have ha : ((ByteArray.mk l.toArray)[pos]'hp).toNat < 128 := by rw [hcv]; simpa [Nat.blt_eq] using hc
          have hdec := decode_ascii _ pos hp ha
          rw [hcv] at hdec
          refine ⟨_, h', .tuple #[.bool true, .int .i64 pos, .int .i32 c.toNat], _, E, hq.symm, ?_, Ext.write hr hi hE hget (x := .stringIter ⟨l.toArray⟩ (pos + 1)) rfl, fun _ _ => rfl, by simp [den, denL]⟩
          simp [Instr.next, getObj, Sem.run, h2, hp, hdec, run_setObj (P := P) h2 (by simp), goInt]
        · cases hq
    · rename_i since seen st hi
      obtain ⟨b', s', x, h1, h2, h3⟩ := hr.obj _ _ hi
      rw [hE] at h1
      injection h1 with h1
      injection h1 with e1 e2
      subst e1 e2
      rcases h3 with ⟨_, rfl⟩ | ⟨i, b, s, h3, _⟩
      · injection hq with hq; subst hq
        exact ⟨_, _, .tuple #[.bool false], w, E, rfl, by simp [Instr.next, getObj, Sem.run, h2], Ext.refl hr, fun _ _ => rfl, by simp [den, denL]⟩
      · cases h3
    · rename_i m since seen st hi
      obtain ⟨b', s', x, h1, h2, h3⟩ := hr.obj _ _ hi
      rw [hE] at h1
      injection h1 with h1
      injection h1 with e1 e2
      subst e1 e2
      rcases h3 with ⟨h3, _⟩ | ⟨m', mb, ms, h3, hEm, rfl⟩
      · cases h3
      · injection h3 with h3
        subst h3
        split at hq
        · rename_i clk hm
          injection hq with hq; subst hq
          obtain ⟨b', s', x, h4, h5, ents, rfl, h6⟩ := hr.obj _ _ hm
          rw [hEm] at h4
          injection h4 with h4
          injection h4 with e1 e2
          subst e1 e2
          have he : ents = #[] := by
            simp [entDen] at h6
            apply Array.ext'
            simp [← h6]
          subst he
          refine ⟨_, _, .tuple #[.bool false], w, E, rfl, ?_, Ext.refl hr, fun _ _ => rfl, by simp [den, denL]⟩
          simp [Instr.next, getObj, Sem.run, h2, h5, choose, Question.forced]
        · rename_i k v born clk hm
          obtain ⟨b', s', x, h4, h5, ents, rfl, h6⟩ := hr.obj _ _ hm
          rw [hEm] at h4
          injection h4 with h4
          injection h4 with e1 e2
          subst e1 e2
          obtain ⟨K, V, M, hL, hK, hV, hM⟩ := entDen_cons h6
          have hM0 : M = [] := by simp [entDen] at hM; exact hM
          subst hM0
          have he : ents = #[{ key := K, val := V, born := born }] := by
            apply Array.ext'
            simp [hL]
          subst he
          split at hq
          · split at hq
            · rename_i hb
              obtain ⟨h', hget, hq⟩ := Tr.setK_spec _ _ _ _ _ _ hq
              injection hq with hq
              have hb' : born < since := by simpa [Nat.blt_eq] using hb
              refine ⟨_, h', .tuple #[.bool true, K, V], _, E, hq.symm, ?_, Ext.write hr hi hE hget (x := .mapIter (some mb) since #[born] clk) (.inr ⟨m, mb, ms, rfl, hEm, rfl⟩), fun _ _ => rfl, by simp [den, denL, hK, hV]⟩
              have hnb : ¬ since ≤ born := by omega
              simp [Instr.next, getObj, Sem.run, h2, h5, choose, Question.forced, hb', hnb, run_setObj (P := P) h2 (by simp)]
            · cases hq
          · split at hq
            · rename_i hb1 hb2
              injection hq with hq; subst hq
              have hb1' := Nat.eq_of_beq_eq_true hb1
              have hb2' : born < st := by simpa [Nat.blt_eq] using hb2
              subst hb1'
              refine ⟨_, _, .tuple #[.bool false], w, E, rfl, ?_, Ext.refl hr, fun _ _ => rfl, by simp [den, denL]⟩
              simp [Instr.next, getObj, Sem.run, h2, h5, choose, Question.forced, hb2']
            · cases hq
          · cases hq
        · cases hq
    · cases hq
  · cases hq

end
end Go.Ae
