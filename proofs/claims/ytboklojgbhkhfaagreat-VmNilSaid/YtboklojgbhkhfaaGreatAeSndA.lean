/- The operations of the abstract evaluator do what the model's operations do: copy, maps. The one condition: the table of types is the program's (TIok). -/
import Derived.Test.YtboklojgbhkhfaaGreatAeSnd9
namespace Go.Ae
section
variable {P : Program} {T : TT} {a : Act} {o : Oper} {E : Env} {h : Tr AO} {w : World} {t : List AV}

theorem copy_ok (hT : ∀ t ti, T t = some ti → TIok P T t ti) (hr : Rel E h w) {ty tx rt : Nat} {d x : AV} {D X : Value} {q : OR} {r : Nat} (hD : den E d = some D) (hX : den E x = some X) (hq : xcopy T ty d x h = some q) :
    ∃ v h' V w' E', q = .val v h' ∧ (Builtin.copy_ #[ty, tx] rt #[D, X]).run P w = .ok V w' ∧ Ext E h w E' h' w' ∧ (∀ j, j ≠ r → E' j = E j) ∧ den E' v = some V := by
  unfold xcopy at hq
  split at hq
  · rename_i e size bytes zr eqs ht
    have hu := (hT _ _ ht).und
    split at hq
    · cases hq
    · rename_i F hF
      split at hq
      · rename_i i off base len esz j o2 b2 n ez2
        obtain ⟨b, s, hE, hl, rfl⟩ := den_slc hD
        obtain ⟨b', s', hE', hl', rfl⟩ := den_slc hX
        split at hq
        · rename_i h1 h2 h3
          have h1' := Nat.eq_of_beq_eq_true h1
          have h2' := Nat.eq_of_beq_eq_true h2
          have h3' := Nat.le_of_ble_eq_true h3
          rw [forceN_eq] at hq
          split at hq
          · rename_i cs op hj
            split at hq
            · rename_i vs hs
              split at hq
              · rename_i ds op' hone hi
                split at hq
                · rename_i ds' hov
                  obtain ⟨h', hget, hK⟩ := Tr.setK_spec _ _ _ _ _ _ hq
                  injection hK with hK
                  obtain ⟨p, sp, c, ee, fr, us, rest, hEj, hb, hsz, hf, hd, hc, _⟩ := hr.cells hj
                  rw [hE'] at hEj
                  injection hEj with hEj
                  injection hEj with e1 e2
                  subst e1
                  obtain ⟨R, hR1, hR2, hR3, hR4⟩ := denL_seg hd hs
                  have hkm : (Nat.min n len).mul F.size = Nat.min n len * F.size := rfl
                  rw [hkm] at hR2 hR3
                  have hfirst : (Builtin.firstCells F.size (Nat.min n len) (.slice (some ⟨b', if (s' - o2) / ez2 = 0 then b2 else o2, none⟩) n ((s' - o2) / ez2))).run P w = .ok R.toArray w := by
                    simp only [Builtin.firstCells]
                    by_cases h0 : (s' - o2) / ez2 = 0
                    · have hm : Nat.min n len = 0 := by have := Nat.min_le_left n len; simp only [Nat.min_def] at *; omega
                      have hR0 : R = [] := List.eq_nil_of_length_eq_zero (by rw [hR2, hm, Nat.zero_mul])
                      rw [hR0, hm, Nat.zero_mul]
                      rfl
                    · rw [if_neg h0]
                      have := run_loadCells_row (P := P) hb o2 R (seg_cells hc hR3)
                      rw [hR2] at this
                      exact this
                  have hsize := run_sizeOf' (hT _ _ hF) w
                  have hst : ∃ w', (storeCells ⟨b, if (s - off) / esz = 0 then base else off, none⟩ R).run P w = .ok () w' ∧ Ext E h w E h' w' := by
                    by_cases h0 : (s - off) / esz = 0
                    · have hm : Nat.min n len = 0 := by simp only [Nat.min_def]; split <;> omega
                      have hR0 : R = [] := List.eq_nil_of_length_eq_zero (by rw [hR2, hm, Nat.zero_mul])
                      have hv0 : vs = [] := by
                        have := denL_length hR1
                        rw [hR0] at this
                        exact List.eq_nil_of_length_eq_zero this.symm
                      obtain ⟨w', hst, hext⟩ := write_cells (P := P) hr hi hov hone hR1 hget hE
                      subst hR0
                      have hw : w' = w := by
                        simp only [storeCells, Sem.run_pure] at hst
                        injection hst with _ hst; exact hst.symm
                      subst hw
                      exact ⟨_, rfl, hext⟩
                    · rw [if_neg h0]
                      exact write_cells (P := P) hr hi hov hone hR1 hget hE
                  obtain ⟨w', hst, hext⟩ := hst
                  refine ⟨_, _, .int .i64 (Nat.min n len), w', E, hK.symm, ?_, hext, fun _ _ => rfl, rfl⟩
                  have hlen : ∀ A c w, (Builtin.lenOf (.slice A n c)).run P w = .ok n w := fun A c w => by simp [Builtin.lenOf]
                  have hlen' := hlen (some ⟨b', if (s' - o2) / ez2 = 0 then b2 else o2, none⟩) ((s' - o2) / ez2) w
                  generalize (Value.slice (some ⟨b', if (s' - o2) / ez2 = 0 then b2 else o2, none⟩) n ((s' - o2) / ez2)) = XV at hfirst hlen' ⊢
                  generalize (if (s - off) / esz = 0 then base else off) = A at hst ⊢
                  simp [Builtin.copy_, run_underlying hu, hlen', hsize, hfirst, hst, goInt]
                · cases hq
              · cases hq
            · cases hq
          · cases hq
        · cases hq
      · rename_i i off base len esz
        obtain ⟨b, s, hE, hl, rfl⟩ := den_slc hD
        simp only [den] at hX
        injection hX with hX
        injection hq with hq
        subst hX hq
        have hsize := run_sizeOf' (hT _ _ hF) w
        generalize (if (s - off) / esz = 0 then base else off) = A
        refine ⟨_, _, .int .i64 0, w, E, rfl, ?_, Ext.refl hr, fun _ _ => rfl, rfl⟩
        simp [Builtin.copy_, run_underlying hu, Builtin.lenOf, Builtin.firstCells, hsize, storeCells, goInt]
      · simp only [den] at hX hD
        injection hX with hX
        injection hD with hD
        injection hq with hq
        subst hX hD hq
        have hsize := run_sizeOf' (hT _ _ hF) w
        refine ⟨_, _, .int .i64 0, w, E, rfl, ?_, Ext.refl hr, fun _ _ => rfl, rfl⟩
        simp [Builtin.copy_, run_underlying hu, Builtin.lenOf, Builtin.firstCells, hsize, goInt]
      · cases hq
  · cases hq

/-! ### maps -/

/-- The kinds of keys that are known. -/
def KeyIs (P : Program) (kt : Nat) (k : AV) (d : TypeDesc) : Prop :=
  P.underlying kt = some d ∧ ((∃ j, d = .int j ∧ ∃ j' n, k = .int j' n) ∨ (d = .string ∧ ∃ l, k = .str l) ∨ (d = .bool ∧ ∃ b, k = .bool b))

theorem keyKind_ok (hT : ∀ t ti, T t = some ti → TIok P T t ti) {kt : Nat} {k : AV} (hk : keyKind T kt k = true) : ∃ d, KeyIs P kt k d := by
  unfold keyKind at hk
  split at hk
  · rename_i ht; exact ⟨_, (hT _ _ ht).und, .inl ⟨_, rfl, _, _, rfl⟩⟩
  · rename_i ht; exact ⟨_, (hT _ _ ht).und, .inr (.inl ⟨rfl, _, rfl⟩)⟩
  · rename_i ht; exact ⟨_, (hT _ _ ht).und, .inr (.inr ⟨rfl, _, rfl⟩)⟩
  · cases hk

theorem checkKey_ok {kt : Nat} {k : AV} {K : Value} {d : TypeDesc} (hk : KeyIs P kt k d) (hK : den E k = some K) (b : Bool) (w : World) : (Instr.checkKey b 10000 kt K).run P w = .ok () w := by
  have key : ∀ n, (Instr.checkKey b (n + 1) kt K).run P w = .ok () w := by
    intro n
    obtain ⟨hu, hk⟩ := hk
    rcases hk with ⟨j, rfl, j', m, rfl⟩ | ⟨rfl, l, rfl⟩ | ⟨rfl, c, rfl⟩
    · cases den_int hK; simp [Instr.checkKey, run_underlying hu]
    · cases den_str hK; simp [Instr.checkKey, run_underlying hu]
    · cases den_bool hK; simp [Instr.checkKey, run_underlying hu]
  exact key 9999

theorem keyBeq_ok {k x : AV} {K X : Value} {kt : Nat} {d : TypeDesc} {r : Bool} (hk : KeyIs P kt k d) (hK : den E k = some K) (hX : den E x = some X) (hq : keyBeq k x = some r) :
    Instr.sameNow d K X = some r ∧ (r = true → K = X ∧ ∀ n, Instr.sameBits n X K = true) := by
  obtain ⟨hu, hk⟩ := hk
  rcases hk with ⟨j, rfl, j', m, rfl⟩ | ⟨rfl, l, rfl⟩ | ⟨rfl, c, rfl⟩
  · cases x <;> simp only [keyBeq] at hq <;> first | (cases hq; done) | skip
    cases den_int hK; cases den_int hX
    split at hq
    · rename_i hkk
      injection hq with hq
      cases ikBeq_eq hkk
      refine ⟨by simp [Instr.sameNow, ← hq, intBeq_eq, beq_decide], fun e => ?_⟩
      rw [intBeq_eq] at hq
      rw [e] at hq
      simp at hq
      subst hq
      exact ⟨rfl, fun n => by cases n <;> simp [Instr.sameBits]⟩
    · cases hq
  · cases x <;> simp only [keyBeq] at hq <;> first | (cases hq; done) | skip
    cases den_str hK; cases den_str hX
    injection hq with hq
    refine ⟨?_, fun e => ?_⟩
    · simp only [Instr.sameNow, ← hq, strBeq_beq, beq_toListBytes, ByteArray.toList_mk]
    · rw [strBeq_eq] at hq
      rw [e] at hq
      simp at hq
      subst hq
      exact ⟨rfl, fun n => by cases n <;> simp [Instr.sameBits, beq_toListBytes]⟩
  · cases x <;> simp only [keyBeq] at hq <;> first | (cases hq; done) | skip
    rename_i c'
    cases den_bool hK; cases den_bool hX
    injection hq with hq
    refine ⟨?_, fun e => ?_⟩
    · cases c <;> cases c' <;> simp [Instr.sameNow, ← hq]
    · cases c <;> cases c' <;> simp_all [Instr.sameBits]

theorem entDen_cons {k v : AV} {b : Nat} {l : List (AV × AV × Nat)} {L : List MapEntry} (h : entDen E ((k, v, b) :: l) = some L) :
    ∃ K V M, L = { key := K, val := V, born := b } :: M ∧ den E k = some K ∧ den E v = some V ∧ entDen E l = some M := by
  simp only [entDen] at h
  split at h
  · rename_i K V M h1 h2 h3
    injection h with h
    exact ⟨K, V, M, h.symm, h1, h2, h3⟩
  · cases h

theorem findA_ok {k : AV} {K : Value} {kt : Nat} {d : TypeDesc} (hk : KeyIs P kt k d) (hK : den E k = some K) : ∀ (es : List (AV × AV × Nat)) (L : List MapEntry) (i : Nat) (res : Option (Nat × AV)),
    entDen E es = some L → findA k es i = some res →
    match res with
    | none => Instr.findNow d K L i = some none
    | some (n, v) => ∃ V, den E v = some V ∧ Instr.findNow d K L i = some (some (n, V)) ∧ i ≤ n ∧ ∃ e, L[n - i]? = some e ∧ ∀ m, Instr.sameBits m e.key K = true
  | [], L, i, res, hd, hq => by
    simp [entDen] at hd; subst hd
    simp [findA] at hq; subst hq
    simp [Instr.findNow]
  | (x, v, b) :: es, L, i, res, hd, hq => by
    obtain ⟨X, V, M, rfl, hX, hV, hM⟩ := entDen_cons hd
    simp only [findA] at hq
    split at hq
    · rename_i hb
      injection hq with hq; subst hq
      obtain ⟨h1, h2⟩ := keyBeq_ok hk hK hX hb
      exact ⟨V, hV, by simp [Instr.findNow, h1], Nat.le_refl _, _, by simp; rfl, (h2 rfl).2⟩
    · rename_i hb
      obtain ⟨h1, h2⟩ := keyBeq_ok hk hK hX hb
      have ih := findA_ok hk hK es M (Nat.succ i) res hM hq
      cases res with
      | none => simpa [Instr.findNow, h1] using ih
      | some p =>
        obtain ⟨n, u⟩ := p
        obtain ⟨U, h3, h4, h5, e, h6, h7⟩ := ih
        have h5' : i + 1 ≤ n := h5
        refine ⟨U, h3, by simpa [Instr.findNow, h1] using h4, by omega, e, ?_, h7⟩
        rw [show n - i = (n - (i + 1)) + 1 by omega, List.getElem?_cons_succ]
        exact h6
    · cases hq

theorem findKey_ok {k : AV} {K : Value} {kt : Nat} {d : TypeDesc} (hk : KeyIs P kt k d) {L : List MapEntry} {r : Option (Nat × Value)} (hf : Instr.findNow d K L 0 = some r) (w : World) :
    (Instr.findKey kt K L).run P w = .ok r w := by
  simp only [Instr.findKey, Sem.run_bind, run_underlying hk.1, Result.andThen_ok, hf, Sem.run_pure]

theorem lookup_ok (hT : ∀ t ti, T t = some ti → TIok P T t ti) (hr : Rel E h w) {ty : Nat} {m k v : AV} {M K : Value} {ok : Bool} (hM : den E m = some M) (hK : den E k = some K) (hq : xlookup T ty m k ok h = some v) :
    ∃ V, (Instr.lookup ty M K ok).run P w = .ok V w ∧ den E v = some V := by
  unfold xlookup at hq
  split at hq
  · rename_i kt et size bytes zr eqs ht
    have hu := (hT _ _ ht).und
    split at hq
    · cases hq
    · rename_i hkk
      obtain ⟨d, hk⟩ := keyKind_ok hT hkk
      split at hq
      · cases hq
      · rename_i es hes
        have hent : ∃ L : Array MapEntry, entDen E es = some L.toList ∧ ((M = .map none ∧ L = #[]) ∨ ∃ b clk, M = .map (some b) ∧ w.heap[b]? = some (.map L clk)) := by
          split at hes
          · injection hes with hes; subst hes
            simp [den] at hM; subst hM
            exact ⟨#[], rfl, .inl ⟨rfl, rfl⟩⟩
          · split at hes
            · rename_i i es' clk hi
              injection hes with hes; subst hes
              obtain ⟨b, s, hE, rfl⟩ := den_map hM
              obtain ⟨b', s', x, h1, h2, ents, rfl, h3⟩ := hr.obj _ _ hi
              rw [hE] at h1
              injection h1 with h1
              injection h1 with e1 e2
              subst e1
              exact ⟨ents, h3, .inr ⟨b, clk, rfl, h2⟩⟩
            · cases hes
          · cases hes
        obtain ⟨L, hL, hload⟩ := hent
        split at hq
        · cases hq
        · rename_i n u hf
          obtain ⟨U, h1, h2, _⟩ := findA_ok hk hK es L.toList 0 _ hL hf
          have hfk := findKey_ok hk h2 w
          have hck := checkKey_ok hk hK L.isEmpty w
          cases ok with
          | true =>
            injection hq with hq; subst hq
            refine ⟨.tuple #[U, .bool true], ?_, by simp [den, denL, h1]⟩
            rcases hload with ⟨rfl, rfl⟩ | ⟨b, clk, rfl, hb⟩
            · simp at hck hfk; simp [Instr.lookup, run_underlying hu, hck, hfk]
            · simp [Instr.lookup, run_underlying hu, getObj, Sem.run, hb, hck, hfk]
          | false =>
            injection hq with hq; subst hq
            refine ⟨U, ?_, h1⟩
            rcases hload with ⟨rfl, rfl⟩ | ⟨b, clk, rfl, hb⟩
            · simp at hck hfk; simp [Instr.lookup, run_underlying hu, hck, hfk]
            · simp [Instr.lookup, run_underlying hu, getObj, Sem.run, hb, hck, hfk]
        · rename_i hf
          have h2 := findA_ok hk hK es L.toList 0 _ hL hf
          have hfk := findKey_ok hk h2 w
          have hck := checkKey_ok hk hK L.isEmpty w
          split at hq
          · cases hq
          · rename_i z hz
            obtain ⟨Z, hz1, hz2⟩ := zeroOf_den hT hz w
            cases ok with
            | true =>
              injection hq with hq; subst hq
              refine ⟨.tuple #[Z, .bool false], ?_, by simp [den, denL, hz2]⟩
              rcases hload with ⟨rfl, rfl⟩ | ⟨b, clk, rfl, hb⟩
              · simp at hck hfk; simp [Instr.lookup, run_underlying hu, hck, hfk, hz1]
              · simp [Instr.lookup, run_underlying hu, getObj, Sem.run, hb, hck, hfk, hz1]
            | false =>
              injection hq with hq; subst hq
              refine ⟨Z, ?_, hz2 E⟩
              rcases hload with ⟨rfl, rfl⟩ | ⟨b, clk, rfl, hb⟩
              · simp at hck hfk; simp [Instr.lookup, run_underlying hu, hck, hfk, hz1]
              · simp [Instr.lookup, run_underlying hu, getObj, Sem.run, hb, hck, hfk, hz1]
  · cases hq

end
end Go.Ae
