/- The run of the abstract evaluator does what the model does: a region that draws its order. Conditions: the table of types is the program's (TIok); the callees do what they are said to (CfOk); the program is read under mixed orders. -/
import Derived.Test.YtboklojgbhkhfaaGreatAeRunB
namespace Go.Ae

/-- A store with some names alone. -/
def Tr.filt {α : Type} : Tr α → (Nat → Bool) → Tr α
  | .lf, _ => .lf
  | .nd l x r, p => .nd (filt l fun k => p (2 * k + 1)) (if p 0 then x else none) (filt r fun k => p (2 * k + 2))

theorem Tr.get_filt {α : Type} : ∀ (t : Tr α) (p : Nat → Bool) (j : Nat), (t.filt p).get j = if p j then t.get j else none
  | .lf, p, j => by simp [Tr.filt, Tr.get_lf]
  | .nd l x r, p, j => by
    rw [Tr.filt, Tr.get_nd, Tr.get_nd]
    by_cases h0 : j = 0
    · simp [h0]
    · by_cases h1 : j % 2 = 1
      · rw [if_neg h0, if_neg h0, if_pos h1, if_pos h1, Tr.get_filt l]
        rw [show 2 * (j / 2) + 1 = j by omega]
      · rw [if_neg h0, if_neg h0, if_neg h1, if_neg h1, Tr.get_filt r]
        rw [show 2 * (j / 2 - 1) + 2 = j by omega]

theorem AO.rel_back {E0 E : Env} (hle : E0.le E) {s : Nat} {x y : Obj} : ∀ {o : AO}, o.rel E0 s x → o.rel E s y → o.rel E0 s y
  | .cells cs op, ⟨_, _, _, vs, _, _, _, _, hd, _, _⟩, ⟨c, e, fr, us, rest, h1, h2, h3, h4, h5, h6⟩ => by
    have := denL_mono hle _ _ hd
    rw [h4] at this
    have := some_inj this
    exact ⟨c, e, fr, us, rest, h1, h2, h3, by rw [hd, this], h5, h6⟩
  | .map es clk, ⟨ents, _, hd⟩, ⟨ents', h1, h2⟩ => by
    have := entDen_mono hle _ _ hd
    rw [h2] at this
    have := some_inj this
    exact ⟨ents', h1, by rw [hd, this]⟩
  | .iter l pos, _, h => h
  | .miter m since seen st, h, h' => by
    rcases h' with h' | ⟨i, b, t, h1, h2, h3⟩
    · exact .inl h'
    · rcases h with ⟨h, _⟩ | ⟨j, c, u, h4, h5, h6⟩
      · rw [h1] at h; cases h
      · rw [h1] at h4
        cases some_inj h4
        have := hle _ _ h5
        rw [h2] at this
        have := some_inj this
        injection this with e1 e2
        subst e1
        exact .inr ⟨i, b, u, h1, h5, h3⟩

theorem Rel.back {E0 E : Env} {g h : Tr AO} {w0 w : World} (h0 : Rel E0 g w0) (hr : Rel E h w) (hle : E0.le E) (hs : ∀ i o, g.get i = some o → h.get i = some o) : Rel E0 g w := by
  refine ⟨fun i o hi => ?_, h0.inj⟩
  obtain ⟨b, s, x, h1, h2, h3⟩ := h0.obj i o hi
  obtain ⟨b', s', y, h4, h5, h6⟩ := hr.obj i o (hs i o hi)
  have := hle _ _ h1
  rw [h4] at this
  have := some_inj this
  injection this with e1 e2
  subst e1 e2
  exact ⟨_, _, y, h1, h5, AO.rel_back hle h3 h6⟩

theorem Rel.sub {E : Env} {g h : Tr AO} {w : World} (hr : Rel E h w) (hs : ∀ i o, g.get i = some o → h.get i = some o) : Rel E g w :=
  ⟨fun i o hi => hr.obj i o (hs i o hi), fun i j o p b s s' hi hj => hr.inj i j o p b s s' (hs i o hi) (hs j p hj)⟩

theorem Rel.up {E0 E : Env} {g : Tr AO} {w : World} (hr : Rel E0 g w) (hle : E0.le E) : Rel E g w := by
  have fix : ∀ i o, g.get i = some o → E i = E0 i := fun i o hi => by
    obtain ⟨b, s, x, h1, _⟩ := hr.obj i o hi
    rw [hle _ _ h1, h1]
  refine ⟨fun i o hi => ?_, fun i j o p b s s' hi hj h1 h2 => ?_⟩
  · obtain ⟨b, s, x, h1, h2, h3⟩ := hr.obj i o hi
    exact ⟨b, s, x, hle _ _ h1, h2, AO.rel_mono hle h3⟩
  · rw [fix i o hi] at h1
    rw [fix j p hj] at h2
    exact hr.inj i j o p b s s' hi hj h1 h2

/-- The stores that agree at these names. -/
def Keep (E0 : Env) (h0 : Tr AO) (ids : List Nat) (w : World) : Prop := Rel E0 (h0.filt fun i => decide (i ∈ ids)) w

theorem filt_get {h0 : Tr AO} {ids : List Nat} {i : Nat} {o : AO} (h : (h0.filt fun i => decide (i ∈ ids)).get i = some o) : i ∈ ids ∧ h0.get i = some o := by
  rw [Tr.get_filt] at h
  split at h
  · rename_i hi; exact ⟨by simpa using hi, h⟩
  · cases h

theorem Keep.next {E0 E : Env} {h0 h : Tr AO} {ids : List Nat} {w0 w : World} (hk : Keep E0 h0 ids w0) (hr : Rel E h w) (hle : E0.le E) (hs : ∀ i ∈ ids, h.get i = h0.get i) : Keep E0 h0 ids w :=
  Rel.back hk hr hle fun i o hi => by
    obtain ⟨h1, h2⟩ := filt_get hi
    rw [hs i h1]; exact h2

section
variable {P : Program} {T : TT} {cf : CF}

theorem getD_set_false {L : Array Bool} {i j : Nat} (h : (L.setIfInBounds i true).getD j true = false) : L.getD j true = false ∧ j ≠ i := by
  by_cases hij : i = j
  · subst hij
    exfalso
    simp only [Array.getD_eq_getD_getElem?, Array.getElem?_setIfInBounds, if_true] at h
    split at h
    · simp at h
    · simp at h
  · rw [getD_set_ne true hij] at h
    exact ⟨h, fun e => hij e.symm⟩

theorem ready_lt {md : Region.Mode} {ops : Array Oper} {L : Array Bool} {i : Nat} (h : i ∈ Region.ready md ops L) : L.getD i true = false ∧ ∃ o, ops[i]? = some o := by
  obtain ⟨h1, o, h2, _⟩ := mem_ready.1 h
  exact ⟨h1, o, h2⟩

/-- Whatever order is picked from here on; behind each operation that is carried out what 'S' asks for those that have come up. -/
def wpAnyG (P : Program) (ops : Array Oper) (Q : Exit → Act → World → Prop) (S : Array Bool → World → Prop) : Nat → Array Bool → Act → World → Prop
  | 0, L, a, w => Region.ready .any ops L = [] ∧ Q .normal a w
  | f + 1, L, a, w => (Region.ready .any ops L = [] → Q .normal a w) ∧
    ∀ i ∈ Region.ready .any ops L, wpOp P ops Q i (fun a' w' => S (L.setIfInBounds i true) w' ∧ wpAnyG P ops Q S f (L.setIfInBounds i true) a' w') a w

section
variable {ops : Array Oper} {Q : Exit → Act → World → Prop} {S : Array Bool → World → Prop}
theorem wpAnyG_wpAny : ∀ (f : Nat) (L : Array Bool) (a : Act) (w : World), wpAnyG P ops Q S f L a w → wpAny P .any ops Q f L a w
  | 0, _, _, _, h => h
  | f + 1, _, _, _, h => ⟨h.1, fun i hi => wpOp_mono (fun a' w' h' => wpAnyG_wpAny f _ a' w' h'.2) (h.2 i hi)⟩

theorem wpAnyG_done {L : Array Bool} {a : Act} {w : World} (hr : Region.ready .any ops L = []) (h : Q .normal a w) : ∀ f, wpAnyG P ops Q S f L a w
  | 0 => ⟨hr, h⟩
  | _ + 1 => ⟨fun _ => h, by rw [hr]; simp⟩

theorem wpAnyG_all {rs : List Nat} {f : Nat} {L : Array Bool} {a : Act} {w : World} (hr : Region.ready .any ops L = rs) (hne : rs ≠ [])
    (h : ∀ i ∈ rs, wpOp P ops Q i (fun a' w' => S (L.setIfInBounds i true) w' ∧ wpAnyG P ops Q S f (L.setIfInBounds i true) a' w') a w) : wpAnyG P ops Q S (f + 1) L a w :=
  ⟨fun h0 => absurd (hr ▸ h0) hne, hr ▸ h⟩

/-- An operation that may come up now may be taken first, if it yields its value in every world that meets 'K', and 'S' brings 'K' as long as none of 'c' has come up, each of which waits for it. -/
theorem wpAnyG_first {K : World → Prop} {i : Nat} {oi : Oper} {v : Value} {c : List Nat} (hi : ops[i]? = some oi) (hsel : ∀ (j : Nat) (o : Oper) cs b, ops[j]? = some o → o.op ≠ .select cs b)
    (hQ : ∀ c a w, Q (.panic c) (a.put oi.dst v) w → Q (.panic c) a w)
    (hc : ∀ j ∈ c, ∃ oj, ops[j]? = some oj ∧ ∃ e ∈ oj.after, Region.binds .any e = true ∧ e.on ∈ i :: c)
    (hK : ∀ M w, S M w → (∀ j ∈ c, M.getD j true = false) → K w) (hmono : ∀ M w, S (M.setIfInBounds i true) w → S M w) :
    ∀ (f : Nat) (L : Array Bool) (a : Act) (w : World),
      (∀ j oj, ops[j]? = some oj → j ≠ i → L.getD j true = false → (∀ e ∈ oj.after, Region.binds .any e = true → e.on ≠ i) → oi.apart ops oj = true) →
      i ∈ Region.ready .any ops L → YieldsIf P ops K oi v a → S L w → (∀ j ∈ c, L.getD j true = false) →
      wpAnyG P ops Q S f (L.setIfInBounds i true) (a.put oi.dst v) w → S (L.setIfInBounds i true) w → wpAnyG P ops Q S (f + 1) L a w := by
  intro f
  induction f with
  | zero =>
    intro L a w _ hr hy hS hcl H hS2
    refine ⟨fun h => (by rw [h] at hr; cases hr), fun j hj => ?_⟩
    by_cases hji : j = i
    · subst hji; exact hy.wpOp hi (hK _ _ hS hcl) ⟨hS2, H⟩
    · have := ready_mono hj hji
      rw [H.1] at this
      cases this
  | succ f ih =>
    intro L a w hfree hr hy hS hcl H hS2
    refine ⟨fun h => (by rw [h] at hr; cases hr), fun j hj => ?_⟩
    by_cases hji : j = i
    · subst hji; exact hy.wpOp hi (hK _ _ hS hcl) ⟨hS2, H⟩
    · have h1 := H.2 j (ready_mono hj hji)
      obtain ⟨hjun, oj, hoj, hall⟩ := mem_ready.1 hj
      have clash : ∀ {k : Nat}, L.getD k false = true → L.getD k true = false → False := fun {k} h1 h0 => by
        simp only [Array.getD_eq_getD_getElem?] at h0 h1
        cases hg : L[k]? with
        | none => rw [hg] at h1; cases h1
        | some b => rw [hg] at h0 h1; simp only [Option.getD_some] at h0 h1; rw [h0] at h1; cases h1
      have hnot : ∀ e ∈ oj.after, Region.binds .any e = true → e.on ≠ i := fun e he hb heq => by
        have h1 := hall e he hb
        rw [heq] at h1
        exact clash h1 (mem_ready.1 hr).1
      have h2 := wpOp_putIf hoj (hfree j oj hoj hji hjun hnot) (fun cs b => hsel i oi cs b hi) (fun cs b => hsel j oj cs b hoj) hQ hy h1
      have back : ∀ {k}, (L.setIfInBounds j true).getD k true = false → L.getD k true = false := fun h => (getD_set_false h).1
      have hfree' : ∀ k ok, ops[k]? = some ok → k ≠ i → (L.setIfInBounds j true).getD k true = false →
          (∀ e ∈ ok.after, Region.binds .any e = true → e.on ≠ i) → oi.apart ops ok = true := fun k ok hk hki hun hno => hfree k ok hk hki (back hun) hno
      have hcl' : ∀ k ∈ c, (L.setIfInBounds j true).getD k true = false := fun k hk => by
        have hjk : j ≠ k := fun e => by
          obtain ⟨ok, h1, e1, h2, h3, h4⟩ := hc k hk
          rw [← e, hoj] at h1
          cases some_inj h1
          rcases List.mem_cons.1 h4 with h4 | h4
          · exact hnot e1 h2 h3 h4
          · exact clash (hall e1 h2 h3) (hcl _ h4)
        rw [getD_set_ne true hjk]
        exact hcl k hk
      refine wpOp_mono (fun a' w' h3 => ?_) h2
      obtain ⟨h3, h4, h5⟩ := h3
      rw [Array.setIfInBounds_comm _ _ (Ne.symm hji)] at h4 h5
      have h6 := hmono _ _ h4
      exact ⟨h6, ih (L.setIfInBounds j true) a' w' hfree' (ready_mono hr (Ne.symm hji)) h3 h6 hcl' h5 h4⟩
end

/-- What a region asks of the world while these have come up. -/
def SK (E0 : Env) (h0 : Tr AO) (all : List (Nat × List Nat)) (FS : List Nat) (L : Array Bool) (w : World) : Prop :=
  ∀ q ∈ all, (∀ j ∈ q.2, hasN j FS = false → L.getD j true = false) → Keep E0 h0 [q.1] w

/-- What is asked of the state in which a plan goes on. -/
structure PSt (E0 : Env) (h0 : Tr AO) (ids : List (Nat × List Nat)) (FS on : List Nat) (ops : Array Oper) (r n : Nat) (L : Array Bool) (E : Env) (h : Tr AO) (t : List AV) (a : Act) (w : World) : Prop where
  le : E0.le E
  rel : Rel E h w
  vals : Vals E t a
  fresh : Fresh E n
  room : r + ops.size ≤ n
  free : ∀ i, i < ops.size → L.getD i true = false → E (r + i) = none
  keep : SK E0 h0 ids FS L w
  on : ∀ j ∈ on, L.getD j true = true ∧ hasN j FS = false

theorem getD_set_self {L : Array Bool} {i : Nat} : (L.setIfInBounds i true).getD i true = true := by
  cases h : (L.setIfInBounds i true).getD i true with
  | true => rfl
  | false => exact absurd rfl (getD_set_false h).2

theorem SK.set {E0 : Env} {h0 : Tr AO} {all : List (Nat × List Nat)} {FS : List Nat} {L : Array Bool} {w : World} {i : Nat} (h : SK E0 h0 all FS L w) : SK E0 h0 all FS (L.setIfInBounds i true) w :=
  fun q hq hj => h q hq fun j h1 h2 => (getD_set_false (hj j h1 h2)).1

theorem SK.unset {E0 : Env} {h0 : Tr AO} {all : List (Nat × List Nat)} {FS : List Nat} {L : Array Bool} {w : World} {i : Nat} (hi : hasN i FS = true) (h : SK E0 h0 all FS (L.setIfInBounds i true) w) : SK E0 h0 all FS L w :=
  fun q hq hj => h q hq fun j h1 h2 => by
    have hij : i ≠ j := fun e => by rw [← e, hi] at h2; cases h2
    rw [getD_set_ne true hij]
    exact hj j h1 h2

theorem Keep.all {E0 : Env} {h0 : Tr AO} (h0i : ∀ i j o p b s s', h0.get i = some o → h0.get j = some p → E0 i = some (b, s) → E0 j = some (b, s') → i = j) {ids : List Nat} {w : World}
    (h : ∀ i ∈ ids, Keep E0 h0 [i] w) : Keep E0 h0 ids w := by
  refine ⟨fun i o hi => ?_, fun i j o p b s s' hi hj => h0i i j o p b s s' (filt_get hi).2 (filt_get hj).2⟩
  obtain ⟨h1, h2⟩ := filt_get hi
  refine (h i h1).obj i o ?_
  rw [Tr.get_filt, if_pos (by simp)]
  exact h2

theorem xplan_ok (hT : ∀ t ti, T t = some ti → TIok P T t ti) (hcf : CfOk P cf) {ops : Array Oper} (hsel : Region.noSelect ops = true) {Q : Exit → Act → World → Prop} (hQp : ∀ c a w, ¬ Q (.panic c) a w)
    {E0 : Env} {h0 : Tr AO} (h0i : ∀ i j o p b s s', h0.get i = some o → h0.get j = some p → E0 i = some (b, s) → E0 j = some (b, s') → i = j)
    {all : List (Nat × List Nat)} {FS : List Nat} {r : Nat} : ∀ (p : Plan) (on : List Nat) (f : Nat) (L : Array Bool) (t : List AV) (h : Tr AO) (n : Nat) (E : Env) (a : Act) (w : World) (s : St) (ids : List (Nat × List Nat)) (hs : List (List Nat × Tr AO)),
    xplan T cf ops.toList r h0 p on t h n = some (s, ids, hs) → PSt E0 h0 all FS on ops r n L E h t a w →
    (∀ i ∈ ids, i ∈ all) → (∀ g ∈ hs, ∀ q ∈ all, (∃ j ∈ q.2, j ∈ g.1) ∨ g.2.get q.1 = h0.get q.1) →
    (∀ E' a' w', Ext E h w E' s.h w' → Vals E' s.t a' → a'.defers = a.defers → (∀ j, j < r → E' j = E j) → Fresh E' s.n → n ≤ s.n → Q .normal a' w') →
    (planOk ops FS p false f L = true → wpAnyG P ops Q (SK E0 h0 all FS) f L a w) ∧
    (planOk ops FS p true (f + 1) L = true → ∀ i ∈ alts p, L.getD i true = false → wpOp P ops Q i (fun a' w' => SK E0 h0 all FS (L.setIfInBounds i true) w' ∧ wpAnyG P ops Q (SK E0 h0 all FS) f (L.setIfInBounds i true) a' w') a w) := by
  intro p
  have stepCase : ∀ (i : Nat) (p : Plan) (_ : ∀ (on : List Nat) (f : Nat) (L : Array Bool) (t : List AV) (h : Tr AO) (n : Nat) (E : Env) (a : Act) (w : World) (s : St) (ids : List (Nat × List Nat)) (hs : List (List Nat × Tr AO)),
      xplan T cf ops.toList r h0 p on t h n = some (s, ids, hs) → PSt E0 h0 all FS on ops r n L E h t a w →
      (∀ i ∈ ids, i ∈ all) → (∀ g ∈ hs, ∀ q ∈ all, (∃ j ∈ q.2, j ∈ g.1) ∨ g.2.get q.1 = h0.get q.1) →
      (∀ E' a' w', Ext E h w E' s.h w' → Vals E' s.t a' → a'.defers = a.defers → (∀ j, j < r → E' j = E j) → Fresh E' s.n → n ≤ s.n → Q .normal a' w') →
      planOk ops FS p false f L = true → wpAnyG P ops Q (SK E0 h0 all FS) f L a w)
      (on : List Nat) (f : Nat) (L : Array Bool) (t : List AV) (h : Tr AO) (n : Nat) (E : Env) (a : Act) (w : World) (s : St) (ids : List (Nat × List Nat)) (hs : List (List Nat × Tr AO)) (o : Oper), ops[i]? = some o → hasN i FS = false →
      (step T cf ops.toList o (Nat.add r i) t h n fun t h n => match xplan T cf ops.toList r h0 p (i :: on) t h n with
        | some (s, ids, hs) => some (s, ids, (i :: on, h) :: hs)
        | none => none) = some (s, ids, hs) →
      planOk ops FS p false f (L.setIfInBounds i true) = true → L.getD i true = false → PSt E0 h0 all FS on ops r n L E h t a w →
      (∀ i ∈ ids, i ∈ all) → (∀ g ∈ hs, ∀ q ∈ all, (∃ j ∈ q.2, j ∈ g.1) ∨ g.2.get q.1 = h0.get q.1) →
      (∀ E' a' w', Ext E h w E' s.h w' → Vals E' s.t a' → a'.defers = a.defers → (∀ j, j < r → E' j = E j) → Fresh E' s.n → n ≤ s.n → Q .normal a' w') →
      wpOp P ops Q i (fun a' w' => SK E0 h0 all FS (L.setIfInBounds i true) w' ∧ wpAnyG P ops Q (SK E0 h0 all FS) f (L.setIfInBounds i true) a' w') a w := by
    intro i p ih on f L t h n E a w s ids hs o hi hiF hst hpl hLi hps hids hhs hQ
    have hlt : i < ops.size := (Array.getElem?_eq_some_iff.1 hi).1
    have hr := hps.room
    have hrn : Nat.add r i = r + i := rfl
    rw [hrn] at hst
    have := step_ok (Q := Q) (next := fun a' w' => SK E0 h0 all FS (L.setIfInBounds i true) w' ∧ wpAnyG P ops Q (SK E0 h0 all FS) f (L.setIfInBounds i true) a' w') hT hcf hst hps.rel hps.vals (hps.free i hlt hLi) hps.fresh (by omega) ?_
    · unfold wpOp
      simp only [hi]
      by_cases hw : Region.wanted o (yielded ops a.tmps) = true
      · rw [if_pos hw] at this ⊢; exact .inl this
      · rw [if_neg hw] at this ⊢; exact this
    · intro t' h' n' E' a' w' hk hext hv' hd hfix hfr' hle
      split at hk
      · rename_i s1 ids1 hs1 hx
        have hk := some_inj hk
        injection hk with e1 hk
        injection hk with e2 e3
        subst e1 e2 e3
        have hon : ∀ j ∈ i :: on, (L.setIfInBounds i true).getD j true = true ∧ hasN j FS = false := fun j hj => by
          rcases List.mem_cons.1 hj with rfl | hj
          · exact ⟨getD_set_self, hiF⟩
          · refine ⟨?_, (hps.on j hj).2⟩
            cases hg : (L.setIfInBounds i true).getD j true with
            | true => rfl
            | false => exact absurd (hps.on j hj).1 (by rw [(getD_set_false hg).1]; simp)
        have hkeep : SK E0 h0 all FS (L.setIfInBounds i true) w' := fun q hq hj => by
          refine (hps.keep q hq fun j h1 h2 => (getD_set_false (hj j h1 h2)).1).next hext.rel (Env.le_trans hps.le hext.le) fun k hk => ?_
          simp only [List.mem_singleton] at hk
          subst hk
          rcases hhs (i :: on, h') (by simp) q hq with ⟨j, h1, h2⟩ | h1
          · have := hj j h1 (hon j h2).2
            rw [(hon j h2).1] at this
            cases this
          · exact h1
        refine ⟨hkeep, ih (i :: on) f _ t' h' n' E' a' w' _ _ _ hx ⟨Env.le_trans hps.le hext.le, hext.rel, hv', hfr', by omega, fun j hj hLj => ?_, hkeep, hon⟩ hids (fun g hg => hhs g (by simp [hg])) ?_ hpl⟩
        · obtain ⟨h1, h2⟩ := getD_set_false hLj
          rw [hfix (r + j) (by omega) (by omega)]
          exact hps.free j hj h1
        · intro E2 a2 w2 hext2 hv2 hd2 hfix2 hfr2 hle2
          exact hQ E2 a2 w2 (hext.trans hext2) hv2 (hd2.trans hd) (fun j hj => by rw [hfix2 j hj, hfix j (by omega) (by omega)]) hfr2 (by omega)
      · cases hk
  induction p with
  | done =>
    intro on f L t h n E a w s ids hs hq hps hids hhs hQ
    simp only [xplan] at hq
    have hq := some_inj hq
    injection hq with e1 hq
    injection hq with e2 e3
    subst e1 e2 e3
    refine ⟨fun hpl => ?_, fun _ i hi => by cases hi⟩
    simp only [planOk] at hpl
    exact wpAnyG_done (by simpa using hpl) (hQ E a w (Ext.refl hps.rel) hps.vals rfl (fun _ _ => rfl) hps.fresh (Nat.le_refl _)) f
  | first i c p ih =>
    intro on f L t h n E a w s ids hs hq hps hids hhs hQ
    refine ⟨fun hpl => ?_, fun _ i hi => by cases hi⟩
    cases f with
    | zero => simp [planOk] at hpl
    | succ f =>
      simp only [planOk, Bool.and_eq_true] at hpl
      obtain ⟨⟨⟨hfree, hready⟩, hiF, hcov⟩, hpl⟩ := hpl
      have hcov : ∀ j ∈ c, L.getD j true = false ∧ waits ops (i :: c) j = true := fun j hj => by
        have := List.all_eq_true.1 hcov j hj
        simpa using this
      simp only [xplan] at hq
      split at hq
      · cases hq
      · rename_i o ho
        rw [nthO_eq, Array.getElem?_toList] at ho
        have hlt : i < ops.size := (Array.getElem?_eq_some_iff.1 ho).1
        have hLi : L.getD i true = false := (ready_lt (by simpa using hready)).1
        have hw := want_ok (ops := ops) (o := o) hps.vals
        rw [hw] at hq
        have next : ∀ V v ids' K, den E v = some V → YieldsIf P ops K o V a → (∀ M w, SK E0 h0 all FS M w → (∀ j ∈ c, M.getD j true = false) → K w) →
            xplan T cf ops.toList r h0 p on (match o.dst with | none => t | some d => t.set d v) h n = some (s, ids', hs) → (∀ i ∈ ids', i ∈ all) →
            wpAnyG P ops Q (SK E0 h0 all FS) (f + 1) L a w := by
          intro V v ids' K hV hy hK hx hids'
          have pd : ∀ d V, (a.put d V).defers = a.defers := fun d V => by cases d <;> rfl
          refine wpAnyG_first ho (Region.noSelect_spec hsel) (fun c a w hp => absurd hp (hQp _ _ _)) (fun j hj => ?_) hK (fun M w hM => hM.unset hiF) f L a w (Region.free_spec ho hfree) (by simpa using hready) hy hps.keep (fun j hj => (hcov j hj).1) ?_ hps.keep.set
          · have := (hcov j hj).2
            unfold waits at this
            split at this
            · cases this
            · rename_i oj hoj
              obtain ⟨k, hk, h2⟩ := Array.any_eq_true.1 this
              simp only [Bool.and_eq_true] at h2
              exact ⟨oj, hoj, _, Array.getElem_mem hk, h2.1, hasN_eq h2.2⟩
          refine (ih on f _ _ h n E (a.put o.dst V) w s ids' hs hx ⟨hps.le, hps.rel, hps.vals.put o.dst hV, hps.fresh, hps.room, fun j hj hLj => hps.free j hj (getD_set_false hLj).1, hps.keep.set, fun j hj => ⟨?_, (hps.on j hj).2⟩⟩ hids' hhs ?_).1 hpl
          · cases hg : (L.setIfInBounds i true).getD j true with
            | true => rfl
            | false => exact absurd (hps.on j hj).1 (by rw [(getD_set_false hg).1]; simp)
          intro E2 a2 w2 hext2 hv2 hd2 hfix2 hfr2 hle2
          exact hQ E2 a2 w2 hext2 hv2 (hd2.trans (pd _ _)) hfix2 hfr2 hle2
        by_cases hwt : Region.wanted o (yielded ops a.tmps) = true
        · simp only [hwt] at hq
          split at hq
          · cases hq
          · rename_i hqt
            split at hq
            · rename_i v h1 hx
              rw [putK_eq] at hq
              split at hq
              · rename_i s1 ids1 hs1 hx2
                have hq := some_inj hq
                injection hq with e1 hq
                injection hq with e2 e3
                subst e1 e2 e3
                obtain ⟨_, hsub⟩ := xop_sub hqt hx
                have hx' := hsub (h0.filt fun i => decide (i ∈ readsOf t o.op)) (fun k hk => by
                  rw [Tr.get_filt, if_pos (by simpa using hk)])
                have hrn : Nat.add r i = r + i := rfl
                rw [hrn] at hx'
                have hyw : ∀ w', Keep E0 h0 (readsOf t o.op) w' → ∃ V, (execOp a.eval o).run P w' = .ok (.value V) w' ∧ den E v = some V := by
                  intro w' hk
                  obtain ⟨V, w2, E2, nx, hrun, _, _, _, hden, hqq⟩ := xop_ok hT (Rel.up hk hps.le) (hps.free i hlt hLi) hps.vals rfl hx'
                  obtain ⟨e1, e2, e3⟩ := hqq hqt
                  subst e1 e2 e3
                  exact ⟨V, hrun, hden⟩
                have hKK : ∀ M w, SK E0 h0 all FS M w → (∀ j ∈ c, M.getD j true = false) → Keep E0 h0 (readsOf t o.op) w := fun M w hM hcM =>
                  Keep.all h0i fun k hk => hM (k, c) (hids _ (List.mem_append_left _ (mem_covs hk))) fun j hj _ => hcM j hj
                obtain ⟨V, _, hV⟩ := hyw w (hKK L w hps.keep fun j hj => (hcov j hj).1)
                refine next V v ids1 _ hV (.inl ⟨hwt, fun w' hk => ?_⟩) hKK hx2 (fun k hk => hids k (by simp [hk]))
                obtain ⟨V', h1, h2⟩ := hyw w' hk
                rw [hV] at h2
                cases some_inj h2
                exact h1
              · cases hq
            · cases hq
        · have hwf : Region.wanted o (yielded ops a.tmps) = false := by simpa using hwt
          simp only [hwf] at hq
          rw [putK_eq] at hq
          exact next undef (.tup []) ids (fun _ => True) undef_den (.inr ⟨hwf, rfl⟩) (fun _ _ _ _ => trivial) hq hids
  | only i p ih =>
    intro on f L t h n E a w s ids hs hq hps hids hhs hQ
    simp only [xplan] at hq
    split at hq
    · cases hq
    · rename_i o ho
      rw [nthO_eq, Array.getElem?_toList] at ho
      have ih' := fun on f L t h n E a w s ids hs h1 h2 h3 h4 h5 h6 => (ih on f L t h n E a w s ids hs h1 h2 h3 h4 h5).1 h6
      refine ⟨fun hpl => ?_, fun hpl k hk hLk => ?_⟩
      · cases f with
        | zero => simp [planOk] at hpl
        | succ f =>
          simp only [planOk, Bool.false_or, Bool.and_eq_true, Bool.not_eq_true'] at hpl
          obtain ⟨⟨hready, hiF⟩, hpl⟩ := hpl
          have hready := natsBeq_eq hready
          refine wpAnyG_all hready (by simp) fun k hk => ?_
          have hLk := (ready_lt (md := .any) (ops := ops) (L := L) (i := k) (by rw [hready]; exact hk)).1
          simp only [List.mem_singleton] at hk
          subst hk
          exact stepCase k p ih' on f L t h n E a w s ids hs o ho hiF hq hpl hLk hps hids hhs hQ
      · simp only [planOk, Bool.true_or, Bool.true_and, Bool.and_eq_true, Bool.not_eq_true'] at hpl
        obtain ⟨hiF, hpl⟩ := hpl
        simp only [alts, List.mem_singleton] at hk
        subst hk
        exact stepCase k p ih' on f L t h n E a w s ids hs o ho hiF hq hpl hLk hps hids hhs hQ
  | alt i p q ihp ihq =>
    intro on f L t h n E a w s ids hs hq hps hids hhs hQ
    simp only [xplan] at hq
    split at hq
    · cases hq
    · rename_i o ho
      rw [nthO_eq, Array.getElem?_toList] at ho
      split at hq
      · cases hq
      · rename_i s1 a1 b1 hx1
        split at hq
        · cases hq
        · rename_i s2 a2 b2 hx2
          split at hq
          · rename_i hb
            have hq := some_inj hq
            injection hq with e1 hq
            injection hq with e2 e3
            subst e1 e2 e3
            cases stBeq_eq hb
            have ih' := fun on f L t h n E a w s ids hs h1 h2 h3 h4 h5 h6 => (ihp on f L t h n E a w s ids hs h1 h2 h3 h4 h5).1 h6
            have chain : ∀ f, hasN i FS = false → planOk ops FS p false f (L.setIfInBounds i true) = true → planOk ops FS q true (f + 1) L = true → ∀ k ∈ i :: alts q, L.getD k true = false →
                wpOp P ops Q k (fun a' w' => SK E0 h0 all FS (L.setIfInBounds k true) w' ∧ wpAnyG P ops Q (SK E0 h0 all FS) f (L.setIfInBounds k true) a' w') a w := by
              intro f hiF hpl1 hpl2 k hk hLk
              rcases List.mem_cons.1 hk with rfl | hk
              · exact stepCase k p ih' on f L t h n E a w _ _ _ o ho hiF hx1 hpl1 hLk hps (fun x hx => hids x (by simp [hx])) (fun g hg => hhs g (by simp [hg])) hQ
              · exact (ihq on f L t h n E a w _ _ _ hx2 hps (fun x hx => hids x (by simp [hx])) (fun g hg => hhs g (by simp [hg])) hQ).2 hpl2 k hk hLk
            refine ⟨fun hpl => ?_, fun hpl k hk hLk => ?_⟩
            · cases f with
              | zero => simp [planOk] at hpl
              | succ f =>
                simp only [planOk, Bool.false_or, Bool.and_eq_true, Bool.not_eq_true'] at hpl
                obtain ⟨⟨hready, hiF⟩, hpl1, hpl2⟩ := hpl
                have hready := natsBeq_eq hready
                refine wpAnyG_all hready (by simp) fun k hk => ?_
                have hLk := (ready_lt (md := .any) (ops := ops) (L := L) (i := k) (by rw [hready]; exact hk)).1
                exact chain f hiF hpl1 hpl2 k hk hLk
            · simp only [planOk, Bool.true_or, Bool.true_and, Bool.and_eq_true, Bool.not_eq_true'] at hpl
              exact chain f hpl.1 hpl.2.1 hpl.2.2 k hk hLk
          · cases hq

/-- A region. -/
theorem region_ok (hmix : P.follows .mixedOrders = true) (hT : ∀ t ti, T t = some ti → TIok P T t ti) (hcf : CfOk P cf) {plans : List (Nat × Plan)} {id : Nat} {ops : Array Oper} {draw : Bool} {s s' : St}
    (hq : region T cf plans id ops.toList draw s = some s') (hc : chk plans (.region id ops draw) = true) {E : Env} {a : Act} {w : World} (hr : Rel E s.h w) (hv : Vals E s.t a) (hf : Fresh E s.n) :
    (Code.region id ops draw).wp P (fun e a' w' => e = .normal ∧ ∃ E', Post E s.h s.n w s' a.defers E' a' w') a w := by
  unfold region at hq
  cases draw with
  | false =>
    simp only at hq
    rw [forceN_eq] at hq
    refine wp_region_list (steps_ok (Q := _) hT hcf ops.toList s.n _ s.t s.h E a w hq hr hv (fun j hj _ => hf j hj) (fun j hj => hf j (by have : s.n.add ops.toList.length = s.n + ops.toList.length := rfl; omega)) (Nat.le_refl _) ?_)
    intro E' a' w' h1 h2 h3 h4 h5 h6
    exact ⟨rfl, E', h1, h2, h3, h4, h5, Nat.le_trans (Nat.le_add_right _ _) h6⟩
  | true =>
    simp only at hq
    split at hq
    · cases hq
    · rename_i p hp
      rw [forceN_eq] at hq
      simp only [chk, hp, Bool.and_eq_true] at hc
      split at hq
      · rename_i r ids hs hx
        split at hq
        · rename_i hst
          cases some_inj hq
          have hsz : s.n.add ops.toList.length = s.n + ops.size := by simp only [Array.length_toList]; rfl
          rw [hsz] at hx
          have hkeep : ∀ q ∈ ids, Keep E s.h [q.1] w.drew := fun q _ => Rel.sub hr.drew fun i o hi => (filt_get hi).2
          have hgo : wpAnyG P ops (fun e a' w' => e = .normal ∧ ∃ E', Post E s.h s.n w s' a.defers E' a' w') (SK E s.h ids (firsts p)) ops.size (Array.replicate ops.size false) a w.drew := by
            refine (xplan_ok (Q := _) hT hcf hc.1 (fun c a w hp => by cases hp.1) hr.inj p [] ops.size _ s.t s.h (s.n + ops.size) E a w.drew s' ids hs hx ⟨Env.le_refl E, hr.drew, hv, fun j hj => hf j (by omega), Nat.le_refl _, fun i _ _ => hf _ (by omega), fun q hq _ => hkeep q hq, fun j hj => by cases hj⟩ (fun _ h => h) (stable_eq hst) ?_).1 hc.2
            intro E' a' w' h1 h2 h3 h4 h5 h6
            exact ⟨rfl, E', (Ext.drew hr).trans h1, h2, h3, h4, h5, by omega⟩
          exact wp_region_any hmix (wpAnyG_wpAny _ _ _ _ hgo)
        · cases hq
      · cases hq

end
end Go.Ae
