/- How a store of the abstract evaluator reads a world, how a world may go on from another one, and what a load, a store and a new block do to that. No condition beside the hypotheses that each lemma names. -/
import Derived.Test.YtboklojgbhkhfaaGreatAeOps
import Derived.Laws.Cells
import Derived.Laws.CopyRow
namespace Go.Ae

def entDen (E : Env) : List (AV × AV × Nat) → Option (List MapEntry)
  | [] => some []
  | (k, v, b) :: l => match den E k, den E v, entDen E l with
    | some k, some v, some r => some ({ key := k, val := v, born := b } :: r)
    | _, _, _ => none

def AO.rel (E : Env) (s : Nat) (x : Obj) : AO → Prop
  | .cells cs op => ∃ c e fr vs rest, x = .cells c e fr ∧ c.size = s ∧ (∀ i, i < s → ¬ (fr.1 ≤ i ∧ i < fr.2)) ∧ denL E cs = some vs ∧
      c.toList = vs ++ rest ∧ (op = false → rest = [])
  | .map es clk => ∃ ents, x = .map ents clk ∧ entDen E es = some ents.toList
  | .iter l pos => x = .stringIter ⟨l.toArray⟩ pos
  | .miter m since seen st => (m = none ∧ x = .mapIter none since seen.toArray st) ∨
      ∃ i b s, m = some i ∧ E i = some (b, s) ∧ x = .mapIter (some b) since seen.toArray st

theorem entDen_mono {E E' : Env} (h : E.le E') : ∀ (l : List (AV × AV × Nat)) (L : List MapEntry), entDen E l = some L → entDen E' l = some L
  | [], L, hl => by simpa [entDen] using hl
  | (k, v, b) :: l, L, hl => by
    simp only [entDen] at hl ⊢
    cases hk : den E k with
    | none => simp [hk] at hl
    | some K =>
      cases hv : den E v with
      | none => simp [hk, hv] at hl
      | some V =>
        cases hr : entDen E l with
        | none => simp [hk, hv, hr] at hl
        | some R =>
          simp only [hk, hv, hr] at hl
          rw [den_mono h k K hk, den_mono h v V hv, entDen_mono h l R hr]; exact hl

theorem AO.rel_mono {E E' : Env} (h : E.le E') {s : Nat} {x : Obj} : ∀ {o : AO}, o.rel E s x → o.rel E' s x
  | .cells cs op, ⟨c, e, fr, vs, rest, h1, h2, h3, h4, h5, h6⟩ => ⟨c, e, fr, vs, rest, h1, h2, h3, denL_mono h _ _ h4, h5, h6⟩
  | .map es clk, ⟨ents, h1, h2⟩ => ⟨ents, h1, entDen_mono h _ _ h2⟩
  | .iter l pos, hr => hr
  | .miter m since seen st, hr => by
    rcases hr with hr | ⟨i, b, s, h1, h2, h3⟩
    · exact .inl hr
    · exact .inr ⟨i, b, s, h1, h _ _ h2, h3⟩

/-- The store reads the world. -/
structure Rel (E : Env) (h : Tr AO) (w : World) : Prop where
  obj : ∀ i o, h.get i = some o → ∃ b s x, E i = some (b, s) ∧ w.heap[b]? = some x ∧ o.rel E s x
  inj : ∀ i j o p b s s', h.get i = some o → h.get j = some p → E i = some (b, s) → E j = some (b, s') → i = j

/-- Block b is one that the store names. -/
def Owns (E : Env) (h : Tr AO) (b : Nat) : Prop := ∃ i o s, h.get i = some o ∧ E i = some (b, s)

/-- A world, and its reading, that go on from another one. -/
structure Ext (E : Env) (h : Tr AO) (w : World) (E' : Env) (h' : Tr AO) (w' : World) : Prop where
  le : E.le E'
  rel : Rel E' h' w'
  own : ∀ b, Owns E' h' b → b ≥ w.heap.size ∨ Owns E h b
  size : w.heap.size ≤ w'.heap.size
  frame : ∀ b, b < w.heap.size → ¬ Owns E h b → w'.heap[b]? = w.heap[b]?
  os : w'.os = w.os
  output : w'.output = w.output
  tape : w'.tape = w.tape

theorem Env.le_refl (E : Env) : E.le E := fun _ _ h => h
theorem Env.le_trans {E F G : Env} (h : E.le F) (h' : F.le G) : E.le G := fun i p hi => h' i p (h i p hi)

theorem Ext.refl {E : Env} {h : Tr AO} {w : World} (hr : Rel E h w) : Ext E h w E h w :=
  ⟨Env.le_refl E, hr, fun _ h => .inr h, Nat.le_refl _, fun _ _ _ => rfl, rfl, rfl, rfl⟩

theorem Ext.trans {E E1 E2 : Env} {h h1 h2 : Tr AO} {w w1 w2 : World} (a : Ext E h w E1 h1 w1) (b : Ext E1 h1 w1 E2 h2 w2) : Ext E h w E2 h2 w2 := by
  refine ⟨Env.le_trans a.le b.le, b.rel, ?_, Nat.le_trans a.size b.size, ?_, b.os.trans a.os, b.output.trans a.output, b.tape.trans a.tape⟩
  · intro x hx
    rcases b.own x hx with hx | hx
    · exact .inl (Nat.le_trans a.size hx)
    · exact a.own x hx
  · intro x hx hn
    rw [b.frame x (Nat.lt_of_lt_of_le hx a.size) ?_, a.frame x hx hn]
    intro ho
    rcases a.own x ho with ho | ho
    · omega
    · exact hn ho

theorem Rel.drew {E : Env} {h : Tr AO} {w : World} (hr : Rel E h w) : Rel E h w.drew := ⟨hr.obj, hr.inj⟩
theorem Ext.drew {E : Env} {h : Tr AO} {w : World} (hr : Rel E h w) : Ext E h w E h w.drew :=
  ⟨Env.le_refl E, hr.drew, fun _ h => .inr h, Nat.le_refl _, fun _ _ _ => rfl, rfl, rfl, rfl⟩

theorem Rel.lt {E : Env} {h : Tr AO} {w : World} (hr : Rel E h w) {i : Nat} {o : AO} (ho : h.get i = some o) {b s : Nat} (he : E i = some (b, s)) : b < w.heap.size := by
  obtain ⟨b', s', x, h1, h2, _⟩ := hr.obj i o ho
  rw [he] at h1
  injection h1 with h1
  injection h1 with h1 h1'
  subst h1
  exact (Array.getElem?_eq_some_iff.1 h2).1

/-- A name laid. -/
def Env.put (E : Env) (r : Nat) (p : Nat × Nat) : Env := fun i => if i = r then some p else E i
theorem Env.put_self (E : Env) (r : Nat) (p : Nat × Nat) : E.put r p r = some p := by simp [Env.put]
theorem Env.put_ne (E : Env) {r i : Nat} (p : Nat × Nat) (h : i ≠ r) : E.put r p i = E i := by simp [Env.put, h]
theorem Env.le_put {E : Env} {r : Nat} {p : Nat × Nat} (h : E r = none) : E.le (E.put r p) := by
  intro i q hi
  by_cases hir : i = r
  · subst hir; rw [h] at hi; cases hi
  · rw [Env.put_ne E p hir]; exact hi

theorem alloc_last (w : World) (x : Obj) : (w.alloc x).heap[w.heap.size]? = some x := by
  show (w.heap.push x)[w.heap.size]? = some x
  simp

/-- A new block under a new name. -/
theorem Ext.alloc {E : Env} {h h' : Tr AO} {w : World} (hr : Rel E h w) {r : Nat} (hfree : E r = none) {o : AO} {x : Obj} {s : Nat}
    (hget : ∀ j, h'.get j = if j = r then some o else h.get j) (ho : o.rel (E.put r (w.heap.size, s)) s x) :
    Ext E h w (E.put r (w.heap.size, s)) h' (w.alloc x) := by
  have hle := Env.le_put (p := (w.heap.size, s)) hfree
  have hnot : ∀ i o, h.get i = some o → i ≠ r := fun i o hi e => by
    subst e
    obtain ⟨b, s, x, h1, _⟩ := hr.obj i o hi
    rw [hfree] at h1; cases h1
  have hold : ∀ b, b < w.heap.size → (w.alloc x).heap[b]? = w.heap[b]? := fun b hb => by
    simp only [World.alloc]; rw [Array.getElem?_push]; rw [if_neg (by omega)]
  refine ⟨hle, ⟨?_, ?_⟩, ?_, by simp, fun b hb _ => hold b hb, rfl, rfl, rfl⟩
  · intro i p hi
    rw [hget] at hi
    by_cases hir : i = r
    · subst hir
      simp only [if_true] at hi
      injection hi with hi
      subst hi
      exact ⟨w.heap.size, s, x, Env.put_self _ _ _, alloc_last w x, ho⟩
    · rw [if_neg hir] at hi
      obtain ⟨b, t, y, h1, h2, h3⟩ := hr.obj i p hi
      exact ⟨b, t, y, hle _ _ h1, by rw [hold b (Array.getElem?_eq_some_iff.1 h2).1]; exact h2, AO.rel_mono hle h3⟩
  · intro i j p q b t t' hi hj hEi hEj
    rw [hget] at hi hj
    by_cases hir : i = r
    · by_cases hjr : j = r
      · rw [hir, hjr]
      · rw [if_neg hjr] at hj
        rw [hir, Env.put_self] at hEi
        rw [Env.put_ne _ _ hjr] at hEj
        injection hEi with hEi
        injection hEi with hEi _
        have := hr.lt hj hEj
        omega
    · rw [if_neg hir] at hi
      rw [Env.put_ne _ _ hir] at hEi
      by_cases hjr : j = r
      · rw [hjr, Env.put_self] at hEj
        injection hEj with hEj
        injection hEj with hEj _
        have := hr.lt hi hEi
        omega
      · rw [if_neg hjr] at hj
        rw [Env.put_ne _ _ hjr] at hEj
        exact hr.inj i j p q b t t' hi hj hEi hEj
  · rintro b ⟨i, p, t, hi, hEi⟩
    rw [hget] at hi
    by_cases hir : i = r
    · rw [hir, Env.put_self] at hEi
      injection hEi with hEi
      injection hEi with hEi _
      exact .inl (by omega)
    · rw [if_neg hir] at hi
      rw [Env.put_ne _ _ hir] at hEi
      exact .inr ⟨i, p, t, hi, hEi⟩

/-- A world with one block in the place of another. -/
def putO (w : World) (b : Nat) (x : Obj) : World := { w with heap := w.heap.setIfInBounds b x }

theorem putO_get (w : World) (b : Nat) (x : Obj) (c : Nat) : (putO w b x).heap[c]? = if c = b ∧ b < w.heap.size then some x else w.heap[c]? := by
  simp only [putO]
  rw [Array.getElem?_setIfInBounds]
  by_cases h : b = c
  · subst h
    by_cases h' : b < w.heap.size
    · simp [h']
    · simp [h']
  · simp [h, Ne.symm h]

theorem putO_self (w : World) (b : Nat) (x : Obj) (h : w.heap[b]? = some x) : putO w b x = w := by
  simp only [putO]
  have hb := (Array.getElem?_eq_some_iff.1 h)
  obtain ⟨hlt, he⟩ := hb
  have : w.heap.setIfInBounds b x = w.heap := by
    apply Array.ext
    · simp
    · intro i h1 h2
      rw [Array.getElem_setIfInBounds]
      split
      · rename_i e; subst e; exact he.symm
      · rfl
  rw [this]

theorem putO_putO (w : World) (b : Nat) (x y : Obj) : putO (putO w b x) b y = putO w b y := by
  simp [putO]

/-- A block of the store written anew. -/
theorem Ext.write {E : Env} {h h' : Tr AO} {w : World} (hr : Rel E h w) {i : Nat} {p o : AO} {b s : Nat} (hi : h.get i = some p) (hE : E i = some (b, s)) {x : Obj}
    (hget : ∀ j, h'.get j = if j = i then some o else h.get j) (ho : o.rel E s x) : Ext E h w E h' (putO w b x) := by
  have hb := hr.lt hi hE
  have hother : ∀ j q c t, h.get j = some q → j ≠ i → E j = some (c, t) → c ≠ b := fun j q c t hj hne hEj e => by
    subst e; exact hne (hr.inj j i q p c t s hj hi hEj hE)
  refine ⟨Env.le_refl E, ⟨?_, ?_⟩, ?_, by simp [putO], ?_, rfl, rfl, rfl⟩
  · intro j q hj
    rw [hget] at hj
    by_cases hji : j = i
    · subst hji
      simp only [if_true] at hj
      injection hj with hj
      subst hj
      exact ⟨b, s, x, hE, by rw [putO_get]; simp [hb], ho⟩
    · rw [if_neg hji] at hj
      obtain ⟨c, t, y, h1, h2, h3⟩ := hr.obj j q hj
      refine ⟨c, t, y, h1, ?_, h3⟩
      rw [putO_get, if_neg (fun e => hother j q c t hj hji h1 e.1)]
      exact h2
  · intro j k q q' c t t' hj hk hEj hEk
    have fix : ∀ j q, h'.get j = some q → ∃ q, h.get j = some q := fun j q hj => by
      rw [hget] at hj
      by_cases hji : j = i
      · subst hji; exact ⟨p, hi⟩
      · rw [if_neg hji] at hj; exact ⟨q, hj⟩
    obtain ⟨q1, h1⟩ := fix j q hj
    obtain ⟨q2, h2⟩ := fix k q' hk
    exact hr.inj j k q1 q2 c t t' h1 h2 hEj hEk
  · rintro c ⟨j, q, t, hj, hEj⟩
    rw [hget] at hj
    by_cases hji : j = i
    · subst hji; exact .inr ⟨j, p, t, hi, hEj⟩
    · rw [if_neg hji] at hj; exact .inr ⟨j, q, t, hj, hEj⟩
  · intro c hc hn
    rw [putO_get]
    by_cases hcb : c = b
    · subst hcb; exact absurd ⟨i, p, s, hi, hE⟩ hn
    · rw [if_neg (fun e => hcb e.1)]

/-- A block that goes over to a new name. -/
theorem Ext.rename {E : Env} {h h' : Tr AO} {w : World} (hr : Rel E h w) {i r : Nat} {p o : AO} {b s : Nat} (hi : h.get i = some p) (hE : E i = some (b, s)) (hfree : E r = none) {x : Obj}
    (hget : ∀ j, h'.get j = if j = r then some o else if j = i then none else h.get j) (ho : o.rel (E.put r (b, s)) s x) : Ext E h w (E.put r (b, s)) h' (putO w b x) := by
  have hb := hr.lt hi hE
  have hle := Env.le_put (p := (b, s)) hfree
  have hother : ∀ j q c t, h.get j = some q → j ≠ i → E j = some (c, t) → c ≠ b := fun j q c t hj hne hEj e => by
    subst e; exact hne (hr.inj j i q p c t s hj hi hEj hE)
  refine ⟨hle, ⟨?_, ?_⟩, ?_, by simp [putO], ?_, rfl, rfl, rfl⟩
  · intro j q hj
    rw [hget] at hj
    by_cases hjr : j = r
    · subst hjr
      simp only [if_true] at hj
      injection hj with hj
      subst hj
      exact ⟨b, s, x, Env.put_self _ _ _, by rw [putO_get]; simp [hb], ho⟩
    · rw [if_neg hjr] at hj
      by_cases hji : j = i
      · rw [if_pos hji] at hj; cases hj
      · rw [if_neg hji] at hj
        obtain ⟨c, t, y, h1, h2, h3⟩ := hr.obj j q hj
        refine ⟨c, t, y, hle _ _ h1, ?_, AO.rel_mono hle h3⟩
        rw [putO_get, if_neg (fun e => hother j q c t hj hji h1 e.1)]
        exact h2
  · intro j k q q' c t t' hj hk hEj hEk
    rw [hget] at hj hk
    by_cases hjr : j = r
    · by_cases hkr : k = r
      · rw [hjr, hkr]
      · rw [if_neg hkr] at hk
        by_cases hki : k = i
        · rw [if_pos hki] at hk; cases hk
        · rw [if_neg hki] at hk
          rw [hjr, Env.put_self] at hEj
          rw [Env.put_ne _ _ hkr] at hEk
          injection hEj with hEj
          injection hEj with hEj _
          exact absurd hEj.symm (hother k q' c t' hk hki hEk)
    · rw [if_neg hjr] at hj
      by_cases hji : j = i
      · rw [if_pos hji] at hj; cases hj
      · rw [if_neg hji] at hj
        rw [Env.put_ne _ _ hjr] at hEj
        by_cases hkr : k = r
        · rw [hkr, Env.put_self] at hEk
          injection hEk with hEk
          injection hEk with hEk _
          exact absurd hEk.symm (hother j q c t hj hji hEj)
        · rw [if_neg hkr] at hk
          by_cases hki : k = i
          · rw [if_pos hki] at hk; cases hk
          · rw [if_neg hki] at hk
            rw [Env.put_ne _ _ hkr] at hEk
            exact hr.inj j k q q' c t t' hj hk hEj hEk
  · rintro c ⟨j, q, t, hj, hEj⟩
    rw [hget] at hj
    by_cases hjr : j = r
    · rw [hjr, Env.put_self] at hEj
      injection hEj with hEj
      injection hEj with hEj _
      subst hEj
      exact .inr ⟨i, p, s, hi, hE⟩
    · rw [if_neg hjr] at hj
      by_cases hji : j = i
      · rw [if_pos hji] at hj; cases hj
      · rw [if_neg hji] at hj
        rw [Env.put_ne _ _ hjr] at hEj
        exact .inr ⟨j, q, t, hj, hEj⟩
  · intro c hc hn
    rw [putO_get]
    by_cases hcb : c = b
    · subst hcb; exact absurd ⟨i, p, s, hi, hE⟩ hn
    · rw [if_neg (fun e => hcb e.1)]

/-- A name let go, and a new block under a new one. -/
theorem Ext.replace {E : Env} {h h' : Tr AO} {w : World} (hr : Rel E h w) {i r : Nat} (hfree : E r = none) {o : AO} {x : Obj} {s : Nat}
    (hget : ∀ j, h'.get j = if j = r then some o else if j = i then none else h.get j) (ho : o.rel (E.put r (w.heap.size, s)) s x) :
    Ext E h w (E.put r (w.heap.size, s)) h' (w.alloc x) := by
  have hle := Env.le_put (p := (w.heap.size, s)) hfree
  have hold : ∀ b, b < w.heap.size → (w.alloc x).heap[b]? = w.heap[b]? := fun b hb => by
    simp only [World.alloc]; rw [Array.getElem?_push]; rw [if_neg (by omega)]
  have hsub : ∀ j q, j ≠ r → h'.get j = some q → h.get j = some q := fun j q hjr hj => by
    rw [hget, if_neg hjr] at hj
    by_cases hji : j = i
    · rw [if_pos hji] at hj; cases hj
    · rw [if_neg hji] at hj; exact hj
  refine ⟨hle, ⟨?_, ?_⟩, ?_, by simp, fun b hb _ => hold b hb, rfl, rfl, rfl⟩
  · intro j q hj
    by_cases hjr : j = r
    · subst hjr
      rw [hget] at hj
      simp only [if_true] at hj
      injection hj with hj
      subst hj
      exact ⟨w.heap.size, s, x, Env.put_self _ _ _, alloc_last w x, ho⟩
    · obtain ⟨b, t, y, h1, h2, h3⟩ := hr.obj j q (hsub j q hjr hj)
      exact ⟨b, t, y, hle _ _ h1, by rw [hold b (Array.getElem?_eq_some_iff.1 h2).1]; exact h2, AO.rel_mono hle h3⟩
  · intro j k q q' b t t' hj hk hEj hEk
    by_cases hjr : j = r
    · by_cases hkr : k = r
      · rw [hjr, hkr]
      · have hk' := hsub k q' hkr hk
        rw [hjr, Env.put_self] at hEj
        rw [Env.put_ne _ _ hkr] at hEk
        injection hEj with hEj
        injection hEj with hEj _
        have := hr.lt hk' hEk
        omega
    · have hj' := hsub j q hjr hj
      rw [Env.put_ne _ _ hjr] at hEj
      by_cases hkr : k = r
      · rw [hkr, Env.put_self] at hEk
        injection hEk with hEk
        injection hEk with hEk _
        have := hr.lt hj' hEj
        omega
      · have hk' := hsub k q' hkr hk
        rw [Env.put_ne _ _ hkr] at hEk
        exact hr.inj j k q q' b t t' hj' hk' hEj hEk
  · rintro b ⟨j, q, t, hj, hEj⟩
    by_cases hjr : j = r
    · rw [hjr, Env.put_self] at hEj
      injection hEj with hEj
      injection hEj with hEj _
      exact .inl (by omega)
    · have hj' := hsub j q hjr hj
      rw [Env.put_ne _ _ hjr] at hEj
      exact .inr ⟨j, q, t, hj', hEj⟩

/-! ### cells -/

theorem addr_add (b o n : Nat) : Addr.add ⟨b, o, none⟩ n = ⟨b, o + n, none⟩ := by
  unfold Addr.add; split <;> simp_all

theorem cell_of {w : World} {b : Nat} {c : Array Value} {e : TypeId} {fr : Nat × Nat} (h : w.heap[b]? = some (.cells c e fr)) (o : Nat) : w.cell? ⟨b, o, none⟩ = c[o]? := by
  simp [World.cell?, h]
theorem frozen_of {w : World} {b : Nat} {c : Array Value} {e : TypeId} {fr : Nat × Nat} (h : w.heap[b]? = some (.cells c e fr)) (o : Nat) :
    w.frozen? ⟨b, o, none⟩ = decide (fr.1 ≤ o ∧ o < fr.2) := by
  obtain ⟨lo, hi⟩ := fr
  simp [World.frozen?, h, Bool.decide_and]
theorem setCell_of {w : World} {b : Nat} {c : Array Value} {e : TypeId} {fr : Nat × Nat} (h : w.heap[b]? = some (.cells c e fr)) (o : Nat) (v : Value) :
    w.setCell ⟨b, o, none⟩ v = putO w b (.cells (c.setIfInBounds o v) e fr) := by
  have hlt := (Array.getElem?_eq_some_iff.1 h)
  obtain ⟨hb, hx⟩ := hlt
  simp only [World.setCell, putO]
  have : w.heap.modify b (fun x => match x with
      | .cells c elem frozen => .cells (if (Option.isSome (none : Option Nat)) = true then c else c.setIfInBounds o v) elem frozen
      | o => o) = w.heap.setIfInBounds b (.cells (c.setIfInBounds o v) e fr) := by
    apply Array.ext
    · simp
    · intro i h1 h2
      rw [Array.getElem_modify, Array.getElem_setIfInBounds]
      · by_cases hi : b = i
        · subst hi; simp [hx]
        · simp [hi]
      · simpa using h1
  rw [← this]
  rfl

/-- Cells laid over a row from a place on. -/
def overV (c : List Value) (o : Nat) (vs : List Value) : List Value := c.take o ++ vs ++ c.drop (o + vs.length)

theorem run_storeCells_row {P : Program} {b : Nat} {e : TypeId} {fr : Nat × Nat} (o : Nat) : ∀ (vs : List Value) (i : Nat) (c : Array Value) (w : World), w.heap[b]? = some (.cells c e fr) →
    o + i + vs.length ≤ c.size → (∀ j, j < c.size → ¬ (fr.1 ≤ j ∧ j < fr.2)) → (∀ v ∈ vs, v.oneCell' = true) →
    (storeCells ⟨b, o, none⟩ vs i).run P w = .ok () (putO w b (.cells (overV c.toList (o + i) vs).toArray e fr))
  | [], i, c, w, hb, _, _, _ => by
    simp only [storeCells, overV, List.append_nil, List.length_nil, Nat.add_zero, List.take_append_drop, Array.toArray_toList]
    rw [putO_self w b _ hb]
    rfl
  | v :: rest, i, c, w, hb, hl, hf, h1 => by
    have hi : o + i < c.size := by simp at hl; omega
    have hst : (store ((⟨b, o, none⟩ : Addr).add i) v).run P w = .ok () (putO w b (.cells (c.setIfInBounds (o + i) v) e fr)) := by
      rw [addr_add, run_store P w _ v _ (h1 v (by simp)), cell_of hb, frozen_of hb, setCell_of hb]
      have hn := hf (o + i) hi
      simp only [hn, decide_false, Array.getElem?_eq_getElem hi]
      rfl
    have hb' : (putO w b (.cells (c.setIfInBounds (o + i) v) e fr)).heap[b]? = some (.cells (c.setIfInBounds (o + i) v) e fr) := by
      rw [putO_get, if_pos ⟨rfl, (Array.getElem?_eq_some_iff.1 hb).1⟩]
    have ih := run_storeCells_row (P := P) o rest (i + 1) (c.setIfInBounds (o + i) v) (putO w b (.cells (c.setIfInBounds (o + i) v) e fr)) hb' (by simp at hl ⊢; omega) (by simpa using hf) (fun x hx => h1 x (by simp [hx]))
    simp only [storeCells, Sem.run_bind, hst, Result.andThen_ok, ih, putO_putO]
    congr 4
    have q := list_seg_step c.toList (o + i) v rest (by simp at hl ⊢; omega)
    simpa [overV, Array.toList_setIfInBounds, Nat.add_assoc] using q

theorem run_loadCells_row {P : Program} {w : World} {b : Nat} {c : Array Value} {e : TypeId} {fr : Nat × Nat} (hb : w.heap[b]? = some (.cells c e fr)) (o : Nat) (vs : List Value)
    (h : ∀ j v, vs[j]? = some v → c[o + j]? = some v) : (loadCells ⟨b, o, none⟩ vs.length).run P w = .ok vs.toArray w :=
  run_loadCells_list w _ vs fun j v hv => by rw [addr_add, cell_of hb]; exact h j v hv

/-! ### the evaluator's lists -/

theorem getN_eq : ∀ (l : List AV) (n : Nat), getN l n = l[n]?
  | [], _ => by simp [getN]
  | _ :: _, 0 => by simp [getN]
  | a :: l, n + 1 => by simp [getN, getN_eq l n]

theorem seg_spec : ∀ (l : List AV) (k n : Nat) (r : List AV), seg l k n = some r → r.length = n ∧ k + n ≤ l.length ∧ r = (l.drop k).take n
  | l, 0, 0, r, h => by simp [seg] at h; subst h; simp
  | [], 0, n + 1, r, h => by simp [seg] at h
  | a :: l, 0, n + 1, r, h => by
    simp only [seg] at h
    cases hs : seg l 0 n with
    | none => simp [hs] at h
    | some q =>
      simp [hs] at h
      subst h
      obtain ⟨h1, h2, h3⟩ := seg_spec l 0 n q hs
      simp at h2 h3
      simp [h1, h2, ← h3]
  | [], k + 1, n, r, h => by simp [seg] at h
  | a :: l, k + 1, n, r, h => by
    simp only [seg] at h
    obtain ⟨h1, h2, h3⟩ := seg_spec l k n r h
    refine ⟨h1, by simp; omega, by simpa using h3⟩

theorem over_spec : ∀ (l : List AV) (k : Nat) (vs r : List AV), over l k vs = some r → k + vs.length ≤ l.length ∧ r = l.take k ++ vs ++ l.drop (k + vs.length)
  | l, 0, [], r, h => by cases l <;> simp [over] at h <;> subst h <;> simp
  | [], 0, v :: vs, r, h => by simp [over] at h
  | a :: l, 0, v :: vs, r, h => by
    simp only [over] at h
    cases hs : over l 0 vs with
    | none => simp [hs] at h
    | some q =>
      simp [hs] at h
      subst h
      obtain ⟨h1, h2⟩ := over_spec l 0 vs q hs
      simp at h1 h2
      refine ⟨by simp; omega, by simp [h2]⟩
  | [], k + 1, vs, r, h => by simp [over] at h
  | a :: l, k + 1, vs, r, h => by
    simp only [over] at h
    cases hs : over l k vs with
    | none => simp [hs] at h
    | some q =>
      simp [hs] at h
      subst h
      obtain ⟨h1, h2⟩ := over_spec l k vs q hs
      refine ⟨by simp; omega, ?_⟩
      rw [h2]
      simp [show k + 1 + vs.length = (k + vs.length) + 1 by omega]

theorem denL_seg {E : Env} {l : List AV} {L : List Value} (h : denL E l = some L) {k n : Nat} {r : List AV} (hs : seg l k n = some r) :
    ∃ R, denL E r = some R ∧ R.length = n ∧ R = (L.drop k).take n ∧ k + n ≤ L.length := by
  obtain ⟨h1, h2, h3⟩ := seg_spec l k n r hs
  have := denL_take (denL_drop h k) n
  rw [← h3] at this
  exact ⟨_, this, by rw [denL_length this, h1], rfl, by rw [denL_length h]; exact h2⟩

theorem denL_over {E : Env} {l : List AV} {L : List Value} (h : denL E l = some L) {k : Nat} {vs r : List AV} {VS : List Value} (hv : denL E vs = some VS) (hs : over l k vs = some r) :
    denL E r = some (overV L k VS) ∧ k + VS.length ≤ L.length := by
  obtain ⟨h1, h2⟩ := over_spec l k vs r hs
  rw [h2]
  refine ⟨?_, by rw [denL_length h, denL_length hv]; exact h1⟩
  unfold overV
  rw [denL_length hv]
  exact denL_append (denL_append (denL_take h k) hv) (denL_drop h _)

theorem one_den {E : Env} : ∀ {v : AV} {V : Value}, one v = true → den E v = some V → V.oneCell' = true
  | .bool b, V, _, h => by simp [den] at h; subst h; rfl
  | .int k n, V, _, h => by simp [den] at h; subst h; rfl
  | .str l, V, _, h => by simp [den] at h; subst h; rfl
  | .ptrN, V, _, h => by simp [den] at h; subst h; rfl
  | .ptr i off, V, _, h => by simp only [den] at h; split at h <;> simp at h; subst h; rfl
  | .slcN, V, _, h => by simp [den] at h; subst h; rfl
  | .slc i off base len esz, V, _, h => by
    simp only [den] at h
    split at h
    · split at h
      · simp at h; subst h; rfl
      · cases h
    · cases h
  | .mapN, V, _, h => by simp [den] at h; subst h; rfl
  | .map i, V, _, h => by simp only [den] at h; split at h <;> simp at h; subst h; rfl
  | .fnN, V, _, h => by simp [den] at h; subst h; rfl
  | .ifN, V, _, h => by simp [den] at h; subst h; rfl
  | .ifc t v, V, _, h => by simp only [den] at h; split at h <;> simp at h; subst h; rfl
  | .fn f a b, V, _, h => by simp only [den] at h; split at h <;> simp at h; subst h; rfl
  | .agg l, V, h1, _ => by simp [one] at h1
  | .tup l, V, h1, _ => by simp [one] at h1

theorem allOne_den {E : Env} : ∀ {l : List AV} {L : List Value}, allOne l = true → denL E l = some L → ∀ v ∈ L, v.oneCell' = true
  | [], L, _, h => by simp [denL] at h; subst h; simp
  | a :: l, L, h1, h => by
    obtain ⟨V, M, rfl, hV, hM⟩ := denL_cons h
    simp only [allOne] at h1
    split at h1
    · rename_i h2
      intro v hv
      rcases List.mem_cons.1 hv with rfl | hv
      · exact one_den h2 hV
      · exact allOne_den h1 hM v hv
    · cases h1

theorem cellsOf_den {E : Env} {v : AV} {V : Value} (h : den E v = some V) : denL E (cellsOf v) = some V.cells.toList := by
  cases v
  case agg l =>
    simp only [den] at h
    split at h <;> simp at h
    rename_i a ha
    subst h
    simpa [cellsOf, Value.cells] using ha
  all_goals
    have hc : V.cells = #[V] := by
      simp only [den] at h
      (repeat' split at h) <;> first | (simp at h; subst h; rfl) | cases h
    rw [hc]
    simpa [cellsOf] using denL_mk h rfl

/-! ### reading an object -/

theorem Rel.cells {E : Env} {h : Tr AO} {w : World} (hr : Rel E h w) {i : Nat} {cs : List AV} {op : Bool} (hi : h.get i = some (.cells cs op)) :
    ∃ b s c e fr vs rest, E i = some (b, s) ∧ w.heap[b]? = some (.cells c e fr) ∧ c.size = s ∧ (∀ i, i < s → ¬ (fr.1 ≤ i ∧ i < fr.2)) ∧ denL E cs = some vs ∧
      c.toList = vs ++ rest ∧ (op = false → rest = []) := by
  obtain ⟨b, s, x, h1, h2, c, e, fr, vs, rest, rfl, h4, h5, h6, h7, h8⟩ := hr.obj i _ hi
  exact ⟨b, s, c, e, fr, vs, rest, h1, h2, h4, h5, h6, h7, h8⟩

end Go.Ae
