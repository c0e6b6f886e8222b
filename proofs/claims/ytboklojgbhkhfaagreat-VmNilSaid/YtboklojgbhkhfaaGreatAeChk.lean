/- A table of types that the kernel has checked is the program's: the conditions of TIok out of one Bool. -/
import Derived.Test.YtboklojgbhkhfaaGreatAeSnd1
namespace Go.Ae

namespace Tr
variable {α : Type}
def allB (p : Nat → α → Bool) : Tr α → Bool
  | .lf => true
  | .nd l x r => (match x with | none => true | some v => p 0 v) && (allB (fun k v => p (Nat.add (Nat.mul 2 k) 1) v) l && allB (fun k v => p (Nat.add (Nat.mul 2 k) 2) v) r)
theorem allB_get : ∀ {t : Tr α} {p : Nat → α → Bool}, allB p t = true → ∀ j v, get t j = some v → p j v = true
  | .lf, p, _, j, v, h => by rw [get_lf] at h; cases h
  | .nd l x r, p, hp, j, v, h => by
    simp only [allB, Bool.and_eq_true] at hp
    rw [get_nd] at h
    by_cases h0 : j = 0
    · rw [if_pos h0] at h; subst h0; subst h; exact hp.1
    · rw [if_neg h0] at h
      by_cases h1 : j % 2 = 1
      · rw [if_pos h1] at h
        have := allB_get hp.2.1 _ _ h
        rwa [show Nat.add (Nat.mul 2 (j / 2)) 1 = j by show 2 * (j / 2) + 1 = j; omega] at this
      · rw [if_neg h1] at h
        have := allB_get hp.2.2 _ _ h
        rwa [show Nat.add (Nat.mul 2 (j / 2 - 1)) 2 = j by show 2 * (j / 2 - 1) + 2 = j; omega] at this
def All (p : Nat → α → Prop) : Tr α → Prop
  | .lf => True
  | .nd l x r => (match x with | none => True | some v => p 0 v) ∧ All (fun k v => p (2 * k + 1) v) l ∧ All (fun k v => p (2 * k + 2) v) r
theorem All_get : ∀ {t : Tr α} {p : Nat → α → Prop}, All p t → ∀ j v, get t j = some v → p j v
  | .lf, p, _, j, v, h => by rw [get_lf] at h; cases h
  | .nd l x r, p, hp, j, v, h => by
    rw [get_nd] at h
    by_cases h0 : j = 0
    · rw [if_pos h0] at h; subst h0; subst h; exact hp.1
    · rw [if_neg h0] at h
      by_cases h1 : j % 2 = 1
      · rw [if_pos h1] at h
        have := All_get hp.2.1 _ _ h
        rwa [show 2 * (j / 2) + 1 = j by omega] at this
      · rw [if_neg h1] at h
        have := All_get hp.2.2 _ _ h
        rwa [show 2 * (j / 2 - 1) + 2 = j by omega] at this
end Tr

def fieldsBeq : List Field → List (Nat × Nat) → Bool
  | [], [] => true
  | f :: l, (o, t) :: m => (Nat.beq f.offset o && Nat.beq f.type t) && fieldsBeq l m
  | _, _ => false
theorem fieldsBeq_eq : ∀ {l : List Field} {m : List (Nat × Nat)}, fieldsBeq l m = true → l.map (fun f => (f.offset, f.type)) = m
  | [], m, h => by cases m <;> simp [fieldsBeq] at h; rfl
  | f :: l, m, h => by
    cases m with
    | nil => simp [fieldsBeq] at h
    | cons x m =>
      obtain ⟨o, t⟩ := x
      simp only [fieldsBeq, Bool.and_eq_true] at h
      simp [Nat.eq_of_beq_eq_true h.1.1, Nat.eq_of_beq_eq_true h.1.2, fieldsBeq_eq h.2]

def infoAll (P : Program) : List Field → Bool
  | [] => true
  | f :: l => (P.info? f.type).isSome && infoAll P l
theorem infoAll_ok {P : Program} : ∀ {l : List Field}, infoAll P l = true → ∀ f ∈ l, ∃ i, P.info? f.type = some i
  | [], _, f, hf => by cases hf
  | g :: l, h, f, hf => by
    simp only [infoAll, Bool.and_eq_true] at h
    rcases List.mem_cons.1 hf with rfl | hf
    · exact Option.isSome_iff_exists.1 h.1
    · exact infoAll_ok h.2 f hf

/-! ### structs that are compared cell by cell -/

def eqFs (g : TypeId → Option (List TK)) : List Field → Nat → Option (List TK)
  | [], _ => some []
  | f :: l, off => match (f.name == "_"), Nat.beq f.offset off, g f.type with
    | false, true, some ks => match eqFs g l (off + ks.length) with
      | some r => some (ks ++ r)
      | none => none
    | _, _, _ => none
def eqTy (P : Program) : Nat → TypeId → Option (List TK)
  | 0, _ => none
  | d + 1, t => match P.underlying t with
    | some .bool => some [.bool]
    | some (.int k) => some [.int k]
    | some .string => some [.str]
    | some (.struct fs) => match P.stoodInHeld t, eqFs (eqTy P d) fs.toList 0 with
      | false, some ks => match Nat.beq (P.cellsOf t) ks.length, (P.info? t).isSome with
        | true, true => some ks
        | _, _ => none
      | _, _ => none
    | _ => none

/-- A value of cells. -/
def valOf (P : Program) (t : TypeId) (X : List Value) : Value :=
  match P.underlying t with
  | some (.struct _) => .agg X.toArray
  | _ => X.headD undef

theorem some_inj' {α : Type} {a b : α} (h : some a = some b) : a = b := Option.some.inj h

theorem eqCells_length : ∀ {ks : List TK} {a c : List AV} {r : Bool}, eqCells ks a c = some r → a.length = ks.length ∧ c.length = ks.length
  | [], a, c, r, h => by
    cases a <;> cases c <;> simp [eqCells] at h
    exact ⟨rfl, rfl⟩
  | k :: ks, a, c, r, h => by
    cases k <;> cases a <;> try (simp [eqCells] at h; done)
    all_goals (cases c <;> try (simp [eqCells] at h; done))
    all_goals
      rename_i x l y m
      cases x <;> try (simp [eqCells] at h; done)
      all_goals (cases y <;> try (simp [eqCells] at h; done))
      all_goals
        simp only [eqCells] at h
        (try (split at h <;> first | (cases h; done) | skip))
        first
          | (split at h
             · cases h
             · rename_i r' hr'
               have := eqCells_length hr'
               simp [this])
          | (rename_i r' hr'
             have := eqCells_length hr'
             simp [this])

theorem eqCells_append : ∀ {ks js : List TK} {a c : List AV} {r : Bool}, eqCells (ks ++ js) a c = some r → ∃ r1 r2, eqCells ks (a.take ks.length) (c.take ks.length) = some r1 ∧
    eqCells js (a.drop ks.length) (c.drop ks.length) = some r2 ∧ r = (r1 && r2)
  | [], js, a, c, r, h => ⟨true, r, by simp [eqCells], by simpa using h, by simp⟩
  | k :: ks, js, a, c, r, h => by
    cases k <;> cases a <;> try (simp [eqCells] at h; done)
    all_goals (cases c <;> try (simp [eqCells] at h; done))
    all_goals
      rename_i x l y m
      cases x <;> try (simp [eqCells] at h; done)
      all_goals (cases y <;> try (simp [eqCells] at h; done))
    · simp only [List.cons_append, eqCells] at h
      split at h
      · cases h
      · rename_i r' hr'
        obtain ⟨r1, r2, h1, h2, h3⟩ := eqCells_append hr'
        simp only [List.length_cons, List.take_succ_cons, List.drop_succ_cons, eqCells, h1]
        split at h <;> (cases some_inj' h; exact ⟨_, r2, rfl, h2, by simp [h3]⟩)
    · simp only [List.cons_append, eqCells] at h
      split at h
      · cases h
      · rename_i hk
        split at h
        · cases h
        · rename_i r' hr'
          obtain ⟨r1, r2, h1, h2, h3⟩ := eqCells_append hr'
          simp only [List.length_cons, List.take_succ_cons, List.drop_succ_cons, eqCells, h1, hk]
          split at h <;> (cases some_inj' h; exact ⟨_, r2, rfl, h2, by simp [h3]⟩)
    · simp only [List.cons_append, eqCells] at h
      split at h
      · cases h
      · rename_i r' hr'
        obtain ⟨r1, r2, h1, h2, h3⟩ := eqCells_append hr'
        simp only [List.length_cons, List.take_succ_cons, List.drop_succ_cons, eqCells, h1]
        split at h <;> (cases some_inj' h; exact ⟨_, r2, rfl, h2, by simp [h3]⟩)

section
variable {P : Program} {E : Env} {w : World}

theorem cellsOf_info {t : TypeId} {i : TypeInfo} (h : P.info? t = some i) : P.cellsOf t = i.size := by simp [Program.cellsOf, h]

theorem eqTy_size : ∀ {d : Nat} {t : Nat} {n : List TK}, eqTy P d t = some n → (∃ fs, P.underlying t = some (.struct fs)) → P.cellsOf t = n.length ∧ ∃ i, P.info? t = some i
  | 0, t, n, h, _ => by simp [eqTy] at h
  | d + 1, t, n, h, ⟨fs, hu⟩ => by
    simp only [eqTy, hu] at h
    split at h
    · split at h
      · rename_i hb hi
        cases h
        exact ⟨Nat.eq_of_beq_eq_true hb, Option.isSome_iff_exists.1 hi⟩
      · cases h
    · cases h

theorem isAgg_struct {t : TypeId} {fs : Array Field} (hu : P.underlying t = some (.struct fs)) (w : World) : (isAgg t).run P w = .ok true w := by
  simp [isAgg, run_underlying hu]

/-- A part of a struct is what its cells say. -/
theorem part_ok {d t off : Nat} {n : List TK} (ht : eqTy P d t = some n) {A B C : List Value} (hA : A.length = off) (hB : B.length = n.length) : (part t (A ++ B ++ C).toArray off).run P w = .ok (valOf P t B) w := by
  cases d with
  | zero => simp [eqTy] at ht
  | succ d =>
    have leaf : ∀ td, P.underlying t = some td → (∀ fs, td ≠ .struct fs) → (∀ k e, td ≠ .array k e) → n.length = 1 → (part t (A ++ B ++ C).toArray off).run P w = .ok (valOf P t B) w := by
      intro td hu h1 h2 hn
      rw [hn] at hB
      match B, hB with
      | [b], _ =>
        have hv : valOf P t [b] = b := by
          unfold valOf
          rw [hu]
          cases td <;> first | (exact absurd rfl (h1 _)) | rfl
        have hg : (A ++ [b] ++ C).toArray[off]? = some b := by
          subst hA
          simp
        have ha : (isAgg t).run P w = .ok false w := by
          simp only [isAgg, Sem.run_bind, run_underlying hu, Result.andThen_ok]
          cases td <;> first | (exact absurd rfl (h1 _)) | (exact absurd rfl (h2 _ _)) | rfl
        rw [hv]
        simp only [part, Sem.run_bind, ha, Result.andThen_ok, Bool.false_eq_true, if_false, hg, Sem.run_pure]
    have ht' := ht
    simp only [eqTy] at ht
    split at ht
    · rename_i hu; exact leaf _ hu (fun _ h => by cases h) (fun _ _ h => by cases h) (by cases ht; rfl)
    · rename_i hu; exact leaf _ hu (fun _ h => by cases h) (fun _ _ h => by cases h) (by cases ht; rfl)
    · rename_i hu; exact leaf _ hu (fun _ h => by cases h) (fun _ _ h => by cases h) (by cases ht; rfl)
    · rename_i fs hu
      obtain ⟨hc, i, hi⟩ := eqTy_size ht' ⟨fs, hu⟩
      have hs : (sizeOf t).run P w = .ok n.length w := by
        rw [cellsOf_info hi] at hc
        simp [sizeOf, typeInfo, hi, hc]
      have hv : valOf P t B = .agg B.toArray := by unfold valOf; rw [hu]
      have he : (A ++ B ++ C).toArray.extract off (off + n.length) = B.toArray := by
        apply Array.ext'
        subst hA
        rw [← hB]
        simp
      rw [hv]
      simp only [part, Sem.run_bind, isAgg_struct hu, Result.andThen_ok, if_true, hs, Sem.run_pure, he]
    · cases ht

theorem eqFs_ok {d D : Nat} (ih : ∀ {t : Nat} {ks : List TK}, eqTy P d t = some ks → ∀ (E : Env) (w : World) (xs ys : List AV) (X Y : List Value) (r : Bool), eqCells ks xs ys = some r →
      denL E xs = some X → denL E ys = some Y → (Op.equalIn D t (valOf P t X) (valOf P t Y)).run P w = .ok r w) :
    ∀ (fs : List Field) (off : Nat) (ks : List TK), eqFs (eqTy P d) fs off = some ks → ∀ (E : Env) (w : World) (xs ys : List AV) (X Y X0 Y0 : List Value) (r : Bool), eqCells ks xs ys = some r →
      denL E xs = some X → denL E ys = some Y → X0.length = off → Y0.length = off → (Op.eqFields D (X0 ++ X).toArray (Y0 ++ Y).toArray fs).run P w = .ok r w
  | [], off, ks, hf, E, w, xs, ys, X, Y, X0, Y0, r, hr, hX, hY, hx, hy => by
    simp [eqFs] at hf; subst hf
    have : xs = [] ∧ ys = [] ∧ r = true := by
      cases xs <;> cases ys <;> simp [eqCells] at hr
      exact ⟨rfl, rfl, hr⟩
    obtain ⟨rfl, rfl, rfl⟩ := this
    rfl
  | f :: l, off, ks, hf, E, w, xs, ys, X, Y, X0, Y0, r, hr, hX, hY, hx, hy => by
    simp only [eqFs] at hf
    split at hf
    · rename_i k1 hn ho ht
      split at hf
      · rename_i k2 hl
        cases Option.some.inj hf
        have ho := Nat.eq_of_beq_eq_true ho
        obtain ⟨r1, r2, h1, h2, rfl⟩ := eqCells_append hr
        have hX1 := denL_take hX k1.length
        have hY1 := denL_take hY k1.length
        have hX2 := denL_drop hX k1.length
        have hY2 := denL_drop hY k1.length
        obtain ⟨l1, l2⟩ := eqCells_length h1
        have lX : (X.take k1.length).length = k1.length := by rw [denL_length hX1, l1]
        have lY : (Y.take k1.length).length = k1.length := by rw [denL_length hY1, l2]
        have hpx : (part f.type (X0 ++ X).toArray f.offset).run P w = .ok (valOf P f.type (X.take k1.length)) w := by
          have := part_ok (P := P) (w := w) ht (A := X0) (B := X.take k1.length) (C := X.drop k1.length) (by rw [hx]) lX
          rw [List.append_assoc, List.take_append_drop, ← ho] at this
          exact this
        have hpy : (part f.type (Y0 ++ Y).toArray f.offset).run P w = .ok (valOf P f.type (Y.take k1.length)) w := by
          have := part_ok (P := P) (w := w) ht (A := Y0) (B := Y.take k1.length) (C := Y.drop k1.length) (by rw [hy]) lY
          rw [List.append_assoc, List.take_append_drop, ← ho] at this
          exact this
        have he := ih ht E w _ _ _ _ r1 h1 hX1 hY1
        have hrest := eqFs_ok ih l (off + k1.length) k2 hl E w _ _ _ _ (X0 ++ X.take k1.length) (Y0 ++ Y.take k1.length) r2 h2 hX2 hY2 (by rw [List.length_append, hx, lX]) (by rw [List.length_append, hy, lY])
        rw [List.append_assoc, List.append_assoc, List.take_append_drop, List.take_append_drop] at hrest
        have hnm : f.name ≠ "_" := by simpa using hn
        simp only [Op.eqFields]
        rw [if_pos hnm]
        simp only [Sem.run_bind, hpx, hpy, he, Result.andThen_ok, Sem.run_ite, Sem.run_pure, hrest]
        cases r1 <;> simp
      · cases hf
    · cases hf

theorem eq_ok : ∀ (d : Nat) {t : Nat} {ks : List TK}, eqTy P d t = some ks → ∀ (D : Nat), d ≤ D → ∀ (E : Env) (w : World) (xs ys : List AV) (X Y : List Value) (r : Bool), eqCells ks xs ys = some r →
    denL E xs = some X → denL E ys = some Y → (Op.equalIn D t (valOf P t X) (valOf P t Y)).run P w = .ok r w
  | 0, t, ks, ht, D, hD, E, w, xs, ys, X, Y, r, hr, hX, hY => by simp [eqTy] at ht
  | d + 1, t, ks, ht, 0, hD, E, w, xs, ys, X, Y, r, hr, hX, hY => by omega
  | d + 1, t, ks, ht, D + 1, hD, E, w, xs, ys, X, Y, r, hr, hX, hY => by
    simp only [eqTy] at ht
    have e1 : ∀ V M, (∀ fs, P.underlying t ≠ some (.struct fs)) → valOf P t (V :: M) = V := fun V M hn => by
      unfold valOf
      split
      · rename_i fs hu; exact absurd hu (hn fs)
      · rfl
    have leaf1 : ∀ k, eqCells [k] xs ys = some r → ∃ x y, xs = [x] ∧ ys = [y] := fun k h => by
      obtain ⟨h1, h2⟩ := eqCells_length h
      match xs, ys, h1, h2 with
      | [x], [y], _, _ => exact ⟨x, y, rfl, rfl⟩
    split at ht
    · rename_i hu
      cases Option.some.inj ht
      obtain ⟨x, y, rfl, rfl⟩ := leaf1 _ hr
      obtain ⟨V, M, rfl, hV, hM⟩ := denL_cons hX
      obtain ⟨U, N, rfl, hU, hN⟩ := denL_cons hY
      rw [e1 _ _ (fun fs => by rw [hu]; simp), e1 _ _ (fun fs => by rw [hu]; simp)]
      cases x <;> try (simp [eqCells] at hr; done)
      cases y <;> try (simp [eqCells] at hr; done)
      rename_i p q
      cases den_bool hV; cases den_bool hU
      rw [run_equalIn_bool w D t p q hu]
      congr 1
      cases p <;> cases q <;> simp [eqCells] at hr <;> simp [hr]
    · rename_i k hu
      cases Option.some.inj ht
      obtain ⟨x, y, rfl, rfl⟩ := leaf1 _ hr
      obtain ⟨V, M, rfl, hV, hM⟩ := denL_cons hX
      obtain ⟨U, N, rfl, hU, hN⟩ := denL_cons hY
      rw [e1 _ _ (fun fs => by rw [hu]; simp), e1 _ _ (fun fs => by rw [hu]; simp)]
      cases x <;> try (simp [eqCells] at hr; done)
      cases y <;> try (simp [eqCells] at hr; done)
      cases den_int hV; cases den_int hU
      simp only [eqCells] at hr
      split at hr
      · cases hr
      · rename_i hk
        cases ikBeq_eq hk
        rw [run_equalIn_int w D t _ _ _ _ hu]
        congr 1
        rw [intBeq_eq] at hr
        split at hr <;> rename_i hb <;> (cases Option.some.inj hr; simpa using hb)
    · rename_i hu
      cases Option.some.inj ht
      obtain ⟨x, y, rfl, rfl⟩ := leaf1 _ hr
      obtain ⟨V, M, rfl, hV, hM⟩ := denL_cons hX
      obtain ⟨U, N, rfl, hU, hN⟩ := denL_cons hY
      rw [e1 _ _ (fun fs => by rw [hu]; simp), e1 _ _ (fun fs => by rw [hu]; simp)]
      cases x <;> try (simp [eqCells] at hr; done)
      cases y <;> try (simp [eqCells] at hr; done)
      cases den_str hV; cases den_str hU
      simp only [eqCells] at hr
      rw [run_equalIn_string w D t _ _ hu]
      congr 1
      rw [strBeq_eq] at hr
      split at hr <;> rename_i hb <;> (cases Option.some.inj hr; simpa using hb)
    · rename_i fs hu
      split at ht
      · rename_i m hsi hfs
        split at ht
        · rename_i hb hi
          cases Option.some.inj ht
          have e1 : ∀ X, valOf P t X = .agg X.toArray := fun X => by unfold valOf; rw [hu]
          rw [e1, e1]
          have hff : P.fieldsOf t = fs := by simp [Program.fieldsOf, hu]
          have hfo : P.underlying t = some (.struct (P.fieldsOf t)) := by rw [hff]; exact hu
          rw [run_equalIn_struct w D t _ _ hfo hsi, hff]
          have := eqFs_ok (P := P) (d := d) (D := D) (fun ht E w xs ys X Y r h1 h2 h3 => eq_ok d ht D (by omega) E w xs ys X Y r h1 h2 h3) fs.toList 0 _ hfs E w xs ys X Y [] [] r hr hX hY rfl rfl
          simpa using this
        · cases ht
      · cases ht
    · cases ht

end

/-! ### one type's row -/

def tkBeq : TK → TK → Bool
  | .bool, .bool => true
  | .int k, .int j => ikBeq k j
  | .str, .str => true
  | _, _ => false
def tksBeq : List TK → List TK → Bool
  | [], [] => true
  | a :: l, b :: m => tkBeq a b && tksBeq l m
  | _, _ => false
theorem tksBeq_eq : ∀ {a b : List TK}, tksBeq a b = true → a = b
  | [], b, h => by cases b <;> simp [tksBeq] at h; rfl
  | x :: l, b, h => by
    cases b with
    | nil => simp [tksBeq] at h
    | cons y m =>
      simp only [tksBeq, Bool.and_eq_true] at h
      have hxy : x = y := by
        have := h.1
        cases x <;> cases y <;> simp only [tkBeq] at this <;> first | rfl | (cases this; done) | (rw [ikBeq_eq this])
      rw [hxy, tksBeq_eq h.2]

def undB (P : Program) (t : Nat) : TK → Bool
  | .bool => match P.underlying t with | some .bool => true | _ => false
  | .int k => match P.underlying t with | some (.int j) => ikBeq j k | _ => false
  | .str => match P.underlying t with | some .string => true | _ => false
  | .slice e => match P.underlying t with | some (.slice d) => Nat.beq d e | _ => false
  | .arr n e => match P.underlying t with | some (.array m d) => Nat.beq m n && Nat.beq d e | _ => false
  | .map k e => match P.underlying t with | some (.map j d) => Nat.beq j k && Nat.beq d e | _ => false
  | .st fs => match P.underlying t with | some (.struct l) => fieldsBeq l.toList fs && infoAll P l.toList | _ => false
  | .ptr => match P.underlying t with | some (.pointer _) => true | _ => false
  | .fn => match P.underlying t with | some (.func _ _ _) => true | _ => false
  | .iface => match P.underlying t with | some (.interface _) => true | _ => false
  | .word => match P.underlying t with
    | none => false
    | some (.struct _) => false
    | some (.array _ _) => false
    | some (.interface _) => false
    | _ => true

def zeroB (ti : TI) (z : Value) : Bool :=
  (match ofVL z.cells.toList with | some l => beqL l ti.zero | none => false) &&
  (match ti.k with
    | .st _ => match z with | .agg _ => true | _ => false
    | .arr _ _ => match z with | .agg _ => true | _ => false
    | _ => match z with | .agg _ => false | _ => true)

def chkTI (P : Program) (t : Nat) (ti : TI) : Bool :=
  match P.info? t with
  | none => false
  | some i => match i.zero with
    | none => false
    | some z => (Nat.beq i.size ti.size && Nat.beq i.bytes ti.bytes) && (zeroB ti z && (undB P t ti.k &&
        (match ti.eqs with
          | [] => true
          | ks => (match ti.k with | .st _ => true | _ => false) && (!P.eqGuardType P.depth t && (match eqTy P 9 t with | some js => tksBeq js ks | none => false)))))

theorem chkTI_ok {P : Program} {T : TT} {t : Nat} {ti : TI} (h : chkTI P t ti = true) : TIok P T t ti := by
  unfold chkTI at h
  split at h
  · cases h
  · rename_i i hi
    split at h
    · cases h
    · rename_i z hz
      simp only [Bool.and_eq_true] at h
      obtain ⟨⟨h1, h2⟩, h3, h4, h5⟩ := h
      unfold zeroB at h3
      simp only [Bool.and_eq_true] at h3
      obtain ⟨h3, h3'⟩ := h3
      have hden : ∀ E, denL E ti.zero = some z.cells.toList := fun E => by
        split at h3
        · rename_i l hl
          rw [← beqL_eq h3]
          exact ofVL_den E _ _ hl
        · cases h3
      obtain ⟨k, size, bytes, zr, eqs⟩ := ti
      refine ⟨⟨i, z, hi, Nat.eq_of_beq_eq_true h1, Nat.eq_of_beq_eq_true h2, hz, hden, ?_⟩, ?_, ?_⟩
      · cases k <;> simp only at h3' ⊢ <;> (split at h3' <;> first | (cases h3'; done) | exact ⟨_, rfl⟩ | skip)
        all_goals
          rename_i hn
          cases z <;> first | rfl | (exact absurd rfl (hn _))
      · cases k <;> simp only [undB] at h4 ⊢
        case bool => split at h4 <;> first | assumption | cases h4
        case int => split at h4 <;> first | (rename_i hu; rw [hu, ikBeq_eq h4]) | cases h4
        case str => split at h4 <;> first | assumption | cases h4
        case slice => split at h4 <;> first | (rename_i hu; rw [hu, Nat.eq_of_beq_eq_true h4]) | cases h4
        case arr => split at h4 <;> first | (rename_i hu; simp only [Bool.and_eq_true] at h4; rw [hu, Nat.eq_of_beq_eq_true h4.1, Nat.eq_of_beq_eq_true h4.2]) | cases h4
        case map => split at h4 <;> first | (rename_i hu; simp only [Bool.and_eq_true] at h4; rw [hu, Nat.eq_of_beq_eq_true h4.1, Nat.eq_of_beq_eq_true h4.2]) | cases h4
        case st => split at h4 <;> first | (rename_i hu; simp only [Bool.and_eq_true] at h4; exact ⟨_, hu, fieldsBeq_eq h4.1, infoAll_ok h4.2⟩) | cases h4
        case ptr => split at h4 <;> first | (rename_i hu; exact ⟨_, hu⟩) | cases h4
        case fn => split at h4 <;> first | (rename_i hu; exact ⟨_, _, _, hu⟩) | cases h4
        case iface => split at h4 <;> first | (rename_i hu; exact ⟨_, hu⟩) | cases h4
        case word =>
          split at h4 <;> first | (cases h4; done) | skip
          rename_i hn1 hn2 hn3 hn4
          cases hu : P.underlying t with
          | none => exact absurd hu hn1
          | some d =>
            refine ⟨d, rfl, ?_⟩
            cases d <;> first | trivial | (exact absurd hu (hn2 _)) | (exact absurd hu (hn3 _ _)) | (exact absurd hu (hn4 _))
      · intro he
        cases eqs with
        | nil => exact absurd rfl he
        | cons k1 ks =>
          simp only [Bool.and_eq_true] at h5
          obtain ⟨h6, h7, h8⟩ := h5
          refine ⟨by simpa using h7, fun E w xs ys X Y r hr hX hY => ?_⟩
          split at h8
          · rename_i js hjs
            have hu : ∃ fs, P.underlying t = some (.struct fs) := by
              cases k <;> simp only [Bool.false_eq_true] at h6
              simp only [undB] at h4
              split at h4
              · rename_i l hu; exact ⟨_, hu⟩
              · cases h4
            obtain ⟨fs, hu⟩ := hu
            have e1 : ∀ X, valOf P t X = .agg X.toArray := fun X => by unfold valOf; rw [hu]
            have := eq_ok 9 hjs 10000 (by omega) E w xs ys X Y r (by rw [tksBeq_eq h8]; exact hr) hX hY
            rwa [e1, e1] at this
          · cases h8

end Go.Ae
