/- An environment of 196 temporaries that the kernel reads and writes in few steps, and that each way to read and write it is the plain one. Printed by a program. No condition. -/
import Derived.Test.YtboklojgbhkhfaaGreatAeFast
set_option linter.unusedVariables false
namespace Go.Ae
structure E1 where (a0 a1 a2 a3 a4 a5 a6 a7 a8 a9 a10 a11 a12 a13 : AV)
structure E2 where (b0 b1 b2 b3 b4 b5 b6 b7 b8 b9 b10 b11 b12 b13 : E1)
/-- What has come of a piece. -/
inductive Res where
  | bad
  | nrm (n : Nat) (h : Tr AO) (e : E2)
  | ex (i : Nat) (n : Nat) (h : Tr AO) (e : E2)
  | ret (n : Nat) (h : Tr AO) (e : E2)
def E1.at (p : E1) (i : Nat) : AV := match i with
  | 0 => p.a0
  | 1 => p.a1
  | 2 => p.a2
  | 3 => p.a3
  | 4 => p.a4
  | 5 => p.a5
  | 6 => p.a6
  | 7 => p.a7
  | 8 => p.a8
  | 9 => p.a9
  | 10 => p.a10
  | 11 => p.a11
  | 12 => p.a12
  | _ => p.a13
def E2.at (p : E2) (i : Nat) : E1 := match i with
  | 0 => p.b0
  | 1 => p.b1
  | 2 => p.b2
  | 3 => p.b3
  | 4 => p.b4
  | 5 => p.b5
  | 6 => p.b6
  | 7 => p.b7
  | 8 => p.b8
  | 9 => p.b9
  | 10 => p.b10
  | 11 => p.b11
  | 12 => p.b12
  | _ => p.b13
def E1.put (p : E1) (i : Nat) (v : AV) : E1 := match i with
  | 0 => ⟨v, p.a1, p.a2, p.a3, p.a4, p.a5, p.a6, p.a7, p.a8, p.a9, p.a10, p.a11, p.a12, p.a13⟩
  | 1 => ⟨p.a0, v, p.a2, p.a3, p.a4, p.a5, p.a6, p.a7, p.a8, p.a9, p.a10, p.a11, p.a12, p.a13⟩
  | 2 => ⟨p.a0, p.a1, v, p.a3, p.a4, p.a5, p.a6, p.a7, p.a8, p.a9, p.a10, p.a11, p.a12, p.a13⟩
  | 3 => ⟨p.a0, p.a1, p.a2, v, p.a4, p.a5, p.a6, p.a7, p.a8, p.a9, p.a10, p.a11, p.a12, p.a13⟩
  | 4 => ⟨p.a0, p.a1, p.a2, p.a3, v, p.a5, p.a6, p.a7, p.a8, p.a9, p.a10, p.a11, p.a12, p.a13⟩
  | 5 => ⟨p.a0, p.a1, p.a2, p.a3, p.a4, v, p.a6, p.a7, p.a8, p.a9, p.a10, p.a11, p.a12, p.a13⟩
  | 6 => ⟨p.a0, p.a1, p.a2, p.a3, p.a4, p.a5, v, p.a7, p.a8, p.a9, p.a10, p.a11, p.a12, p.a13⟩
  | 7 => ⟨p.a0, p.a1, p.a2, p.a3, p.a4, p.a5, p.a6, v, p.a8, p.a9, p.a10, p.a11, p.a12, p.a13⟩
  | 8 => ⟨p.a0, p.a1, p.a2, p.a3, p.a4, p.a5, p.a6, p.a7, v, p.a9, p.a10, p.a11, p.a12, p.a13⟩
  | 9 => ⟨p.a0, p.a1, p.a2, p.a3, p.a4, p.a5, p.a6, p.a7, p.a8, v, p.a10, p.a11, p.a12, p.a13⟩
  | 10 => ⟨p.a0, p.a1, p.a2, p.a3, p.a4, p.a5, p.a6, p.a7, p.a8, p.a9, v, p.a11, p.a12, p.a13⟩
  | 11 => ⟨p.a0, p.a1, p.a2, p.a3, p.a4, p.a5, p.a6, p.a7, p.a8, p.a9, p.a10, v, p.a12, p.a13⟩
  | 12 => ⟨p.a0, p.a1, p.a2, p.a3, p.a4, p.a5, p.a6, p.a7, p.a8, p.a9, p.a10, p.a11, v, p.a13⟩
  | _ => ⟨p.a0, p.a1, p.a2, p.a3, p.a4, p.a5, p.a6, p.a7, p.a8, p.a9, p.a10, p.a11, p.a12, v⟩
def E2.put (p : E2) (i : Nat) (v : E1) : E2 := match i with
  | 0 => ⟨v, p.b1, p.b2, p.b3, p.b4, p.b5, p.b6, p.b7, p.b8, p.b9, p.b10, p.b11, p.b12, p.b13⟩
  | 1 => ⟨p.b0, v, p.b2, p.b3, p.b4, p.b5, p.b6, p.b7, p.b8, p.b9, p.b10, p.b11, p.b12, p.b13⟩
  | 2 => ⟨p.b0, p.b1, v, p.b3, p.b4, p.b5, p.b6, p.b7, p.b8, p.b9, p.b10, p.b11, p.b12, p.b13⟩
  | 3 => ⟨p.b0, p.b1, p.b2, v, p.b4, p.b5, p.b6, p.b7, p.b8, p.b9, p.b10, p.b11, p.b12, p.b13⟩
  | 4 => ⟨p.b0, p.b1, p.b2, p.b3, v, p.b5, p.b6, p.b7, p.b8, p.b9, p.b10, p.b11, p.b12, p.b13⟩
  | 5 => ⟨p.b0, p.b1, p.b2, p.b3, p.b4, v, p.b6, p.b7, p.b8, p.b9, p.b10, p.b11, p.b12, p.b13⟩
  | 6 => ⟨p.b0, p.b1, p.b2, p.b3, p.b4, p.b5, v, p.b7, p.b8, p.b9, p.b10, p.b11, p.b12, p.b13⟩
  | 7 => ⟨p.b0, p.b1, p.b2, p.b3, p.b4, p.b5, p.b6, v, p.b8, p.b9, p.b10, p.b11, p.b12, p.b13⟩
  | 8 => ⟨p.b0, p.b1, p.b2, p.b3, p.b4, p.b5, p.b6, p.b7, v, p.b9, p.b10, p.b11, p.b12, p.b13⟩
  | 9 => ⟨p.b0, p.b1, p.b2, p.b3, p.b4, p.b5, p.b6, p.b7, p.b8, v, p.b10, p.b11, p.b12, p.b13⟩
  | 10 => ⟨p.b0, p.b1, p.b2, p.b3, p.b4, p.b5, p.b6, p.b7, p.b8, p.b9, v, p.b11, p.b12, p.b13⟩
  | 11 => ⟨p.b0, p.b1, p.b2, p.b3, p.b4, p.b5, p.b6, p.b7, p.b8, p.b9, p.b10, v, p.b12, p.b13⟩
  | 12 => ⟨p.b0, p.b1, p.b2, p.b3, p.b4, p.b5, p.b6, p.b7, p.b8, p.b9, p.b10, p.b11, v, p.b13⟩
  | _ => ⟨p.b0, p.b1, p.b2, p.b3, p.b4, p.b5, p.b6, p.b7, p.b8, p.b9, p.b10, p.b11, p.b12, v⟩
theorem lt14 {i : Nat} (h : i < 14) : i = 0 ∨ i = 1 ∨ i = 2 ∨ i = 3 ∨ i = 4 ∨ i = 5 ∨ i = 6 ∨ i = 7 ∨ i = 8 ∨ i = 9 ∨ i = 10 ∨ i = 11 ∨ i = 12 ∨ i = 13 := by omega
theorem E1.at_put (p : E1) {i j : Nat} (hi : i < 14) (hj : j < 14) (v : AV) : (p.put i v).at j = if j = i then v else p.at j := by
  rcases lt14 hi with rfl | rfl | rfl | rfl | rfl | rfl | rfl | rfl | rfl | rfl | rfl | rfl | rfl | rfl <;> rcases lt14 hj with rfl | rfl | rfl | rfl | rfl | rfl | rfl | rfl | rfl | rfl | rfl | rfl | rfl | rfl <;> rfl
theorem E2.at_put (p : E2) {i j : Nat} (hi : i < 14) (hj : j < 14) (v : E1) : (p.put i v).at j = if j = i then v else p.at j := by
  rcases lt14 hi with rfl | rfl | rfl | rfl | rfl | rfl | rfl | rfl | rfl | rfl | rfl | rfl | rfl | rfl <;> rcases lt14 hj with rfl | rfl | rfl | rfl | rfl | rfl | rfl | rfl | rfl | rfl | rfl | rfl | rfl | rfl <;> rfl
def eget (e : E2) (i : Nat) : AV := (e.at (i / 14)).at (i % 14)
def eset (e : E2) (i : Nat) (v : AV) : E2 := e.put (i / 14) ((e.at (i / 14)).put (i % 14) v)
theorem eget_eset (e : E2) {i j : Nat} (hi : i < 196) (hj : j < 196) (v : AV) : eget (eset e i v) j = if j = i then v else eget e j := by
  have h1 : i / 14 < 14 := by omega
  have h2 : j / 14 < 14 := by omega
  have h5 : i % 14 < 14 := by omega
  have h6 : j % 14 < 14 := by omega
  unfold eget eset
  rw [E2.at_put _ h1 h2]
  by_cases e1 : j / 14 = i / 14
  · rw [if_pos e1, E1.at_put _ h5 h6]
    by_cases e3 : j % 14 = i % 14
    · rw [if_pos e3, if_pos (by omega)]
    · rw [if_neg e3, if_neg (by omega), e1]
  · rw [if_neg e1, if_neg (by omega)]
/-- The environment holds these temporaries. -/
structure Rp (m : Nat) (e : E2) (t : List AV) : Prop where
  le : m ≤ 196
  len : t.length = m
  get : ∀ i, i < m → t[i]? = some (eget e i)
theorem Rp.set {m : Nat} {e : E2} {t : List AV} (h : Rp m e t) {i : Nat} (hi : i < m) (v : AV) : Rp m (eset e i v) (t.set i v) := by
  refine ⟨h.le, by rw [List.length_set]; exact h.len, fun j hj => ?_⟩
  rw [eget_eset e (by have := h.le; omega) (by have := h.le; omega), List.getElem?_set]
  by_cases hij : i = j
  · subst hij
    rw [if_pos rfl, if_pos rfl, if_pos (by rw [h.len]; exact hi)]
  · rw [if_neg hij, if_neg (fun e => hij e.symm)]
    exact h.get j hj
abbrev SM := AV → E2 → (E2 → Res) → Res
noncomputable def p0 (v : AV) (x : E1) : (E1 → Res) → Res := E1.rec (motive := fun _ => AV → (E1 → Res) → Res) (fun a0 a1 a2 a3 a4 a5 a6 a7 a8 a9 a10 a11 a12 a13 v K => K ⟨v, a1, a2, a3, a4, a5, a6, a7, a8, a9, a10, a11, a12, a13⟩) x v
noncomputable def p1 (v : AV) (x : E1) : (E1 → Res) → Res := E1.rec (motive := fun _ => AV → (E1 → Res) → Res) (fun a0 a1 a2 a3 a4 a5 a6 a7 a8 a9 a10 a11 a12 a13 v K => K ⟨a0, v, a2, a3, a4, a5, a6, a7, a8, a9, a10, a11, a12, a13⟩) x v
noncomputable def p2 (v : AV) (x : E1) : (E1 → Res) → Res := E1.rec (motive := fun _ => AV → (E1 → Res) → Res) (fun a0 a1 a2 a3 a4 a5 a6 a7 a8 a9 a10 a11 a12 a13 v K => K ⟨a0, a1, v, a3, a4, a5, a6, a7, a8, a9, a10, a11, a12, a13⟩) x v
noncomputable def p3 (v : AV) (x : E1) : (E1 → Res) → Res := E1.rec (motive := fun _ => AV → (E1 → Res) → Res) (fun a0 a1 a2 a3 a4 a5 a6 a7 a8 a9 a10 a11 a12 a13 v K => K ⟨a0, a1, a2, v, a4, a5, a6, a7, a8, a9, a10, a11, a12, a13⟩) x v
noncomputable def p4 (v : AV) (x : E1) : (E1 → Res) → Res := E1.rec (motive := fun _ => AV → (E1 → Res) → Res) (fun a0 a1 a2 a3 a4 a5 a6 a7 a8 a9 a10 a11 a12 a13 v K => K ⟨a0, a1, a2, a3, v, a5, a6, a7, a8, a9, a10, a11, a12, a13⟩) x v
noncomputable def p5 (v : AV) (x : E1) : (E1 → Res) → Res := E1.rec (motive := fun _ => AV → (E1 → Res) → Res) (fun a0 a1 a2 a3 a4 a5 a6 a7 a8 a9 a10 a11 a12 a13 v K => K ⟨a0, a1, a2, a3, a4, v, a6, a7, a8, a9, a10, a11, a12, a13⟩) x v
noncomputable def p6 (v : AV) (x : E1) : (E1 → Res) → Res := E1.rec (motive := fun _ => AV → (E1 → Res) → Res) (fun a0 a1 a2 a3 a4 a5 a6 a7 a8 a9 a10 a11 a12 a13 v K => K ⟨a0, a1, a2, a3, a4, a5, v, a7, a8, a9, a10, a11, a12, a13⟩) x v
noncomputable def p7 (v : AV) (x : E1) : (E1 → Res) → Res := E1.rec (motive := fun _ => AV → (E1 → Res) → Res) (fun a0 a1 a2 a3 a4 a5 a6 a7 a8 a9 a10 a11 a12 a13 v K => K ⟨a0, a1, a2, a3, a4, a5, a6, v, a8, a9, a10, a11, a12, a13⟩) x v
noncomputable def p8 (v : AV) (x : E1) : (E1 → Res) → Res := E1.rec (motive := fun _ => AV → (E1 → Res) → Res) (fun a0 a1 a2 a3 a4 a5 a6 a7 a8 a9 a10 a11 a12 a13 v K => K ⟨a0, a1, a2, a3, a4, a5, a6, a7, v, a9, a10, a11, a12, a13⟩) x v
noncomputable def p9 (v : AV) (x : E1) : (E1 → Res) → Res := E1.rec (motive := fun _ => AV → (E1 → Res) → Res) (fun a0 a1 a2 a3 a4 a5 a6 a7 a8 a9 a10 a11 a12 a13 v K => K ⟨a0, a1, a2, a3, a4, a5, a6, a7, a8, v, a10, a11, a12, a13⟩) x v
noncomputable def p10 (v : AV) (x : E1) : (E1 → Res) → Res := E1.rec (motive := fun _ => AV → (E1 → Res) → Res) (fun a0 a1 a2 a3 a4 a5 a6 a7 a8 a9 a10 a11 a12 a13 v K => K ⟨a0, a1, a2, a3, a4, a5, a6, a7, a8, a9, v, a11, a12, a13⟩) x v
noncomputable def p11 (v : AV) (x : E1) : (E1 → Res) → Res := E1.rec (motive := fun _ => AV → (E1 → Res) → Res) (fun a0 a1 a2 a3 a4 a5 a6 a7 a8 a9 a10 a11 a12 a13 v K => K ⟨a0, a1, a2, a3, a4, a5, a6, a7, a8, a9, a10, v, a12, a13⟩) x v
noncomputable def p12 (v : AV) (x : E1) : (E1 → Res) → Res := E1.rec (motive := fun _ => AV → (E1 → Res) → Res) (fun a0 a1 a2 a3 a4 a5 a6 a7 a8 a9 a10 a11 a12 a13 v K => K ⟨a0, a1, a2, a3, a4, a5, a6, a7, a8, a9, a10, a11, v, a13⟩) x v
noncomputable def p13 (v : AV) (x : E1) : (E1 → Res) → Res := E1.rec (motive := fun _ => AV → (E1 → Res) → Res) (fun a0 a1 a2 a3 a4 a5 a6 a7 a8 a9 a10 a11 a12 a13 v K => K ⟨a0, a1, a2, a3, a4, a5, a6, a7, a8, a9, a10, a11, a12, v⟩) x v
noncomputable def q0 (b1 b2 b3 b4 b5 b6 b7 b8 b9 b10 b11 b12 b13 : E1) (K : E2 → Res) (x : E1) : Res := K ⟨x, b1, b2, b3, b4, b5, b6, b7, b8, b9, b10, b11, b12, b13⟩
noncomputable def q1 (b0 b2 b3 b4 b5 b6 b7 b8 b9 b10 b11 b12 b13 : E1) (K : E2 → Res) (x : E1) : Res := K ⟨b0, x, b2, b3, b4, b5, b6, b7, b8, b9, b10, b11, b12, b13⟩
noncomputable def q2 (b0 b1 b3 b4 b5 b6 b7 b8 b9 b10 b11 b12 b13 : E1) (K : E2 → Res) (x : E1) : Res := K ⟨b0, b1, x, b3, b4, b5, b6, b7, b8, b9, b10, b11, b12, b13⟩
noncomputable def q3 (b0 b1 b2 b4 b5 b6 b7 b8 b9 b10 b11 b12 b13 : E1) (K : E2 → Res) (x : E1) : Res := K ⟨b0, b1, b2, x, b4, b5, b6, b7, b8, b9, b10, b11, b12, b13⟩
noncomputable def q4 (b0 b1 b2 b3 b5 b6 b7 b8 b9 b10 b11 b12 b13 : E1) (K : E2 → Res) (x : E1) : Res := K ⟨b0, b1, b2, b3, x, b5, b6, b7, b8, b9, b10, b11, b12, b13⟩
noncomputable def q5 (b0 b1 b2 b3 b4 b6 b7 b8 b9 b10 b11 b12 b13 : E1) (K : E2 → Res) (x : E1) : Res := K ⟨b0, b1, b2, b3, b4, x, b6, b7, b8, b9, b10, b11, b12, b13⟩
noncomputable def q6 (b0 b1 b2 b3 b4 b5 b7 b8 b9 b10 b11 b12 b13 : E1) (K : E2 → Res) (x : E1) : Res := K ⟨b0, b1, b2, b3, b4, b5, x, b7, b8, b9, b10, b11, b12, b13⟩
noncomputable def q7 (b0 b1 b2 b3 b4 b5 b6 b8 b9 b10 b11 b12 b13 : E1) (K : E2 → Res) (x : E1) : Res := K ⟨b0, b1, b2, b3, b4, b5, b6, x, b8, b9, b10, b11, b12, b13⟩
noncomputable def q8 (b0 b1 b2 b3 b4 b5 b6 b7 b9 b10 b11 b12 b13 : E1) (K : E2 → Res) (x : E1) : Res := K ⟨b0, b1, b2, b3, b4, b5, b6, b7, x, b9, b10, b11, b12, b13⟩
noncomputable def q9 (b0 b1 b2 b3 b4 b5 b6 b7 b8 b10 b11 b12 b13 : E1) (K : E2 → Res) (x : E1) : Res := K ⟨b0, b1, b2, b3, b4, b5, b6, b7, b8, x, b10, b11, b12, b13⟩
noncomputable def q10 (b0 b1 b2 b3 b4 b5 b6 b7 b8 b9 b11 b12 b13 : E1) (K : E2 → Res) (x : E1) : Res := K ⟨b0, b1, b2, b3, b4, b5, b6, b7, b8, b9, x, b11, b12, b13⟩
noncomputable def q11 (b0 b1 b2 b3 b4 b5 b6 b7 b8 b9 b10 b12 b13 : E1) (K : E2 → Res) (x : E1) : Res := K ⟨b0, b1, b2, b3, b4, b5, b6, b7, b8, b9, b10, x, b12, b13⟩
noncomputable def q12 (b0 b1 b2 b3 b4 b5 b6 b7 b8 b9 b10 b11 b13 : E1) (K : E2 → Res) (x : E1) : Res := K ⟨b0, b1, b2, b3, b4, b5, b6, b7, b8, b9, b10, b11, x, b13⟩
noncomputable def q13 (b0 b1 b2 b3 b4 b5 b6 b7 b8 b9 b10 b11 b12 : E1) (K : E2 → Res) (x : E1) : Res := K ⟨b0, b1, b2, b3, b4, b5, b6, b7, b8, b9, b10, b11, b12, x⟩
noncomputable def z0 (S : AV → E1 → (E1 → Res) → Res) (v : AV) (x : E2) : (E2 → Res) → Res := E2.rec (motive := fun _ => (AV → E1 → (E1 → Res) → Res) → AV → (E2 → Res) → Res) (fun b0 b1 b2 b3 b4 b5 b6 b7 b8 b9 b10 b11 b12 b13 S v K => S v b0 (q0 b1 b2 b3 b4 b5 b6 b7 b8 b9 b10 b11 b12 b13 K)) x S v
noncomputable def z1 (S : AV → E1 → (E1 → Res) → Res) (v : AV) (x : E2) : (E2 → Res) → Res := E2.rec (motive := fun _ => (AV → E1 → (E1 → Res) → Res) → AV → (E2 → Res) → Res) (fun b0 b1 b2 b3 b4 b5 b6 b7 b8 b9 b10 b11 b12 b13 S v K => S v b1 (q1 b0 b2 b3 b4 b5 b6 b7 b8 b9 b10 b11 b12 b13 K)) x S v
noncomputable def z2 (S : AV → E1 → (E1 → Res) → Res) (v : AV) (x : E2) : (E2 → Res) → Res := E2.rec (motive := fun _ => (AV → E1 → (E1 → Res) → Res) → AV → (E2 → Res) → Res) (fun b0 b1 b2 b3 b4 b5 b6 b7 b8 b9 b10 b11 b12 b13 S v K => S v b2 (q2 b0 b1 b3 b4 b5 b6 b7 b8 b9 b10 b11 b12 b13 K)) x S v
noncomputable def z3 (S : AV → E1 → (E1 → Res) → Res) (v : AV) (x : E2) : (E2 → Res) → Res := E2.rec (motive := fun _ => (AV → E1 → (E1 → Res) → Res) → AV → (E2 → Res) → Res) (fun b0 b1 b2 b3 b4 b5 b6 b7 b8 b9 b10 b11 b12 b13 S v K => S v b3 (q3 b0 b1 b2 b4 b5 b6 b7 b8 b9 b10 b11 b12 b13 K)) x S v
noncomputable def z4 (S : AV → E1 → (E1 → Res) → Res) (v : AV) (x : E2) : (E2 → Res) → Res := E2.rec (motive := fun _ => (AV → E1 → (E1 → Res) → Res) → AV → (E2 → Res) → Res) (fun b0 b1 b2 b3 b4 b5 b6 b7 b8 b9 b10 b11 b12 b13 S v K => S v b4 (q4 b0 b1 b2 b3 b5 b6 b7 b8 b9 b10 b11 b12 b13 K)) x S v
noncomputable def z5 (S : AV → E1 → (E1 → Res) → Res) (v : AV) (x : E2) : (E2 → Res) → Res := E2.rec (motive := fun _ => (AV → E1 → (E1 → Res) → Res) → AV → (E2 → Res) → Res) (fun b0 b1 b2 b3 b4 b5 b6 b7 b8 b9 b10 b11 b12 b13 S v K => S v b5 (q5 b0 b1 b2 b3 b4 b6 b7 b8 b9 b10 b11 b12 b13 K)) x S v
noncomputable def z6 (S : AV → E1 → (E1 → Res) → Res) (v : AV) (x : E2) : (E2 → Res) → Res := E2.rec (motive := fun _ => (AV → E1 → (E1 → Res) → Res) → AV → (E2 → Res) → Res) (fun b0 b1 b2 b3 b4 b5 b6 b7 b8 b9 b10 b11 b12 b13 S v K => S v b6 (q6 b0 b1 b2 b3 b4 b5 b7 b8 b9 b10 b11 b12 b13 K)) x S v
noncomputable def z7 (S : AV → E1 → (E1 → Res) → Res) (v : AV) (x : E2) : (E2 → Res) → Res := E2.rec (motive := fun _ => (AV → E1 → (E1 → Res) → Res) → AV → (E2 → Res) → Res) (fun b0 b1 b2 b3 b4 b5 b6 b7 b8 b9 b10 b11 b12 b13 S v K => S v b7 (q7 b0 b1 b2 b3 b4 b5 b6 b8 b9 b10 b11 b12 b13 K)) x S v
noncomputable def z8 (S : AV → E1 → (E1 → Res) → Res) (v : AV) (x : E2) : (E2 → Res) → Res := E2.rec (motive := fun _ => (AV → E1 → (E1 → Res) → Res) → AV → (E2 → Res) → Res) (fun b0 b1 b2 b3 b4 b5 b6 b7 b8 b9 b10 b11 b12 b13 S v K => S v b8 (q8 b0 b1 b2 b3 b4 b5 b6 b7 b9 b10 b11 b12 b13 K)) x S v
noncomputable def z9 (S : AV → E1 → (E1 → Res) → Res) (v : AV) (x : E2) : (E2 → Res) → Res := E2.rec (motive := fun _ => (AV → E1 → (E1 → Res) → Res) → AV → (E2 → Res) → Res) (fun b0 b1 b2 b3 b4 b5 b6 b7 b8 b9 b10 b11 b12 b13 S v K => S v b9 (q9 b0 b1 b2 b3 b4 b5 b6 b7 b8 b10 b11 b12 b13 K)) x S v
noncomputable def z10 (S : AV → E1 → (E1 → Res) → Res) (v : AV) (x : E2) : (E2 → Res) → Res := E2.rec (motive := fun _ => (AV → E1 → (E1 → Res) → Res) → AV → (E2 → Res) → Res) (fun b0 b1 b2 b3 b4 b5 b6 b7 b8 b9 b10 b11 b12 b13 S v K => S v b10 (q10 b0 b1 b2 b3 b4 b5 b6 b7 b8 b9 b11 b12 b13 K)) x S v
noncomputable def z11 (S : AV → E1 → (E1 → Res) → Res) (v : AV) (x : E2) : (E2 → Res) → Res := E2.rec (motive := fun _ => (AV → E1 → (E1 → Res) → Res) → AV → (E2 → Res) → Res) (fun b0 b1 b2 b3 b4 b5 b6 b7 b8 b9 b10 b11 b12 b13 S v K => S v b11 (q11 b0 b1 b2 b3 b4 b5 b6 b7 b8 b9 b10 b12 b13 K)) x S v
noncomputable def z12 (S : AV → E1 → (E1 → Res) → Res) (v : AV) (x : E2) : (E2 → Res) → Res := E2.rec (motive := fun _ => (AV → E1 → (E1 → Res) → Res) → AV → (E2 → Res) → Res) (fun b0 b1 b2 b3 b4 b5 b6 b7 b8 b9 b10 b11 b12 b13 S v K => S v b12 (q12 b0 b1 b2 b3 b4 b5 b6 b7 b8 b9 b10 b11 b13 K)) x S v
noncomputable def z13 (S : AV → E1 → (E1 → Res) → Res) (v : AV) (x : E2) : (E2 → Res) → Res := E2.rec (motive := fun _ => (AV → E1 → (E1 → Res) → Res) → AV → (E2 → Res) → Res) (fun b0 b1 b2 b3 b4 b5 b6 b7 b8 b9 b10 b11 b12 b13 S v K => S v b13 (q13 b0 b1 b2 b3 b4 b5 b6 b7 b8 b9 b10 b11 b12 K)) x S v
noncomputable def s0 : SM := z0 p0
noncomputable def s1 : SM := z0 p1
noncomputable def s2 : SM := z0 p2
noncomputable def s3 : SM := z0 p3
noncomputable def s4 : SM := z0 p4
noncomputable def s5 : SM := z0 p5
noncomputable def s6 : SM := z0 p6
noncomputable def s7 : SM := z0 p7
noncomputable def s8 : SM := z0 p8
noncomputable def s9 : SM := z0 p9
noncomputable def s10 : SM := z0 p10
noncomputable def s11 : SM := z0 p11
noncomputable def s12 : SM := z0 p12
noncomputable def s13 : SM := z0 p13
noncomputable def s14 : SM := z1 p0
noncomputable def s15 : SM := z1 p1
noncomputable def s16 : SM := z1 p2
noncomputable def s17 : SM := z1 p3
noncomputable def s18 : SM := z1 p4
noncomputable def s19 : SM := z1 p5
noncomputable def s20 : SM := z1 p6
noncomputable def s21 : SM := z1 p7
noncomputable def s22 : SM := z1 p8
noncomputable def s23 : SM := z1 p9
noncomputable def s24 : SM := z1 p10
noncomputable def s25 : SM := z1 p11
noncomputable def s26 : SM := z1 p12
noncomputable def s27 : SM := z1 p13
noncomputable def s28 : SM := z2 p0
noncomputable def s29 : SM := z2 p1
noncomputable def s30 : SM := z2 p2
noncomputable def s31 : SM := z2 p3
noncomputable def s32 : SM := z2 p4
noncomputable def s33 : SM := z2 p5
noncomputable def s34 : SM := z2 p6
noncomputable def s35 : SM := z2 p7
noncomputable def s36 : SM := z2 p8
noncomputable def s37 : SM := z2 p9
noncomputable def s38 : SM := z2 p10
noncomputable def s39 : SM := z2 p11
noncomputable def s40 : SM := z2 p12
noncomputable def s41 : SM := z2 p13
noncomputable def s42 : SM := z3 p0
noncomputable def s43 : SM := z3 p1
noncomputable def s44 : SM := z3 p2
noncomputable def s45 : SM := z3 p3
noncomputable def s46 : SM := z3 p4
noncomputable def s47 : SM := z3 p5
noncomputable def s48 : SM := z3 p6
noncomputable def s49 : SM := z3 p7
noncomputable def s50 : SM := z3 p8
noncomputable def s51 : SM := z3 p9
noncomputable def s52 : SM := z3 p10
noncomputable def s53 : SM := z3 p11
noncomputable def s54 : SM := z3 p12
noncomputable def s55 : SM := z3 p13
noncomputable def s56 : SM := z4 p0
noncomputable def s57 : SM := z4 p1
noncomputable def s58 : SM := z4 p2
noncomputable def s59 : SM := z4 p3
noncomputable def s60 : SM := z4 p4
noncomputable def s61 : SM := z4 p5
noncomputable def s62 : SM := z4 p6
noncomputable def s63 : SM := z4 p7
noncomputable def s64 : SM := z4 p8
noncomputable def s65 : SM := z4 p9
noncomputable def s66 : SM := z4 p10
noncomputable def s67 : SM := z4 p11
noncomputable def s68 : SM := z4 p12
noncomputable def s69 : SM := z4 p13
noncomputable def s70 : SM := z5 p0
noncomputable def s71 : SM := z5 p1
noncomputable def s72 : SM := z5 p2
noncomputable def s73 : SM := z5 p3
noncomputable def s74 : SM := z5 p4
noncomputable def s75 : SM := z5 p5
noncomputable def s76 : SM := z5 p6
noncomputable def s77 : SM := z5 p7
noncomputable def s78 : SM := z5 p8
noncomputable def s79 : SM := z5 p9
noncomputable def s80 : SM := z5 p10
noncomputable def s81 : SM := z5 p11
noncomputable def s82 : SM := z5 p12
noncomputable def s83 : SM := z5 p13
noncomputable def s84 : SM := z6 p0
noncomputable def s85 : SM := z6 p1
noncomputable def s86 : SM := z6 p2
noncomputable def s87 : SM := z6 p3
noncomputable def s88 : SM := z6 p4
noncomputable def s89 : SM := z6 p5
noncomputable def s90 : SM := z6 p6
noncomputable def s91 : SM := z6 p7
noncomputable def s92 : SM := z6 p8
noncomputable def s93 : SM := z6 p9
noncomputable def s94 : SM := z6 p10
noncomputable def s95 : SM := z6 p11
noncomputable def s96 : SM := z6 p12
noncomputable def s97 : SM := z6 p13
noncomputable def s98 : SM := z7 p0
noncomputable def s99 : SM := z7 p1
noncomputable def s100 : SM := z7 p2
noncomputable def s101 : SM := z7 p3
noncomputable def s102 : SM := z7 p4
noncomputable def s103 : SM := z7 p5
noncomputable def s104 : SM := z7 p6
noncomputable def s105 : SM := z7 p7
noncomputable def s106 : SM := z7 p8
noncomputable def s107 : SM := z7 p9
noncomputable def s108 : SM := z7 p10
noncomputable def s109 : SM := z7 p11
noncomputable def s110 : SM := z7 p12
noncomputable def s111 : SM := z7 p13
noncomputable def s112 : SM := z8 p0
noncomputable def s113 : SM := z8 p1
noncomputable def s114 : SM := z8 p2
noncomputable def s115 : SM := z8 p3
noncomputable def s116 : SM := z8 p4
noncomputable def s117 : SM := z8 p5
noncomputable def s118 : SM := z8 p6
noncomputable def s119 : SM := z8 p7
noncomputable def s120 : SM := z8 p8
noncomputable def s121 : SM := z8 p9
noncomputable def s122 : SM := z8 p10
noncomputable def s123 : SM := z8 p11
noncomputable def s124 : SM := z8 p12
noncomputable def s125 : SM := z8 p13
noncomputable def s126 : SM := z9 p0
noncomputable def s127 : SM := z9 p1
noncomputable def s128 : SM := z9 p2
noncomputable def s129 : SM := z9 p3
noncomputable def s130 : SM := z9 p4
noncomputable def s131 : SM := z9 p5
noncomputable def s132 : SM := z9 p6
noncomputable def s133 : SM := z9 p7
noncomputable def s134 : SM := z9 p8
noncomputable def s135 : SM := z9 p9
noncomputable def s136 : SM := z9 p10
noncomputable def s137 : SM := z9 p11
noncomputable def s138 : SM := z9 p12
noncomputable def s139 : SM := z9 p13
noncomputable def s140 : SM := z10 p0
noncomputable def s141 : SM := z10 p1
noncomputable def s142 : SM := z10 p2
noncomputable def s143 : SM := z10 p3
noncomputable def s144 : SM := z10 p4
noncomputable def s145 : SM := z10 p5
noncomputable def s146 : SM := z10 p6
noncomputable def s147 : SM := z10 p7
noncomputable def s148 : SM := z10 p8
noncomputable def s149 : SM := z10 p9
noncomputable def s150 : SM := z10 p10
noncomputable def s151 : SM := z10 p11
noncomputable def s152 : SM := z10 p12
noncomputable def s153 : SM := z10 p13
noncomputable def s154 : SM := z11 p0
noncomputable def s155 : SM := z11 p1
noncomputable def s156 : SM := z11 p2
noncomputable def s157 : SM := z11 p3
noncomputable def s158 : SM := z11 p4
noncomputable def s159 : SM := z11 p5
noncomputable def s160 : SM := z11 p6
noncomputable def s161 : SM := z11 p7
noncomputable def s162 : SM := z11 p8
noncomputable def s163 : SM := z11 p9
noncomputable def s164 : SM := z11 p10
noncomputable def s165 : SM := z11 p11
noncomputable def s166 : SM := z11 p12
noncomputable def s167 : SM := z11 p13
noncomputable def s168 : SM := z12 p0
noncomputable def s169 : SM := z12 p1
noncomputable def s170 : SM := z12 p2
noncomputable def s171 : SM := z12 p3
noncomputable def s172 : SM := z12 p4
noncomputable def s173 : SM := z12 p5
noncomputable def s174 : SM := z12 p6
noncomputable def s175 : SM := z12 p7
noncomputable def s176 : SM := z12 p8
noncomputable def s177 : SM := z12 p9
noncomputable def s178 : SM := z12 p10
noncomputable def s179 : SM := z12 p11
noncomputable def s180 : SM := z12 p12
noncomputable def s181 : SM := z12 p13
noncomputable def s182 : SM := z13 p0
noncomputable def s183 : SM := z13 p1
noncomputable def s184 : SM := z13 p2
noncomputable def s185 : SM := z13 p3
noncomputable def s186 : SM := z13 p4
noncomputable def s187 : SM := z13 p5
noncomputable def s188 : SM := z13 p6
noncomputable def s189 : SM := z13 p7
noncomputable def s190 : SM := z13 p8
noncomputable def s191 : SM := z13 p9
noncomputable def s192 : SM := z13 p10
noncomputable def s193 : SM := z13 p11
noncomputable def s194 : SM := z13 p12
noncomputable def s195 : SM := z13 p13
noncomputable def g0 (e : E2) : AV := e.b0.a0
noncomputable def g1 (e : E2) : AV := e.b0.a1
noncomputable def g2 (e : E2) : AV := e.b0.a2
noncomputable def g3 (e : E2) : AV := e.b0.a3
noncomputable def g4 (e : E2) : AV := e.b0.a4
noncomputable def g5 (e : E2) : AV := e.b0.a5
noncomputable def g6 (e : E2) : AV := e.b0.a6
noncomputable def g7 (e : E2) : AV := e.b0.a7
noncomputable def g8 (e : E2) : AV := e.b0.a8
noncomputable def g9 (e : E2) : AV := e.b0.a9
noncomputable def g10 (e : E2) : AV := e.b0.a10
noncomputable def g11 (e : E2) : AV := e.b0.a11
noncomputable def g12 (e : E2) : AV := e.b0.a12
noncomputable def g13 (e : E2) : AV := e.b0.a13
noncomputable def g14 (e : E2) : AV := e.b1.a0
noncomputable def g15 (e : E2) : AV := e.b1.a1
noncomputable def g16 (e : E2) : AV := e.b1.a2
noncomputable def g17 (e : E2) : AV := e.b1.a3
noncomputable def g18 (e : E2) : AV := e.b1.a4
noncomputable def g19 (e : E2) : AV := e.b1.a5
noncomputable def g20 (e : E2) : AV := e.b1.a6
noncomputable def g21 (e : E2) : AV := e.b1.a7
noncomputable def g22 (e : E2) : AV := e.b1.a8
noncomputable def g23 (e : E2) : AV := e.b1.a9
noncomputable def g24 (e : E2) : AV := e.b1.a10
noncomputable def g25 (e : E2) : AV := e.b1.a11
noncomputable def g26 (e : E2) : AV := e.b1.a12
noncomputable def g27 (e : E2) : AV := e.b1.a13
noncomputable def g28 (e : E2) : AV := e.b2.a0
noncomputable def g29 (e : E2) : AV := e.b2.a1
noncomputable def g30 (e : E2) : AV := e.b2.a2
noncomputable def g31 (e : E2) : AV := e.b2.a3
noncomputable def g32 (e : E2) : AV := e.b2.a4
noncomputable def g33 (e : E2) : AV := e.b2.a5
noncomputable def g34 (e : E2) : AV := e.b2.a6
noncomputable def g35 (e : E2) : AV := e.b2.a7
noncomputable def g36 (e : E2) : AV := e.b2.a8
noncomputable def g37 (e : E2) : AV := e.b2.a9
noncomputable def g38 (e : E2) : AV := e.b2.a10
noncomputable def g39 (e : E2) : AV := e.b2.a11
noncomputable def g40 (e : E2) : AV := e.b2.a12
noncomputable def g41 (e : E2) : AV := e.b2.a13
noncomputable def g42 (e : E2) : AV := e.b3.a0
noncomputable def g43 (e : E2) : AV := e.b3.a1
noncomputable def g44 (e : E2) : AV := e.b3.a2
noncomputable def g45 (e : E2) : AV := e.b3.a3
noncomputable def g46 (e : E2) : AV := e.b3.a4
noncomputable def g47 (e : E2) : AV := e.b3.a5
noncomputable def g48 (e : E2) : AV := e.b3.a6
noncomputable def g49 (e : E2) : AV := e.b3.a7
noncomputable def g50 (e : E2) : AV := e.b3.a8
noncomputable def g51 (e : E2) : AV := e.b3.a9
noncomputable def g52 (e : E2) : AV := e.b3.a10
noncomputable def g53 (e : E2) : AV := e.b3.a11
noncomputable def g54 (e : E2) : AV := e.b3.a12
noncomputable def g55 (e : E2) : AV := e.b3.a13
noncomputable def g56 (e : E2) : AV := e.b4.a0
noncomputable def g57 (e : E2) : AV := e.b4.a1
noncomputable def g58 (e : E2) : AV := e.b4.a2
noncomputable def g59 (e : E2) : AV := e.b4.a3
noncomputable def g60 (e : E2) : AV := e.b4.a4
noncomputable def g61 (e : E2) : AV := e.b4.a5
noncomputable def g62 (e : E2) : AV := e.b4.a6
noncomputable def g63 (e : E2) : AV := e.b4.a7
noncomputable def g64 (e : E2) : AV := e.b4.a8
noncomputable def g65 (e : E2) : AV := e.b4.a9
noncomputable def g66 (e : E2) : AV := e.b4.a10
noncomputable def g67 (e : E2) : AV := e.b4.a11
noncomputable def g68 (e : E2) : AV := e.b4.a12
noncomputable def g69 (e : E2) : AV := e.b4.a13
noncomputable def g70 (e : E2) : AV := e.b5.a0
noncomputable def g71 (e : E2) : AV := e.b5.a1
noncomputable def g72 (e : E2) : AV := e.b5.a2
noncomputable def g73 (e : E2) : AV := e.b5.a3
noncomputable def g74 (e : E2) : AV := e.b5.a4
noncomputable def g75 (e : E2) : AV := e.b5.a5
noncomputable def g76 (e : E2) : AV := e.b5.a6
noncomputable def g77 (e : E2) : AV := e.b5.a7
noncomputable def g78 (e : E2) : AV := e.b5.a8
noncomputable def g79 (e : E2) : AV := e.b5.a9
noncomputable def g80 (e : E2) : AV := e.b5.a10
noncomputable def g81 (e : E2) : AV := e.b5.a11
noncomputable def g82 (e : E2) : AV := e.b5.a12
noncomputable def g83 (e : E2) : AV := e.b5.a13
noncomputable def g84 (e : E2) : AV := e.b6.a0
noncomputable def g85 (e : E2) : AV := e.b6.a1
noncomputable def g86 (e : E2) : AV := e.b6.a2
noncomputable def g87 (e : E2) : AV := e.b6.a3
noncomputable def g88 (e : E2) : AV := e.b6.a4
noncomputable def g89 (e : E2) : AV := e.b6.a5
noncomputable def g90 (e : E2) : AV := e.b6.a6
noncomputable def g91 (e : E2) : AV := e.b6.a7
noncomputable def g92 (e : E2) : AV := e.b6.a8
noncomputable def g93 (e : E2) : AV := e.b6.a9
noncomputable def g94 (e : E2) : AV := e.b6.a10
noncomputable def g95 (e : E2) : AV := e.b6.a11
noncomputable def g96 (e : E2) : AV := e.b6.a12
noncomputable def g97 (e : E2) : AV := e.b6.a13
noncomputable def g98 (e : E2) : AV := e.b7.a0
noncomputable def g99 (e : E2) : AV := e.b7.a1
noncomputable def g100 (e : E2) : AV := e.b7.a2
noncomputable def g101 (e : E2) : AV := e.b7.a3
noncomputable def g102 (e : E2) : AV := e.b7.a4
noncomputable def g103 (e : E2) : AV := e.b7.a5
noncomputable def g104 (e : E2) : AV := e.b7.a6
noncomputable def g105 (e : E2) : AV := e.b7.a7
noncomputable def g106 (e : E2) : AV := e.b7.a8
noncomputable def g107 (e : E2) : AV := e.b7.a9
noncomputable def g108 (e : E2) : AV := e.b7.a10
noncomputable def g109 (e : E2) : AV := e.b7.a11
noncomputable def g110 (e : E2) : AV := e.b7.a12
noncomputable def g111 (e : E2) : AV := e.b7.a13
noncomputable def g112 (e : E2) : AV := e.b8.a0
noncomputable def g113 (e : E2) : AV := e.b8.a1
noncomputable def g114 (e : E2) : AV := e.b8.a2
noncomputable def g115 (e : E2) : AV := e.b8.a3
noncomputable def g116 (e : E2) : AV := e.b8.a4
noncomputable def g117 (e : E2) : AV := e.b8.a5
noncomputable def g118 (e : E2) : AV := e.b8.a6
noncomputable def g119 (e : E2) : AV := e.b8.a7
noncomputable def g120 (e : E2) : AV := e.b8.a8
noncomputable def g121 (e : E2) : AV := e.b8.a9
noncomputable def g122 (e : E2) : AV := e.b8.a10
noncomputable def g123 (e : E2) : AV := e.b8.a11
noncomputable def g124 (e : E2) : AV := e.b8.a12
noncomputable def g125 (e : E2) : AV := e.b8.a13
noncomputable def g126 (e : E2) : AV := e.b9.a0
noncomputable def g127 (e : E2) : AV := e.b9.a1
noncomputable def g128 (e : E2) : AV := e.b9.a2
noncomputable def g129 (e : E2) : AV := e.b9.a3
noncomputable def g130 (e : E2) : AV := e.b9.a4
noncomputable def g131 (e : E2) : AV := e.b9.a5
noncomputable def g132 (e : E2) : AV := e.b9.a6
noncomputable def g133 (e : E2) : AV := e.b9.a7
noncomputable def g134 (e : E2) : AV := e.b9.a8
noncomputable def g135 (e : E2) : AV := e.b9.a9
noncomputable def g136 (e : E2) : AV := e.b9.a10
noncomputable def g137 (e : E2) : AV := e.b9.a11
noncomputable def g138 (e : E2) : AV := e.b9.a12
noncomputable def g139 (e : E2) : AV := e.b9.a13
noncomputable def g140 (e : E2) : AV := e.b10.a0
noncomputable def g141 (e : E2) : AV := e.b10.a1
noncomputable def g142 (e : E2) : AV := e.b10.a2
noncomputable def g143 (e : E2) : AV := e.b10.a3
noncomputable def g144 (e : E2) : AV := e.b10.a4
noncomputable def g145 (e : E2) : AV := e.b10.a5
noncomputable def g146 (e : E2) : AV := e.b10.a6
noncomputable def g147 (e : E2) : AV := e.b10.a7
noncomputable def g148 (e : E2) : AV := e.b10.a8
noncomputable def g149 (e : E2) : AV := e.b10.a9
noncomputable def g150 (e : E2) : AV := e.b10.a10
noncomputable def g151 (e : E2) : AV := e.b10.a11
noncomputable def g152 (e : E2) : AV := e.b10.a12
noncomputable def g153 (e : E2) : AV := e.b10.a13
noncomputable def g154 (e : E2) : AV := e.b11.a0
noncomputable def g155 (e : E2) : AV := e.b11.a1
noncomputable def g156 (e : E2) : AV := e.b11.a2
noncomputable def g157 (e : E2) : AV := e.b11.a3
noncomputable def g158 (e : E2) : AV := e.b11.a4
noncomputable def g159 (e : E2) : AV := e.b11.a5
noncomputable def g160 (e : E2) : AV := e.b11.a6
noncomputable def g161 (e : E2) : AV := e.b11.a7
noncomputable def g162 (e : E2) : AV := e.b11.a8
noncomputable def g163 (e : E2) : AV := e.b11.a9
noncomputable def g164 (e : E2) : AV := e.b11.a10
noncomputable def g165 (e : E2) : AV := e.b11.a11
noncomputable def g166 (e : E2) : AV := e.b11.a12
noncomputable def g167 (e : E2) : AV := e.b11.a13
noncomputable def g168 (e : E2) : AV := e.b12.a0
noncomputable def g169 (e : E2) : AV := e.b12.a1
noncomputable def g170 (e : E2) : AV := e.b12.a2
noncomputable def g171 (e : E2) : AV := e.b12.a3
noncomputable def g172 (e : E2) : AV := e.b12.a4
noncomputable def g173 (e : E2) : AV := e.b12.a5
noncomputable def g174 (e : E2) : AV := e.b12.a6
noncomputable def g175 (e : E2) : AV := e.b12.a7
noncomputable def g176 (e : E2) : AV := e.b12.a8
noncomputable def g177 (e : E2) : AV := e.b12.a9
noncomputable def g178 (e : E2) : AV := e.b12.a10
noncomputable def g179 (e : E2) : AV := e.b12.a11
noncomputable def g180 (e : E2) : AV := e.b12.a12
noncomputable def g181 (e : E2) : AV := e.b12.a13
noncomputable def g182 (e : E2) : AV := e.b13.a0
noncomputable def g183 (e : E2) : AV := e.b13.a1
noncomputable def g184 (e : E2) : AV := e.b13.a2
noncomputable def g185 (e : E2) : AV := e.b13.a3
noncomputable def g186 (e : E2) : AV := e.b13.a4
noncomputable def g187 (e : E2) : AV := e.b13.a5
noncomputable def g188 (e : E2) : AV := e.b13.a6
noncomputable def g189 (e : E2) : AV := e.b13.a7
noncomputable def g190 (e : E2) : AV := e.b13.a8
noncomputable def g191 (e : E2) : AV := e.b13.a9
noncomputable def g192 (e : E2) : AV := e.b13.a10
noncomputable def g193 (e : E2) : AV := e.b13.a11
noncomputable def g194 (e : E2) : AV := e.b13.a12
noncomputable def g195 (e : E2) : AV := e.b13.a13
theorem s5_ok (v : AV) (e : E2) (K : E2 → Res) : s5 v e K = K (eset e 5 v) := rfl
theorem g195_ok (e : E2) : g195 e = eget e 195 := rfl
end Go.Ae
