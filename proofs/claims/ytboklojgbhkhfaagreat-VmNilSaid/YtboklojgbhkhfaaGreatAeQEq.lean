/- Equality of values and objects in closed pieces: where it says yes, the plain one does. Printed by a program. No condition. -/
import Derived.Test.YtboklojgbhkhfaaGreatAeQOq
set_option linter.unusedVariables false
namespace Go.Ae
noncomputable def ab_bool (v : AV) : (Bool → Bool) → Bool := AV.rec (motive_1 := fun _ => (Bool → Bool) → Bool) (motive_2 := fun _ => Unit) (fun x0 K => K x0) (fun _ _ K => false) (fun _ K => false) (fun  K => false) (fun _ _ K => false) (fun  K => false) (fun _ _ _ _ _ K => false) (fun  K => false) (fun _ K => false) (fun  K => false) (fun  K => false) (fun _ _ _ K => false) (fun _ _ _ _ _ K => false) (fun _ _ K => false) (fun _ _ K => false) () (fun _ _ _ _ => ()) v
noncomputable def ab_int (v : AV) : (IntKind → Int → Bool) → Bool := AV.rec (motive_1 := fun _ => (IntKind → Int → Bool) → Bool) (motive_2 := fun _ => Unit) (fun _ K => false) (fun x0 x1 K => K x0 x1) (fun _ K => false) (fun  K => false) (fun _ _ K => false) (fun  K => false) (fun _ _ _ _ _ K => false) (fun  K => false) (fun _ K => false) (fun  K => false) (fun  K => false) (fun _ _ _ K => false) (fun _ _ _ _ _ K => false) (fun _ _ K => false) (fun _ _ K => false) () (fun _ _ _ _ => ()) v
noncomputable def ab_str (v : AV) : (List UInt8 → Bool) → Bool := AV.rec (motive_1 := fun _ => (List UInt8 → Bool) → Bool) (motive_2 := fun _ => Unit) (fun _ K => false) (fun _ _ K => false) (fun x0 K => K x0) (fun  K => false) (fun _ _ K => false) (fun  K => false) (fun _ _ _ _ _ K => false) (fun  K => false) (fun _ K => false) (fun  K => false) (fun  K => false) (fun _ _ _ K => false) (fun _ _ _ _ _ K => false) (fun _ _ K => false) (fun _ _ K => false) () (fun _ _ _ _ => ()) v
noncomputable def ab_ptrN (v : AV) : Bool := AV.rec (motive_1 := fun _ => Bool) (motive_2 := fun _ => Unit) (fun _ => false) (fun _ _ => false) (fun _ => false) true (fun _ _ => false) false (fun _ _ _ _ _ => false) false (fun _ => false) false false (fun _ _ _ => false) (fun _ _ _ _ _ => false) (fun _ _ => false) (fun _ _ => false) () (fun _ _ _ _ => ()) v
noncomputable def ab_ptr (v : AV) : (Nat → Nat → Bool) → Bool := AV.rec (motive_1 := fun _ => (Nat → Nat → Bool) → Bool) (motive_2 := fun _ => Unit) (fun _ K => false) (fun _ _ K => false) (fun _ K => false) (fun  K => false) (fun x0 x1 K => K x0 x1) (fun  K => false) (fun _ _ _ _ _ K => false) (fun  K => false) (fun _ K => false) (fun  K => false) (fun  K => false) (fun _ _ _ K => false) (fun _ _ _ _ _ K => false) (fun _ _ K => false) (fun _ _ K => false) () (fun _ _ _ _ => ()) v
noncomputable def ab_slcN (v : AV) : Bool := AV.rec (motive_1 := fun _ => Bool) (motive_2 := fun _ => Unit) (fun _ => false) (fun _ _ => false) (fun _ => false) false (fun _ _ => false) true (fun _ _ _ _ _ => false) false (fun _ => false) false false (fun _ _ _ => false) (fun _ _ _ _ _ => false) (fun _ _ => false) (fun _ _ => false) () (fun _ _ _ _ => ()) v
noncomputable def ab_slc (v : AV) : (Nat → Nat → Nat → Nat → Nat → Bool) → Bool := AV.rec (motive_1 := fun _ => (Nat → Nat → Nat → Nat → Nat → Bool) → Bool) (motive_2 := fun _ => Unit) (fun _ K => false) (fun _ _ K => false) (fun _ K => false) (fun  K => false) (fun _ _ K => false) (fun  K => false) (fun x0 x1 x2 x3 x4 K => K x0 x1 x2 x3 x4) (fun  K => false) (fun _ K => false) (fun  K => false) (fun  K => false) (fun _ _ _ K => false) (fun _ _ _ _ _ K => false) (fun _ _ K => false) (fun _ _ K => false) () (fun _ _ _ _ => ()) v
noncomputable def ab_mapN (v : AV) : Bool := AV.rec (motive_1 := fun _ => Bool) (motive_2 := fun _ => Unit) (fun _ => false) (fun _ _ => false) (fun _ => false) false (fun _ _ => false) false (fun _ _ _ _ _ => false) true (fun _ => false) false false (fun _ _ _ => false) (fun _ _ _ _ _ => false) (fun _ _ => false) (fun _ _ => false) () (fun _ _ _ _ => ()) v
noncomputable def ab_map (v : AV) : (Nat → Bool) → Bool := AV.rec (motive_1 := fun _ => (Nat → Bool) → Bool) (motive_2 := fun _ => Unit) (fun _ K => false) (fun _ _ K => false) (fun _ K => false) (fun  K => false) (fun _ _ K => false) (fun  K => false) (fun _ _ _ _ _ K => false) (fun  K => false) (fun x0 K => K x0) (fun  K => false) (fun  K => false) (fun _ _ _ K => false) (fun _ _ _ _ _ K => false) (fun _ _ K => false) (fun _ _ K => false) () (fun _ _ _ _ => ()) v
noncomputable def ab_fnN (v : AV) : Bool := AV.rec (motive_1 := fun _ => Bool) (motive_2 := fun _ => Unit) (fun _ => false) (fun _ _ => false) (fun _ => false) false (fun _ _ => false) false (fun _ _ _ _ _ => false) false (fun _ => false) true false (fun _ _ _ => false) (fun _ _ _ _ _ => false) (fun _ _ => false) (fun _ _ => false) () (fun _ _ _ _ => ()) v
noncomputable def ab_ifN (v : AV) : Bool := AV.rec (motive_1 := fun _ => Bool) (motive_2 := fun _ => Unit) (fun _ => false) (fun _ _ => false) (fun _ => false) false (fun _ _ => false) false (fun _ _ _ _ _ => false) false (fun _ => false) false true (fun _ _ _ => false) (fun _ _ _ _ _ => false) (fun _ _ => false) (fun _ _ => false) () (fun _ _ _ _ => ()) v
noncomputable def ab_ifc (v : AV) : (Nat → AV → Bool) → Bool := AV.rec (motive_1 := fun _ => (Nat → AV → Bool) → Bool) (motive_2 := fun _ => Unit) (fun _ K => false) (fun _ _ K => false) (fun _ K => false) (fun  K => false) (fun _ _ K => false) (fun  K => false) (fun _ _ _ _ _ K => false) (fun  K => false) (fun _ K => false) (fun  K => false) (fun  K => false) (fun x0 x1 _ K => K x0 x1) (fun _ _ _ _ _ K => false) (fun _ _ K => false) (fun _ _ K => false) () (fun _ _ _ _ => ()) v
noncomputable def ab_fn (v : AV) : (Fn → List AV → List AV → Bool) → Bool := AV.rec (motive_1 := fun _ => (Fn → List AV → List AV → Bool) → Bool) (motive_2 := fun _ => Unit) (fun _ K => false) (fun _ _ K => false) (fun _ K => false) (fun  K => false) (fun _ _ K => false) (fun  K => false) (fun _ _ _ _ _ K => false) (fun  K => false) (fun _ K => false) (fun  K => false) (fun  K => false) (fun _ _ _ K => false) (fun x0 x1 x2 _ _ K => K x0 x1 x2) (fun _ _ K => false) (fun _ _ K => false) () (fun _ _ _ _ => ()) v
noncomputable def ab_agg (v : AV) : (List AV → Bool) → Bool := AV.rec (motive_1 := fun _ => (List AV → Bool) → Bool) (motive_2 := fun _ => Unit) (fun _ K => false) (fun _ _ K => false) (fun _ K => false) (fun  K => false) (fun _ _ K => false) (fun  K => false) (fun _ _ _ _ _ K => false) (fun  K => false) (fun _ K => false) (fun  K => false) (fun  K => false) (fun _ _ _ K => false) (fun _ _ _ _ _ K => false) (fun x0 _ K => K x0) (fun _ _ K => false) () (fun _ _ _ _ => ()) v
noncomputable def ab_tup (v : AV) : (List AV → Bool) → Bool := AV.rec (motive_1 := fun _ => (List AV → Bool) → Bool) (motive_2 := fun _ => Unit) (fun _ K => false) (fun _ _ K => false) (fun _ K => false) (fun  K => false) (fun _ _ K => false) (fun  K => false) (fun _ _ _ _ _ K => false) (fun  K => false) (fun _ K => false) (fun  K => false) (fun  K => false) (fun _ _ _ K => false) (fun _ _ _ _ _ K => false) (fun _ _ K => false) (fun x0 _ K => K x0) () (fun _ _ _ _ => ()) v
noncomputable def ek_i8 (j : IntKind) : Bool := IntKind.rec (motive := fun _ => Bool) true false false false false false false false j
noncomputable def ek_i16 (j : IntKind) : Bool := IntKind.rec (motive := fun _ => Bool) false true false false false false false false j
noncomputable def ek_i32 (j : IntKind) : Bool := IntKind.rec (motive := fun _ => Bool) false false true false false false false false j
noncomputable def ek_i64 (j : IntKind) : Bool := IntKind.rec (motive := fun _ => Bool) false false false true false false false false j
noncomputable def ek_u8 (j : IntKind) : Bool := IntKind.rec (motive := fun _ => Bool) false false false false true false false false j
noncomputable def ek_u16 (j : IntKind) : Bool := IntKind.rec (motive := fun _ => Bool) false false false false false true false false j
noncomputable def ek_u32 (j : IntKind) : Bool := IntKind.rec (motive := fun _ => Bool) false false false false false false true false j
noncomputable def ek_u64 (j : IntKind) : Bool := IntKind.rec (motive := fun _ => Bool) false false false false false false false true j
noncomputable def ekF (k : IntKind) : IntKind → Bool := IntKind.rec (motive := fun _ => IntKind → Bool) ek_i8 ek_i16 ek_i32 ek_i64 ek_u8 ek_u16 ek_u32 ek_u64 k
theorem ekF_eq (k j : IntKind) : ekF k j = ikBeq k j := by cases k <;> cases j <;> rfl
noncomputable def eiF (x : Int) : Int → Bool := Int.rec (motive := fun _ => Int → Bool) (fun n y => Int.rec (motive := fun _ => Nat → Bool) (fun m n => Nat.beq n m) (fun _ _ => false) y n) (fun n y => Int.rec (motive := fun _ => Nat → Bool) (fun _ _ => false) (fun m n => Nat.beq n m) y n) x
theorem eiF_eq (x y : Int) : eiF x y = intBeq x y := by cases x <;> cases y <;> rfl
noncomputable def ebF (a : Bool) : Bool → Bool := Bool.rec (motive := fun _ => Bool → Bool) (fun b => Bool.rec (motive := fun _ => Bool) true false b) (fun b => b) a
noncomputable def e_int (k : IntKind) (n : Int) (j : IntKind) (m : Int) : Bool := bnd (ekF k j) (eiF n m)
noncomputable def e_2 (a b c d : Nat) : Bool := bnd (Nat.beq a c) (Nat.beq b d)
noncomputable def e_slc (i o b l e j p c m f : Nat) : Bool := bnd (Nat.beq i j) (bnd (Nat.beq o p) (bnd (Nat.beq b c) (bnd (Nat.beq l m) (Nat.beq e f))))
noncomputable def e_ifc (t : Nat) (ih : AV → Bool) (u : Nat) (x : AV) : Bool := bnd (Nat.beq t u) (ih x)
noncomputable def e_fn (f : Fn) (i1 i2 : List AV → Bool) (g : Fn) (c d : List AV) : Bool := bnd (fnBeq f g) (bnd (i1 c) (i2 d))
noncomputable def e_cons (m : List AV) : (AV → Bool) → (List AV → Bool) → Bool := List.rec (motive := fun _ => (AV → Bool) → (List AV → Bool) → Bool) (fun _ _ => false) (fun b m _ i1 i2 => bnd (i1 b) (i2 m)) m
noncomputable def e_nil (m : List AV) : Bool := List.rec (motive := fun _ => Bool) true (fun _ _ _ => false) m
noncomputable def avEqF (v : AV) : AV → Bool := AV.rec (motive_1 := fun _ => AV → Bool) (motive_2 := fun _ => List AV → Bool)
  (fun b w => ab_bool w (ebF b)) (fun k n w => ab_int w (e_int k n)) (fun l w => ab_str w (strEqF l)) ab_ptrN (fun a b w => ab_ptr w (e_2 a b)) ab_slcN (fun i o b l e w => ab_slc w (e_slc i o b l e)) ab_mapN (fun i w => ab_map w (Nat.beq i))
  ab_fnN ab_ifN (fun t _ ih w => ab_ifc w (e_ifc t ih)) (fun f _ _ i1 i2 w => ab_fn w (e_fn f i1 i2)) (fun _ ih w => ab_agg w ih) (fun _ ih w => ab_tup w ih) e_nil (fun _ _ i1 i2 m => e_cons m i1 i2) v
noncomputable def avsEqF (l : List AV) : List AV → Bool := List.rec (motive := fun _ => List AV → Bool) e_nil (fun a _ ih m => e_cons m (avEqF a) ih) l
noncomputable def avsEqR (l : List AV) : List AV → Bool := AV.rec_1 (motive_1 := fun _ => AV → Bool) (motive_2 := fun _ => List AV → Bool)
  (fun b w => ab_bool w (ebF b)) (fun k n w => ab_int w (e_int k n)) (fun l w => ab_str w (strEqF l)) ab_ptrN (fun a b w => ab_ptr w (e_2 a b)) ab_slcN (fun i o b l e w => ab_slc w (e_slc i o b l e)) ab_mapN (fun i w => ab_map w (Nat.beq i))
  ab_fnN ab_ifN (fun t _ ih w => ab_ifc w (e_ifc t ih)) (fun f _ _ i1 i2 w => ab_fn w (e_fn f i1 i2)) (fun _ ih w => ab_agg w ih) (fun _ ih w => ab_tup w ih) e_nil (fun _ _ i1 i2 m => e_cons m i1 i2) l
theorem avsEqR_cons (a : AV) (l m : List AV) : avsEqR (a :: l) m = e_cons m (avEqF a) (avsEqR l) := rfl
mutual
theorem avEqF_ok : ∀ (v w : AV), avEqF v w = true → beq v w = true
  | .bool a, w, h => by cases w <;> first | cases h | (rename_i b; cases a <;> cases b <;> first | rfl | cases h)
  | .int k n, w, h => by
    cases w <;> first | cases h | skip
    rename_i j m
    have h' : bnd (ekF k j) (eiF n m) = true := h
    rw [bnd_eq, ekF_eq, eiF_eq] at h'
    simpa only [beq] using h'
  | .str l, w, h => by
    cases w <;> first | cases h | skip
    rename_i m
    have h' : strEqF l m = true := h
    rw [strEqF_eq] at h'
    simpa only [beq] using h'
  | .ptrN, w, h => by cases w <;> first | (simp only [beq]; done) | cases h
  | .ptr a b, w, h => by
    cases w <;> first | cases h | skip
    rename_i c d
    have h' : bnd (Nat.beq a c) (Nat.beq b d) = true := h
    rw [bnd_eq] at h'
    simpa only [beq] using h'
  | .slcN, w, h => by cases w <;> first | (simp only [beq]; done) | cases h
  | .slc i o b l e, w, h => by
    cases w <;> first | cases h | skip
    rename_i j p c m f
    have h' : bnd (Nat.beq i j) (bnd (Nat.beq o p) (bnd (Nat.beq b c) (bnd (Nat.beq l m) (Nat.beq e f)))) = true := h
    simp only [bnd_eq] at h'
    simpa only [beq] using h'
  | .mapN, w, h => by cases w <;> first | (simp only [beq]; done) | cases h
  | .map i, w, h => by
    cases w <;> first | cases h | skip
    rename_i j
    have h' : Nat.beq i j = true := h
    simpa only [beq] using h'
  | .fnN, w, h => by cases w <;> first | (simp only [beq]; done) | cases h
  | .ifN, w, h => by cases w <;> first | (simp only [beq]; done) | cases h
  | .ifc t v, w, h => by
    cases w <;> first | cases h | skip
    rename_i u x
    have h' : bnd (Nat.beq t u) (avEqF v x) = true := h
    rw [bnd_eq, Bool.and_eq_true] at h'
    simp only [beq, Bool.and_eq_true]
    exact ⟨h'.1, avEqF_ok v x h'.2⟩
  | .fn f a b, w, h => by
    cases w <;> first | cases h | skip
    rename_i g c d
    have h' : bnd (fnBeq f g) (bnd (avsEqR a c) (avsEqR b d)) = true := h
    simp only [bnd_eq, Bool.and_eq_true] at h'
    simp only [beq, Bool.and_eq_true]
    exact ⟨h'.1, avsEqR_ok a c h'.2.1, avsEqR_ok b d h'.2.2⟩
  | .agg a, w, h => by
    cases w <;> first | cases h | skip
    rename_i c
    have h' : avsEqR a c = true := h
    simp only [beq]
    exact avsEqR_ok a c h'
  | .tup a, w, h => by
    cases w <;> first | cases h | skip
    rename_i c
    have h' : avsEqR a c = true := h
    simp only [beq]
    exact avsEqR_ok a c h'
theorem avsEqR_ok : ∀ (l m : List AV), avsEqR l m = true → beqL l m = true
  | [], [], _ => rfl
  | [], _ :: _, h => by cases h
  | _ :: _, [], h => by cases h
  | a :: l, b :: m, h => by
    have h' : bnd (avEqF a b) (avsEqR l m) = true := h
    rw [bnd_eq, Bool.and_eq_true] at h'
    simp only [beqL, avEqF_ok a b h'.1]
    exact avsEqR_ok l m h'.2
end
theorem avsEqF_ok : ∀ (l m : List AV), avsEqF l m = true → beqL l m = true
  | [], [], _ => rfl
  | [], _ :: _, h => by cases h
  | _ :: _, [], h => by cases h
  | a :: l, b :: m, h => by
    have h' : bnd (avEqF a b) (avsEqF l m) = true := h
    rw [bnd_eq, Bool.and_eq_true] at h'
    simp only [beqL, avEqF_ok a b h'.1]
    exact avsEqF_ok l m h'.2
noncomputable def aoCB (o : AO) : (List AV → Bool → Bool) → Bool → Bool := AO.rec (motive := fun _ => (List AV → Bool → Bool) → Bool → Bool) (fun cs op K _ => K cs op) (fun _ _ _ D => D) (fun _ _ _ D => D) (fun _ _ _ _ _ D => D) o
noncomputable def c_cells (cs : List AV) (op : Bool) (ds : List AV) (oq : Bool) : Bool := bnd (ebF op oq) (avsEqF cs ds)
noncomputable def c_ao (b : AO) (D : Bool) (cs : List AV) (op : Bool) : Bool := aoCB b (c_cells cs op) D
noncomputable def c_o2 (a b : AO) : Bool := aoCB a (c_ao b (aoBeq (some a) (some b))) (aoBeq (some a) (some b))
noncomputable def c_o1 (y : Option AO) (a : AO) : Bool := Option.rec (motive := fun _ => AO → Bool) (fun _ => false) (fun b a => c_o2 a b) y a
noncomputable def c_oN (y : Option AO) : Bool := Option.rec (motive := fun _ => Bool) true (fun _ => false) y
noncomputable def aoEqF (x y : Option AO) : Bool := Option.rec (motive := fun _ => Option AO → Bool) c_oN (fun a y => c_o1 y a) x y
theorem ebF_eq (a b : Bool) : ebF a b = boolBeq a b := by cases a <;> cases b <;> rfl
theorem aoEqF_ok : ∀ (x y : Option AO), aoEqF x y = true → aoBeq x y = true
  | none, none, _ => rfl
  | none, some _, h => by cases h
  | some _, none, h => by cases h
  | some a, some b, h => by
    have h' : c_o2 a b = true := h
    cases a <;> cases b <;> first | exact h' | skip
    rename_i cs op ds oq
    have h'' : bnd (ebF op oq) (avsEqF cs ds) = true := h'
    rw [bnd_eq, Bool.and_eq_true, ebF_eq] at h''
    simp only [aoBeq, h''.1]
    exact avsEqF_ok cs ds h''.2
end Go.Ae
