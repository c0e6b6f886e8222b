/- Ways to take a value, a number, a list, a store apart whose branches are closed terms, so that the kernel takes few steps; and what each is. Printed by a program. No condition. -/
import Derived.Test.YtboklojgbhkhfaaGreatAeQEnv
set_option linter.unusedVariables false
namespace Go.Ae
abbrev VK := AV → Tr AO → Res
noncomputable def bres (b : Bool) : Res → Res → Res := Bool.rec (motive := fun _ => Res → Res → Res) (fun _ y => y) (fun x _ => x) b
theorem bres_t (x y : Res) : bres true x y = x := rfl
theorem bres_f (x y : Res) : bres false x y = y := rfl
noncomputable def forceNR (n : Nat) : (Nat → Res) → Res := Nat.rec (motive := fun _ => (Nat → Res) → Res) (fun K => K 0) (fun m _ K => K (Nat.succ m)) n
theorem forceNR_eq (n : Nat) (K : Nat → Res) : forceNR n K = K n := by cases n <;> rfl
noncomputable def boolR (b : Bool) : VK → Tr AO → Res := Bool.rec (motive := fun _ => VK → Tr AO → Res) (fun K h => K (.bool false) h) (fun K h => K (.bool true) h) b
theorem boolR_eq (b : Bool) (K : VK) (h : Tr AO) : boolR b K h = K (.bool b) h := by cases b <;> rfl
noncomputable def boolN (b : Bool) : VK → Tr AO → Res := Bool.rec (motive := fun _ => VK → Tr AO → Res) (fun K h => K (.bool true) h) (fun K h => K (.bool false) h) b
theorem boolN_eq (b : Bool) (K : VK) (h : Tr AO) : boolN b K h = K (.bool (!b)) h := by cases b <;> rfl
noncomputable def intNN (x : Int) : (Nat → Res) → Res → Res := Int.rec (motive := fun _ => (Nat → Res) → Res → Res) (fun n K _ => K n) (fun _ _ D => D) x
noncomputable def avInt (v : AV) : (IntKind → Int → Res) → Res → Res := AV.rec (motive_1 := fun _ => (IntKind → Int → Res) → Res → Res) (motive_2 := fun _ => Unit) (fun _ a0 a1 => a1) (fun k n K _ => K k n) (fun _ a0 a1 => a1) (fun a0 a1 => a1) (fun _ _ a0 a1 => a1) (fun a0 a1 => a1) (fun _ _ _ _ _ a0 a1 => a1) (fun a0 a1 => a1) (fun _ a0 a1 => a1) (fun a0 a1 => a1) (fun a0 a1 => a1) (fun _ _ _ a0 a1 => a1) (fun _ _ _ _ _ a0 a1 => a1) (fun _ _ a0 a1 => a1) (fun _ _ a0 a1 => a1) () (fun _ _ _ _ => ()) v
noncomputable def onk_i8 (K : Nat → Res) (D : Res) (k : IntKind) (n : Int) : Res := IntKind.rec (motive := fun _ => Int → (Nat → Res) → Res → Res) intNN (fun _ _ D => D) (fun _ _ D => D) (fun _ _ D => D) (fun _ _ D => D) (fun _ _ D => D) (fun _ _ D => D) (fun _ _ D => D) k n K D
noncomputable def on_i8 (v : AV) (K : Nat → Res) (D : Res) : Res := avInt v (onk_i8 K D) D
noncomputable def onk_i16 (K : Nat → Res) (D : Res) (k : IntKind) (n : Int) : Res := IntKind.rec (motive := fun _ => Int → (Nat → Res) → Res → Res) (fun _ _ D => D) intNN (fun _ _ D => D) (fun _ _ D => D) (fun _ _ D => D) (fun _ _ D => D) (fun _ _ D => D) (fun _ _ D => D) k n K D
noncomputable def on_i16 (v : AV) (K : Nat → Res) (D : Res) : Res := avInt v (onk_i16 K D) D
noncomputable def onk_i32 (K : Nat → Res) (D : Res) (k : IntKind) (n : Int) : Res := IntKind.rec (motive := fun _ => Int → (Nat → Res) → Res → Res) (fun _ _ D => D) (fun _ _ D => D) intNN (fun _ _ D => D) (fun _ _ D => D) (fun _ _ D => D) (fun _ _ D => D) (fun _ _ D => D) k n K D
noncomputable def on_i32 (v : AV) (K : Nat → Res) (D : Res) : Res := avInt v (onk_i32 K D) D
noncomputable def onk_i64 (K : Nat → Res) (D : Res) (k : IntKind) (n : Int) : Res := IntKind.rec (motive := fun _ => Int → (Nat → Res) → Res → Res) (fun _ _ D => D) (fun _ _ D => D) (fun _ _ D => D) intNN (fun _ _ D => D) (fun _ _ D => D) (fun _ _ D => D) (fun _ _ D => D) k n K D
noncomputable def on_i64 (v : AV) (K : Nat → Res) (D : Res) : Res := avInt v (onk_i64 K D) D
noncomputable def onk_u8 (K : Nat → Res) (D : Res) (k : IntKind) (n : Int) : Res := IntKind.rec (motive := fun _ => Int → (Nat → Res) → Res → Res) (fun _ _ D => D) (fun _ _ D => D) (fun _ _ D => D) (fun _ _ D => D) intNN (fun _ _ D => D) (fun _ _ D => D) (fun _ _ D => D) k n K D
noncomputable def on_u8 (v : AV) (K : Nat → Res) (D : Res) : Res := avInt v (onk_u8 K D) D
noncomputable def onk_u16 (K : Nat → Res) (D : Res) (k : IntKind) (n : Int) : Res := IntKind.rec (motive := fun _ => Int → (Nat → Res) → Res → Res) (fun _ _ D => D) (fun _ _ D => D) (fun _ _ D => D) (fun _ _ D => D) (fun _ _ D => D) intNN (fun _ _ D => D) (fun _ _ D => D) k n K D
noncomputable def on_u16 (v : AV) (K : Nat → Res) (D : Res) : Res := avInt v (onk_u16 K D) D
noncomputable def onk_u32 (K : Nat → Res) (D : Res) (k : IntKind) (n : Int) : Res := IntKind.rec (motive := fun _ => Int → (Nat → Res) → Res → Res) (fun _ _ D => D) (fun _ _ D => D) (fun _ _ D => D) (fun _ _ D => D) (fun _ _ D => D) (fun _ _ D => D) intNN (fun _ _ D => D) k n K D
noncomputable def on_u32 (v : AV) (K : Nat → Res) (D : Res) : Res := avInt v (onk_u32 K D) D
noncomputable def onk_u64 (K : Nat → Res) (D : Res) (k : IntKind) (n : Int) : Res := IntKind.rec (motive := fun _ => Int → (Nat → Res) → Res → Res) (fun _ _ D => D) (fun _ _ D => D) (fun _ _ D => D) (fun _ _ D => D) (fun _ _ D => D) (fun _ _ D => D) (fun _ _ D => D) intNN k n K D
noncomputable def on_u64 (v : AV) (K : Nat → Res) (D : Res) : Res := avInt v (onk_u64 K D) D
noncomputable def onk_any (K : Nat → Res) (D : Res) (_ : IntKind) (n : Int) : Res := intNN n K D
noncomputable def on_any (v : AV) (K : Nat → Res) (D : Res) : Res := avInt v (onk_any K D) D
abbrev ONT := AV → (Nat → Res) → Res → Res
def ONok (k : IntKind) (ON : ONT) : Prop := ∀ v K D, ON v K D = D ∨ ∃ n, v = .int k (.ofNat n) ∧ ON v K D = K n
theorem on_i8_ok : ONok .i8 on_i8 := by
  intro v K D
  cases v
  case int k n => cases k <;> cases n <;> first | exact .inr ⟨_, rfl, rfl⟩ | exact .inl rfl
  all_goals exact .inl rfl
theorem on_i16_ok : ONok .i16 on_i16 := by
  intro v K D
  cases v
  case int k n => cases k <;> cases n <;> first | exact .inr ⟨_, rfl, rfl⟩ | exact .inl rfl
  all_goals exact .inl rfl
theorem on_i32_ok : ONok .i32 on_i32 := by
  intro v K D
  cases v
  case int k n => cases k <;> cases n <;> first | exact .inr ⟨_, rfl, rfl⟩ | exact .inl rfl
  all_goals exact .inl rfl
theorem on_i64_ok : ONok .i64 on_i64 := by
  intro v K D
  cases v
  case int k n => cases k <;> cases n <;> first | exact .inr ⟨_, rfl, rfl⟩ | exact .inl rfl
  all_goals exact .inl rfl
theorem on_u8_ok : ONok .u8 on_u8 := by
  intro v K D
  cases v
  case int k n => cases k <;> cases n <;> first | exact .inr ⟨_, rfl, rfl⟩ | exact .inl rfl
  all_goals exact .inl rfl
theorem on_u16_ok : ONok .u16 on_u16 := by
  intro v K D
  cases v
  case int k n => cases k <;> cases n <;> first | exact .inr ⟨_, rfl, rfl⟩ | exact .inl rfl
  all_goals exact .inl rfl
theorem on_u32_ok : ONok .u32 on_u32 := by
  intro v K D
  cases v
  case int k n => cases k <;> cases n <;> first | exact .inr ⟨_, rfl, rfl⟩ | exact .inl rfl
  all_goals exact .inl rfl
theorem on_u64_ok : ONok .u64 on_u64 := by
  intro v K D
  cases v
  case int k n => cases k <;> cases n <;> first | exact .inr ⟨_, rfl, rfl⟩ | exact .inl rfl
  all_goals exact .inl rfl
theorem on_any_ok (v : AV) (K : Nat → Res) (D : Res) : on_any v K D = D ∨ ∃ k n, v = .int k (.ofNat n) ∧ on_any v K D = K n := by
  cases v
  case int k n => cases n <;> first | exact .inr ⟨_, _, rfl, rfl⟩ | exact .inl rfl
  all_goals exact .inl rfl
noncomputable def onOf (k : IntKind) : ONT := match k with
  | .i8 => on_i8
  | .i16 => on_i16
  | .i32 => on_i32
  | .i64 => on_i64
  | .u8 => on_u8
  | .u16 => on_u16
  | .u32 => on_u32
  | .u64 => on_u64
theorem onOf_ok (k : IntKind) : ONok k (onOf k) := by cases k <;> first | exact on_i8_ok | exact on_i16_ok | exact on_i32_ok | exact on_i64_ok | exact on_u8_ok | exact on_u16_ok | exact on_u32_ok | exact on_u64_ok
noncomputable def avBool (v : AV) : (Bool → Res) → Res → Res := AV.rec (motive_1 := fun _ => (Bool → Res) → Res → Res) (motive_2 := fun _ => Unit) (fun x0 K _ => K x0) (fun _ _ a0 a1 => a1) (fun _ a0 a1 => a1) (fun a0 a1 => a1) (fun _ _ a0 a1 => a1) (fun a0 a1 => a1) (fun _ _ _ _ _ a0 a1 => a1) (fun a0 a1 => a1) (fun _ a0 a1 => a1) (fun a0 a1 => a1) (fun a0 a1 => a1) (fun _ _ _ a0 a1 => a1) (fun _ _ _ _ _ a0 a1 => a1) (fun _ _ a0 a1 => a1) (fun _ _ a0 a1 => a1) () (fun _ _ _ _ => ()) v
theorem avBool_ok (v : AV) (K : Bool → Res) (D : Res) : avBool v K D = D ∨ ∃ x0, v = .bool x0 ∧ avBool v K D = K x0 := by
  cases v <;> first | exact .inr ⟨_,  rfl, rfl⟩ | exact .inl rfl
noncomputable def avStr (v : AV) : (List UInt8 → Res) → Res → Res := AV.rec (motive_1 := fun _ => (List UInt8 → Res) → Res → Res) (motive_2 := fun _ => Unit) (fun _ a0 a1 => a1) (fun _ _ a0 a1 => a1) (fun x0 K _ => K x0) (fun a0 a1 => a1) (fun _ _ a0 a1 => a1) (fun a0 a1 => a1) (fun _ _ _ _ _ a0 a1 => a1) (fun a0 a1 => a1) (fun _ a0 a1 => a1) (fun a0 a1 => a1) (fun a0 a1 => a1) (fun _ _ _ a0 a1 => a1) (fun _ _ _ _ _ a0 a1 => a1) (fun _ _ a0 a1 => a1) (fun _ _ a0 a1 => a1) () (fun _ _ _ _ => ()) v
theorem avStr_ok (v : AV) (K : List UInt8 → Res) (D : Res) : avStr v K D = D ∨ ∃ x0, v = .str x0 ∧ avStr v K D = K x0 := by
  cases v <;> first | exact .inr ⟨_,  rfl, rfl⟩ | exact .inl rfl
noncomputable def avPtr (v : AV) : (Nat → Nat → Res) → Res → Res := AV.rec (motive_1 := fun _ => (Nat → Nat → Res) → Res → Res) (motive_2 := fun _ => Unit) (fun _ a0 a1 => a1) (fun _ _ a0 a1 => a1) (fun _ a0 a1 => a1) (fun a0 a1 => a1) (fun x0 x1 K _ => K x0 x1) (fun a0 a1 => a1) (fun _ _ _ _ _ a0 a1 => a1) (fun a0 a1 => a1) (fun _ a0 a1 => a1) (fun a0 a1 => a1) (fun a0 a1 => a1) (fun _ _ _ a0 a1 => a1) (fun _ _ _ _ _ a0 a1 => a1) (fun _ _ a0 a1 => a1) (fun _ _ a0 a1 => a1) () (fun _ _ _ _ => ()) v
theorem avPtr_ok (v : AV) (K : Nat → Nat → Res) (D : Res) : avPtr v K D = D ∨ ∃ x0 x1, v = .ptr x0 x1 ∧ avPtr v K D = K x0 x1 := by
  cases v <;> first | exact .inr ⟨_, _,  rfl, rfl⟩ | exact .inl rfl
noncomputable def avSlc (v : AV) : (Nat → Nat → Nat → Nat → Nat → Res) → Res → Res := AV.rec (motive_1 := fun _ => (Nat → Nat → Nat → Nat → Nat → Res) → Res → Res) (motive_2 := fun _ => Unit) (fun _ a0 a1 => a1) (fun _ _ a0 a1 => a1) (fun _ a0 a1 => a1) (fun a0 a1 => a1) (fun _ _ a0 a1 => a1) (fun a0 a1 => a1) (fun x0 x1 x2 x3 x4 K _ => K x0 x1 x2 x3 x4) (fun a0 a1 => a1) (fun _ a0 a1 => a1) (fun a0 a1 => a1) (fun a0 a1 => a1) (fun _ _ _ a0 a1 => a1) (fun _ _ _ _ _ a0 a1 => a1) (fun _ _ a0 a1 => a1) (fun _ _ a0 a1 => a1) () (fun _ _ _ _ => ()) v
theorem avSlc_ok (v : AV) (K : Nat → Nat → Nat → Nat → Nat → Res) (D : Res) : avSlc v K D = D ∨ ∃ x0 x1 x2 x3 x4, v = .slc x0 x1 x2 x3 x4 ∧ avSlc v K D = K x0 x1 x2 x3 x4 := by
  cases v <;> first | exact .inr ⟨_, _, _, _, _,  rfl, rfl⟩ | exact .inl rfl
noncomputable def avMap (v : AV) : (Nat → Res) → Res → Res := AV.rec (motive_1 := fun _ => (Nat → Res) → Res → Res) (motive_2 := fun _ => Unit) (fun _ a0 a1 => a1) (fun _ _ a0 a1 => a1) (fun _ a0 a1 => a1) (fun a0 a1 => a1) (fun _ _ a0 a1 => a1) (fun a0 a1 => a1) (fun _ _ _ _ _ a0 a1 => a1) (fun a0 a1 => a1) (fun x0 K _ => K x0) (fun a0 a1 => a1) (fun a0 a1 => a1) (fun _ _ _ a0 a1 => a1) (fun _ _ _ _ _ a0 a1 => a1) (fun _ _ a0 a1 => a1) (fun _ _ a0 a1 => a1) () (fun _ _ _ _ => ()) v
theorem avMap_ok (v : AV) (K : Nat → Res) (D : Res) : avMap v K D = D ∨ ∃ x0, v = .map x0 ∧ avMap v K D = K x0 := by
  cases v <;> first | exact .inr ⟨_,  rfl, rfl⟩ | exact .inl rfl
noncomputable def avTup (v : AV) : (List AV → Res) → Res → Res := AV.rec (motive_1 := fun _ => (List AV → Res) → Res → Res) (motive_2 := fun _ => Unit) (fun _ a0 a1 => a1) (fun _ _ a0 a1 => a1) (fun _ a0 a1 => a1) (fun a0 a1 => a1) (fun _ _ a0 a1 => a1) (fun a0 a1 => a1) (fun _ _ _ _ _ a0 a1 => a1) (fun a0 a1 => a1) (fun _ a0 a1 => a1) (fun a0 a1 => a1) (fun a0 a1 => a1) (fun _ _ _ a0 a1 => a1) (fun _ _ _ _ _ a0 a1 => a1) (fun _ _ a0 a1 => a1) (fun x0 _ K _ => K x0) () (fun _ _ _ _ => ()) v
theorem avTup_ok (v : AV) (K : List AV → Res) (D : Res) : avTup v K D = D ∨ ∃ x0, v = .tup x0 ∧ avTup v K D = K x0 := by
  cases v <;> first | exact .inr ⟨_,  rfl, rfl⟩ | exact .inl rfl
noncomputable def avAgg (v : AV) : (List AV → Res) → Res → Res := AV.rec (motive_1 := fun _ => (List AV → Res) → Res → Res) (motive_2 := fun _ => Unit) (fun _ a0 a1 => a1) (fun _ _ a0 a1 => a1) (fun _ a0 a1 => a1) (fun a0 a1 => a1) (fun _ _ a0 a1 => a1) (fun a0 a1 => a1) (fun _ _ _ _ _ a0 a1 => a1) (fun a0 a1 => a1) (fun _ a0 a1 => a1) (fun a0 a1 => a1) (fun a0 a1 => a1) (fun _ _ _ a0 a1 => a1) (fun _ _ _ _ _ a0 a1 => a1) (fun x0 _ K _ => K x0) (fun _ _ a0 a1 => a1) () (fun _ _ _ _ => ()) v
theorem avAgg_ok (v : AV) (K : List AV → Res) (D : Res) : avAgg v K D = D ∨ ∃ x0, v = .agg x0 ∧ avAgg v K D = K x0 := by
  cases v <;> first | exact .inr ⟨_,  rfl, rfl⟩ | exact .inl rfl
noncomputable def avSlcN (v : AV) : Res → Res → Res := AV.rec (motive_1 := fun _ => Res → Res → Res) (motive_2 := fun _ => Unit) (fun _ a0 a1 => a1) (fun _ _ a0 a1 => a1) (fun _ a0 a1 => a1) (fun a0 a1 => a1) (fun _ _ a0 a1 => a1) (fun K _ => K) (fun _ _ _ _ _ a0 a1 => a1) (fun a0 a1 => a1) (fun _ a0 a1 => a1) (fun a0 a1 => a1) (fun a0 a1 => a1) (fun _ _ _ a0 a1 => a1) (fun _ _ _ _ _ a0 a1 => a1) (fun _ _ a0 a1 => a1) (fun _ _ a0 a1 => a1) () (fun _ _ _ _ => ()) v
theorem avSlcN_ok (v : AV) (K D : Res) : avSlcN v K D = D ∨ (v = .slcN ∧ avSlcN v K D = K) := by
  cases v <;> first | exact .inr ⟨rfl, rfl⟩ | exact .inl rfl
noncomputable def avOne (v : AV) : Res → Res → Res := AV.rec (motive_1 := fun _ => Res → Res → Res) (motive_2 := fun _ => Unit) (fun _ a0 a1 => a0) (fun _ _ a0 a1 => a0) (fun _ a0 a1 => a0) (fun a0 a1 => a0) (fun _ _ a0 a1 => a0) (fun a0 a1 => a0) (fun _ _ _ _ _ a0 a1 => a0) (fun a0 a1 => a0) (fun _ a0 a1 => a0) (fun a0 a1 => a0) (fun a0 a1 => a0) (fun _ _ _ a0 a1 => a0) (fun _ _ _ _ _ a0 a1 => a0) (fun _ _ _ D => D) (fun _ _ _ D => D) () (fun _ _ _ _ => ()) v
theorem avOne_ok (v : AV) (K D : Res) : avOne v K D = D ∨ (one v = true ∧ cellsOf v = [v] ∧ avOne v K D = K) := by
  cases v <;> first | exact .inr ⟨rfl, rfl, rfl⟩ | exact .inl rfl
noncomputable def avOneB (v : AV) : Bool := AV.rec (motive_1 := fun _ => Bool) (motive_2 := fun _ => Unit) (fun _ => true) (fun _ _ => true) (fun _ => true) (true) (fun _ _ => true) (true) (fun _ _ _ _ _ => true) (true) (fun _ => true) (true) (true) (fun _ _ _ => true) (fun _ _ _ _ _ => true) (fun _ _ => false) (fun _ _ => false) () (fun _ _ _ _ => ()) v
theorem avOneB_eq (v : AV) : avOneB v = one v := by cases v <;> rfl
noncomputable def bnd (a : Bool) : Bool → Bool := Bool.rec (motive := fun _ => Bool → Bool) (fun _ => false) (fun b => b) a
theorem bnd_eq (a b : Bool) : bnd a b = (a && b) := by cases a <;> rfl
noncomputable def allOneF (l : List AV) : Bool := List.rec (motive := fun _ => Bool) true (fun v _ ih => bnd (avOneB v) ih) l
theorem allOneF_eq : ∀ l, allOneF l = allOne l
  | [] => rfl
  | v :: l => by
    show bnd (avOneB v) (allOneF l) = _
    rw [bnd_eq, avOneB_eq, allOneF_eq l, allOne]
    cases one v <;> rfl
noncomputable def lenF {α : Type} (l : List α) : Nat := List.rec (motive := fun _ => Nat → Nat) (fun n => n) (fun _ _ ih n => ih (Nat.succ n)) l 0
theorem lenF_add {α : Type} : ∀ (l : List α) (n : Nat), List.rec (motive := fun _ => Nat → Nat) (fun n => n) (fun _ _ ih n => ih (Nat.succ n)) l n = l.length + n
  | [], n => by simp
  | a :: l, n => by
    show List.rec (motive := fun _ => Nat → Nat) (fun n => n) (fun _ _ ih n => ih (Nat.succ n)) l (Nat.succ n) = _
    rw [lenF_add l (Nat.succ n), List.length_cons]; omega
theorem lenF_eq {α : Type} (l : List α) : lenF l = l.length := by unfold lenF; rw [lenF_add]; rfl
/- lists -/
noncomputable def getK (l : List AV) : Nat → (AV → Res) → Res := List.rec (motive := fun _ => Nat → (AV → Res) → Res) (fun _ _ => .bad)
  (fun a _ ih n K => Nat.rec (motive := fun _ => AV → (Nat → (AV → Res) → Res) → (AV → Res) → Res) (fun a _ K => K a) (fun n _ _ ih K => ih n K) n a ih K) l
theorem getK_ok : ∀ (l : List AV) (n : Nat) (K : AV → Res), getK l n K = .bad ∨ ∃ v, getN l n = some v ∧ getK l n K = K v
  | [], _, _ => .inl rfl
  | a :: _, 0, _ => .inr ⟨a, rfl, rfl⟩
  | _ :: l, n + 1, K => getK_ok l n K
noncomputable def getBK (l : List UInt8) : Nat → (UInt8 → Res) → Res := List.rec (motive := fun _ => Nat → (UInt8 → Res) → Res) (fun _ _ => .bad)
  (fun a _ ih n K => Nat.rec (motive := fun _ => UInt8 → (Nat → (UInt8 → Res) → Res) → (UInt8 → Res) → Res) (fun a _ K => K a) (fun n _ _ ih K => ih n K) n a ih K) l
theorem getBK_ok : ∀ (l : List UInt8) (n : Nat) (K : UInt8 → Res), getBK l n K = .bad ∨ ∃ v, getB l n = some v ∧ getBK l n K = K v
  | [], _, _ => .inl rfl
  | a :: _, 0, _ => .inr ⟨a, rfl, rfl⟩
  | _ :: l, n + 1, K => getBK_ok l n K
noncomputable def consK {α : Type} (a : α) (K : List α → Res) (l : List α) : Res := K (a :: l)
/-- Some first members; too few: bad. -/
noncomputable def tkK (l : List AV) : Nat → (List AV → Res) → Res := List.rec (motive := fun _ => Nat → (List AV → Res) → Res)
  (fun n K => Nat.rec (motive := fun _ => (List AV → Res) → Res) (fun K => K []) (fun _ _ _ => .bad) n K)
  (fun a _ ih n K => Nat.rec (motive := fun _ => AV → (Nat → (List AV → Res) → Res) → (List AV → Res) → Res) (fun _ _ K => K []) (fun n _ a ih K => ih n (consK a K)) n a ih K) l
noncomputable def segK (l : List AV) : Nat → Nat → (List AV → Res) → Res := List.rec (motive := fun _ => Nat → Nat → (List AV → Res) → Res)
  (fun k n K => Nat.rec (motive := fun _ => Nat → (List AV → Res) → Res) (fun n K => tkK [] n K) (fun _ _ _ _ => .bad) k n K)
  (fun a l ih k n K => Nat.rec (motive := fun _ => List AV → AV → (Nat → Nat → (List AV → Res) → Res) → Nat → (List AV → Res) → Res) (fun l a _ n K => tkK (a :: l) n K) (fun k _ _ _ ih n K => ih k n K) k l a ih n K) l
theorem tkK_ok : ∀ (l : List AV) (n : Nat) (K : List AV → Res), tkK l n K = .bad ∨ ∃ v, seg l 0 n = some v ∧ tkK l n K = K v
  | [], 0, _ => .inr ⟨[], rfl, rfl⟩
  | [], _ + 1, _ => .inl rfl
  | _ :: _, 0, _ => .inr ⟨[], by simp [seg], rfl⟩
  | a :: l, n + 1, K => by
    rcases tkK_ok l n (consK a K) with h | ⟨v, h1, h2⟩
    · exact .inl h
    · exact .inr ⟨a :: v, by simp only [seg, h1], h2⟩
theorem segK_ok : ∀ (l : List AV) (k n : Nat) (K : List AV → Res), segK l k n K = .bad ∨ ∃ v, seg l k n = some v ∧ segK l k n K = K v
  | [], 0, n, K => tkK_ok [] n K
  | [], _ + 1, _, _ => .inl rfl
  | a :: l, 0, n, K => tkK_ok (a :: l) n K
  | a :: l, k + 1, n, K => by
    rcases segK_ok l k n K with h | ⟨v, h1, h2⟩
    · exact .inl h
    · exact .inr ⟨v, by simp only [seg, h1], h2⟩
/-- vs laid over a list's head. -/
noncomputable def ovHK (vs : List AV) : List AV → (List AV → Res) → Res := List.rec (motive := fun _ => List AV → (List AV → Res) → Res) (fun l K => K l)
  (fun v _ ih l K => List.rec (motive := fun _ => AV → (List AV → (List AV → Res) → Res) → (List AV → Res) → Res) (fun _ _ _ => .bad) (fun _ l _ v ih K => ih l (consK v K)) l v ih K) vs
theorem ovHK_ok : ∀ (vs l : List AV) (K : List AV → Res), ovHK vs l K = .bad ∨ ∃ r, over l 0 vs = some r ∧ ovHK vs l K = K r
  | [], l, K => .inr ⟨l, by cases l <;> rfl, rfl⟩
  | _ :: _, [], _ => .inl rfl
  | v :: vs, a :: l, K => by
    rcases ovHK_ok vs l (consK v K) with h | ⟨r, h1, h2⟩
    · exact .inl h
    · exact .inr ⟨v :: r, by simp only [over, h1], h2⟩
noncomputable def ovK (l : List AV) : Nat → List AV → (List AV → Res) → Res := List.rec (motive := fun _ => Nat → List AV → (List AV → Res) → Res)
  (fun k vs K => Nat.rec (motive := fun _ => List AV → (List AV → Res) → Res) (fun vs K => ovHK vs [] K) (fun _ _ _ _ => .bad) k vs K)
  (fun a l ih k vs K => Nat.rec (motive := fun _ => List AV → AV → (Nat → List AV → (List AV → Res) → Res) → List AV → (List AV → Res) → Res) (fun l a _ vs K => ovHK vs (a :: l) K) (fun k _ _ a ih vs K => ih k vs (consK a K)) k l a ih vs K) l
theorem ovK_ok : ∀ (l : List AV) (k : Nat) (vs : List AV) (K : List AV → Res), ovK l k vs K = .bad ∨ ∃ r, over l k vs = some r ∧ ovK l k vs K = K r
  | [], 0, vs, K => ovHK_ok vs [] K
  | [], _ + 1, _, _ => .inl rfl
  | a :: l, 0, vs, K => ovHK_ok vs (a :: l) K
  | a :: l, k + 1, vs, K => by
    rcases ovK_ok l k vs (consK a K) with h | ⟨r, h1, h2⟩
    · exact .inl h
    · exact .inr ⟨a :: r, by cases vs <;> first | exact absurd rfl (by assumption) | simp only [over] at h1 ⊢ <;> simp_all, h2⟩
noncomputable def apK {α : Type} (l : List α) : List α → (List α → Res) → Res := List.rec (motive := fun _ => List α → (List α → Res) → Res) (fun m K => K m) (fun a _ ih m K => ih m (consK a K)) l
theorem apK_eq {α : Type} : ∀ (l m : List α) (K : List α → Res), apK l m K = K (l ++ m)
  | [], _, _ => rfl
  | a :: l, m, K => by
    show apK l m (consK a K) = _
    rw [apK_eq l m]; rfl
noncomputable def dpK (l : List UInt8) : Nat → (List UInt8 → Res) → Res := List.rec (motive := fun _ => Nat → (List UInt8 → Res) → Res) (fun _ K => K [])
  (fun a l ih n K => Nat.rec (motive := fun _ => UInt8 → List UInt8 → (Nat → (List UInt8 → Res) → Res) → (List UInt8 → Res) → Res) (fun a l _ K => K (a :: l)) (fun n _ _ _ ih K => ih n K) n a l ih K) l
theorem dpK_eq : ∀ (l : List UInt8) (n : Nat) (K : List UInt8 → Res), dpK l n K = K (l.drop n)
  | [], n, K => by simp; rfl
  | _ :: _, 0, _ => rfl
  | _ :: l, n + 1, K => dpK_eq l n K
noncomputable def tbK (l : List UInt8) : Nat → (List UInt8 → Res) → Res := List.rec (motive := fun _ => Nat → (List UInt8 → Res) → Res) (fun _ K => K [])
  (fun a _ ih n K => Nat.rec (motive := fun _ => UInt8 → (Nat → (List UInt8 → Res) → Res) → (List UInt8 → Res) → Res) (fun _ _ K => K []) (fun n _ a ih K => ih n (consK a K)) n a ih K) l
theorem tbK_eq : ∀ (l : List UInt8) (n : Nat) (K : List UInt8 → Res), tbK l n K = K (l.take n)
  | [], n, K => by simp; rfl
  | _ :: _, 0, _ => rfl
  | a :: l, n + 1, K => by
    show tbK l n (consK a K) = _
    rw [tbK_eq l n]; rfl
noncomputable def strEqF (l : List UInt8) : List UInt8 → Bool := List.rec (motive := fun _ => List UInt8 → Bool) (fun m => List.rec (motive := fun _ => Bool) true (fun _ _ _ => false) m)
  (fun a _ ih m => List.rec (motive := fun _ => UInt8 → (List UInt8 → Bool) → Bool) (fun _ _ => false) (fun b m _ a ih => bnd (Nat.beq a.toNat b.toNat) (ih m)) m a ih) l
theorem strEqF_eq : ∀ (l m : List UInt8), strEqF l m = strBeq l m
  | [], [] => rfl
  | [], _ :: _ => rfl
  | _ :: _, [] => rfl
  | a :: l, b :: m => by
    show bnd (Nat.beq a.toNat b.toNat) (strEqF l m) = _
    rw [bnd_eq, strEqF_eq l m, strBeq]
    cases Nat.beq a.toNat b.toNat <;> rfl
/- the store -/
noncomputable def oAO (o : Option AO) : (AO → Res) → Res := Option.rec (motive := fun _ => (AO → Res) → Res) (fun _ => .bad) (fun o K => K o) o
noncomputable def trG (t : Tr AO) : Nat → (AO → Res) → Res := Tr.rec (motive := fun _ => Nat → (AO → Res) → Res) (fun _ _ => .bad)
  (fun _ v _ a b k K => bres (Nat.beq k 0) (oAO v K) (bres (Nat.beq (Nat.mod k 2) 1) (a (Nat.div k 2) K) (b (Nat.sub (Nat.div k 2) 1) K))) t
theorem trG_ok : ∀ (t : Tr AO) (k : Nat) (K : AO → Res), trG t k K = .bad ∨ ∃ o, t.get k = some o ∧ trG t k K = K o
  | .lf, _, _ => .inl rfl
  | .nd l v r, k, K => by
    show bres (Nat.beq k 0) (oAO v K) (bres (Nat.beq (Nat.mod k 2) 1) (trG l (Nat.div k 2) K) (trG r (Nat.sub (Nat.div k 2) 1) K)) = _ ∨ ∃ o, _ ∧ bres (Nat.beq k 0) (oAO v K) (bres (Nat.beq (Nat.mod k 2) 1) (trG l (Nat.div k 2) K) (trG r (Nat.sub (Nat.div k 2) 1) K)) = _
    rw [Tr.get]
    cases Nat.beq k 0
    · cases Nat.beq (Nat.mod k 2) 1
      · exact trG_ok r _ K
      · exact trG_ok l _ K
    · cases v with
      | none => exact .inl rfl
      | some o => exact .inr ⟨o, rfl, rfl⟩
noncomputable def ndL (v : Option AO) (r : Tr AO) (K : Tr AO → Res) (l : Tr AO) : Res := K (.nd l v r)
noncomputable def ndR (l : Tr AO) (v : Option AO) (K : Tr AO → Res) (r : Tr AO) : Res := K (.nd l v r)
abbrev TS := Tr AO → Nat → Option AO → (Tr AO → Res) → Res
noncomputable def tsN (ih : TS) (l : Tr AO) (x : Option AO) (r : Tr AO) (k : Nat) (v : Option AO) (K : Tr AO → Res) : Res :=
  bres (Nat.beq k 0) (K (.nd l v r)) (bres (Nat.beq (Nat.mod k 2) 1) (ih l (Nat.div k 2) v (ndL x r K)) (ih r (Nat.sub (Nat.div k 2) 1) v (ndR l x K)))
noncomputable def ts1 (t : Tr AO) : TS → Nat → Option AO → (Tr AO → Res) → Res := Tr.rec (motive := fun _ => TS → Nat → Option AO → (Tr AO → Res) → Res) (fun ih k v K => tsN ih .lf none .lf k v K) (fun l x r _ _ ih k v K => tsN ih l x r k v K) t
noncomputable def trS (d : Nat) : TS := Nat.rec (motive := fun _ => TS) (fun _ _ _ _ => .bad) (fun _ ih t k v K => ts1 t ih k v K) d
theorem trS_ok {β : Type} : ∀ (d : Nat) (t : Tr AO) (k : Nat) (v : Option AO) (K : Tr AO → Res), trS d t k v K = .bad ∨ ∃ t', (∀ L : Tr AO → Option β, Tr.setK d t k v L = L t') ∧ trS d t k v K = K t'
  | 0, _, _, _, _ => .inl rfl
  | d + 1, t, k, v, K => by
    have key : ∀ (l : Tr AO) (x : Option AO) (r : Tr AO), (∀ L : Tr AO → Option β, Tr.setK (d + 1) t k v L = match Nat.beq k 0 with
          | true => L (.nd l v r)
          | false => match Nat.beq (Nat.mod k 2) 1 with
            | true => Tr.setK d l (Nat.div k 2) v fun l => L (.nd l x r)
            | false => Tr.setK d r (Nat.sub (Nat.div k 2) 1) v fun r => L (.nd l x r)) →
        tsN (trS d) l x r k v K = .bad ∨ ∃ t', (∀ L : Tr AO → Option β, Tr.setK (d + 1) t k v L = L t') ∧ tsN (trS d) l x r k v K = K t' := by
      intro l x r hL
      unfold tsN
      simp only [hL]
      cases Nat.beq k 0
      · cases Nat.beq (Nat.mod k 2) 1
        · rcases trS_ok (β := β) d r (Nat.sub (Nat.div k 2) 1) v (ndR l x K) with h | ⟨t', h1, h2⟩
          · exact .inl h
          · exact .inr ⟨.nd l x t', fun L => h1 _, h2⟩
        · rcases trS_ok (β := β) d l (Nat.div k 2) v (ndL x r K) with h | ⟨t', h1, h2⟩
          · exact .inl h
          · exact .inr ⟨.nd t' x r, fun L => h1 _, h2⟩
      · exact .inr ⟨_, fun L => rfl, rfl⟩
    cases t with
    | lf => exact key .lf none .lf fun L => by rw [Tr.setK]; rfl
    | nd l x r => exact key l x r fun L => by rw [Tr.setK]; rfl
noncomputable def aoCells (o : AO) : (List AV → Bool → Res) → Res := AO.rec (motive := fun _ => (List AV → Bool → Res) → Res) (fun cs op K => K cs op) (fun _ _ _ => .bad) (fun _ _ _ => .bad) (fun _ _ _ _ _ => .bad) o
theorem aoCells_ok (o : AO) (K : List AV → Bool → Res) : aoCells o K = .bad ∨ ∃ cs op, o = .cells cs op ∧ aoCells o K = K cs op := by
  cases o <;> first | exact .inr ⟨_, _, rfl, rfl⟩ | exact .inl rfl
/- what has come of an operation, taken apart -/
noncomputable def orK (q : OR) : VK → Res := OR.rec (motive := fun _ => VK → Res) (fun v h K => K v h) (fun _ _ _ => .bad) q
noncomputable def gOld (y : Option OR) : VK → Res := Option.rec (motive := fun _ => VK → Res) (fun _ => .bad) (fun q K => orK q K) y
/-- Of the answer y this is made, or nothing. -/
def Good (x : Res) (K : VK) (y : Option OR) : Prop := x = .bad ∨ ∃ v h', y = some (.val v h') ∧ x = K v h'
theorem gOld_ok (y : Option OR) (K : VK) : Good (gOld y K) K y := by
  cases y with
  | none => exact .inl rfl
  | some q => cases q <;> first | exact .inr ⟨_, _, rfl, rfl⟩ | exact .inl rfl
theorem Good.bad {K : VK} {y : Option OR} : Good .bad K y := .inl rfl
theorem Good.out {K : VK} {v : AV} {h : Tr AO} : Good (K v h) K (some (.val v h)) := .inr ⟨_, _, rfl, rfl⟩
end Go.Ae
