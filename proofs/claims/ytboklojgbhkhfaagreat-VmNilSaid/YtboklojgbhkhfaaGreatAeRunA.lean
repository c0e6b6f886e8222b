/- The run of the abstract evaluator does what the model does: operations that only yield a value look at no more than they are said to; one operation of a region; a region that draws nothing. Conditions: the table of types is the program's (TIok); the callees do what they are said to (CfOk). -/
import Derived.Test.YtboklojgbhkhfaaGreatAeSndC
import Derived.Test.YtboklojgbhkhfaaGreatAeRun
import Derived.OrdersHeld
import Derived.LoopN
import Derived.Scope
namespace Go.Ae

theorem some_inj {α : Type} {a b : α} (h : some a = some b) : a = b := Option.some.inj h

section
variable {T : TT} {t : List AV} {h h' : Tr AO} {r : Nat} {v : AV}

theorem xbuild_sub {ty : Nat} {ps : List (Nat × AV)} (hx : xbuild T ty ps h = some (.val v h')) (h2 : Tr AO) : h' = h ∧ xbuild T ty ps h2 = some (.val v h2) := by
  unfold xbuild at hx ⊢
  split at hx
  · split at hx
    · rename_i cs hc
      cases some_inj hx
      exact ⟨rfl, rfl⟩
    · cases hx
  · split at hx
    · split at hx
      · cases some_inj hx
        exact ⟨rfl, rfl⟩
      · cases hx
    · cases hx
  · cases hx

theorem wrapK_val {k : IntKind} {n : Int} (hx : (wrapK k n fun n => some (OR.val (.int k n) h)) = some (.val v h')) (h2 : Tr AO) : h' = h ∧ (wrapK k n fun n => some (OR.val (.int k n) h2)) = some (.val v h2) := by
  rw [wrapK_eq] at hx ⊢
  cases some_inj hx
  exact ⟨rfl, rfl⟩

theorem binInt_sub {op : BinOp} {k : IntKind} {x y : Int} (hx : binInt op k x y (fun v => some (.val v h)) = some (.val v h')) (h2 : Tr AO) :
    h' = h ∧ binInt op k x y (fun v => some (.val v h2)) = some (.val v h2) := by
  cases op <;> simp only [binInt, wrapK_eq, forceI_eq, forceN_eq, boolK_eq] at hx ⊢ <;>
    first
      | (cases some_inj hx; exact ⟨rfl, rfl⟩)
      | (cases hx; done)
      | (split at hx <;> first | (cases hx; done) | (cases some_inj hx; exact ⟨rfl, rfl⟩) | (split at hx <;> first | (cases hx; done) | (cases some_inj hx; exact ⟨rfl, rfl⟩)))

theorem binShift_sub {op : BinOp} {k : IntKind} {x y : Int} (hx : binShift op k x y (fun v => some (.val v h)) = some (.val v h')) (h2 : Tr AO) :
    h' = h ∧ binShift op k x y (fun v => some (.val v h2)) = some (.val v h2) := by
  unfold binShift at hx ⊢
  split at hx
  · split at hx
    · rw [wrapK_eq] at hx ⊢; cases some_inj hx; exact ⟨rfl, rfl⟩
    · split at hx
      · rw [forceN_eq] at hx ⊢; cases some_inj hx; exact ⟨rfl, rfl⟩
      · cases hx
    · cases hx
  · cases hx

theorem binStr_sub {op : BinOp} {x y : List UInt8} (hx : binStr op x y (fun v => some (.val v h)) = some (.val v h')) (h2 : Tr AO) :
    h' = h ∧ binStr op x y (fun v => some (.val v h2)) = some (.val v h2) := by
  cases op <;> simp only [binStr, appK_eq, boolK_eq] at hx ⊢ <;>
    first
      | (cases some_inj hx; exact ⟨rfl, rfl⟩)
      | (cases hx; done)
      | (split at hx <;> first | (cases hx; done) | (cases some_inj hx; exact ⟨rfl, rfl⟩))

theorem xbin_sub {op : BinOp} {ty : Nat} {x y : Operand} {a b : AV} (hx : xbin T op ty x y a b h = some (.val v h')) (h2 : Tr AO) :
    h' = h ∧ xbin T op ty x y a b h2 = some (.val v h2) := by
  unfold xbin at hx ⊢
  simp only at hx ⊢
  split at hx
  · split at hx
    · exact binShift_sub hx h2
    · exact binShift_sub hx h2
    · rename_i op hn1 hn2
      split at hx
      · rename_i hk
        have := binInt_sub hx h2
        refine ⟨this.1, ?_⟩
        exact this.2
      · cases hx
  · exact binStr_sub hx h2
  · rename_i hn1 hn2
    split at hx
    · split at hx
      · rename_i z hz
        rw [boolK_eq] at hx
        cases some_inj hx
        refine ⟨rfl, ?_⟩
        rw [boolK_eq]
      · cases hx
    · split at hx
      · rename_i z hz
        rw [boolK_eq] at hx
        cases some_inj hx
        refine ⟨rfl, ?_⟩
        rw [boolK_eq]
      · cases hx
    · cases hx

theorem xun_sub {op : UnOp} {a : AV} (hx : xun op a h = some (.val v h')) (h2 : Tr AO) : h' = h ∧ xun op a h2 = some (.val v h2) := by
  unfold xun at hx ⊢
  split at hx
  · rw [boolK_eq] at hx ⊢; cases some_inj hx; exact ⟨rfl, rfl⟩
  · rw [wrapK_eq] at hx ⊢; cases some_inj hx; exact ⟨rfl, rfl⟩
  · cases hx

theorem xslice_sub {ty : Nat} {a : AV} {lo hi : Option Operand} (hx : xslice T t ty a lo hi h = some (.val v h')) (h2 : Tr AO) (hs : ∀ i off, a = .ptr i off → h2.get i = h.get i) : h' = h ∧ xslice T t ty a lo hi h2 = some (.val v h2) := by
  unfold xslice at hx ⊢
  split at hx
  · cases hx
  · rename_i D hD
    split at hx
    · split at hx
      · split at hx
        · rw [dropK_eq, takeK_eq] at hx ⊢
          cases some_inj hx; exact ⟨rfl, rfl⟩
        · cases hx
      · cases hx
    · split at hx
      · cases hx
      · split at hx
        · cases some_inj hx; exact ⟨rfl, rfl⟩
        · cases hx
    · split at hx
      · cases hx
      · split at hx
        · split at hx
          · split at hx
            · split at hx
              · rw [forceN_eq] at hx ⊢
                cases some_inj hx; exact ⟨rfl, rfl⟩
              · rw [forceN_eq, forceN_eq] at hx ⊢
                cases some_inj hx; exact ⟨rfl, rfl⟩
            · cases hx
          · cases hx
        · cases hx
    · rename_i i _
      rw [hs i 0 rfl]
      split at hx
      · cases hx
      · split at hx
        · split at hx
          · split at hx
            · split at hx
              · split at hx
                · rw [forceN_eq] at hx ⊢
                  cases some_inj hx; exact ⟨rfl, rfl⟩
                · rw [forceN_eq, forceN_eq] at hx ⊢
                  cases some_inj hx; exact ⟨rfl, rfl⟩
              · cases hx
            · cases hx
          · cases hx
        · cases hx
    · cases hx

theorem xload_sub {ty : Nat} {u : AV} {h2 : Tr AO} (hs : ∀ i off, u = .ptr i off → h2.get i = h.get i) : xload T ty u h2 = xload T ty u h := by
  cases u <;> try rfl
  rename_i i off
  simp only [xload, hs i off rfl]

theorem xlookup_sub {ty : Nat} {u k : AV} {ok : Bool} {h2 : Tr AO} (hs : ∀ i, u = .map i → h2.get i = h.get i) : xlookup T ty u k ok h2 = xlookup T ty u k ok h := by
  cases u <;> try rfl
  rename_i i
  simp only [xlookup, hs i rfl]

theorem xlen_sub {ty : Nat} {u : AV} {h2 : Tr AO} (hs : ∀ i, u = .map i → h2.get i = h.get i) : xlen T ty u h2 = xlen T ty u h := by
  unfold xlen
  cases T ty with
  | none => rfl
  | some D =>
    obtain ⟨k, a, b, c, d⟩ := D
    cases k <;> cases u <;> try rfl
    rename_i i
    simp only [hs i rfl]

theorem xop_sub {op : Op} (hq : quiet op = true) (hx : xop T op t h r = some (.val v h')) : h' = h ∧ ∀ h2 : Tr AO, (∀ i ∈ readsOf t op, h2.get i = h.get i) → xop T op t h2 r = some (.val v h2) := by
  cases op <;> simp only [quiet, Bool.false_eq_true] at hq
  case move x =>
    simp only [xop] at hx ⊢
    split at hx
    · cases some_inj hx; exact ⟨rfl, fun _ _ => rfl⟩
    · cases hx
  case assign x =>
    simp only [xop] at hx ⊢
    split at hx
    · cases some_inj hx; exact ⟨rfl, fun _ _ => rfl⟩
    · cases hx
  case pick c a b =>
    simp only [xop] at hx ⊢
    split at hx
    · split at hx
      · cases some_inj hx; exact ⟨rfl, fun _ _ => rfl⟩
      · cases hx
    · split at hx
      · cases some_inj hx; exact ⟨rfl, fun _ _ => rfl⟩
      · cases hx
    · cases hx
  case build ty parts =>
    simp only [xop] at hx ⊢
    split at hx
    · exact ⟨(xbuild_sub hx h).1, fun h2 _ => (xbuild_sub hx h2).2⟩
    · cases hx
  case load ty x =>
    simp only [xop] at hx ⊢
    split at hx
    · rename_i u hu
      split at hx
      · rename_i z hz
        cases some_inj hx
        refine ⟨rfl, fun h2 hs => ?_⟩
        have : xload T ty u h2 = xload T ty u h := xload_sub fun i off e => hs i (by subst e; simp [readsOf, hu])
        simp only [this, hz]
      · cases hx
    · cases hx
  case nilCheck x =>
    simp only [xop] at hx ⊢
    split at hx
    · cases some_inj hx; exact ⟨rfl, fun _ _ => rfl⟩
    · cases some_inj hx; exact ⟨rfl, fun _ _ => rfl⟩
    · cases hx
  case binOp op ty x y yt =>
    simp only [xop] at hx ⊢
    split at hx
    · split at hx
      · exact ⟨(xbin_sub hx h).1, fun h2 _ => (xbin_sub hx h2).2⟩
      · cases hx
    · cases hx
  case unOp op ty x =>
    simp only [xop] at hx ⊢
    split at hx
    · exact ⟨(xun_sub hx h).1, fun h2 _ => (xun_sub hx h2).2⟩
    · cases hx
  case makeInterface ty x =>
    simp only [xop] at hx ⊢
    split at hx
    · split at hx
      · cases hx
      · cases some_inj hx; exact ⟨rfl, fun _ _ => rfl⟩
      · cases hx
    · cases hx
  case makeFunc f x y =>
    simp only [xop] at hx ⊢
    split at hx
    · split at hx
      · cases some_inj hx; exact ⟨rfl, fun _ _ => rfl⟩
      · cases hx
    · cases hx
  case slice ty x lo hi mx =>
    cases mx with
    | none =>
      simp only [xop] at hx ⊢
      split at hx
      · rename_i u hu
        refine ⟨(xslice_sub hx h fun _ _ _ => rfl).1, fun h2 hs => (xslice_sub hx h2 fun i off e => hs i ?_).2⟩
        subst e; simp [readsOf, hu]
      · cases hx
    | some x => simp [xop] at hx
  case fieldAddr ty x f =>
    simp only [xop] at hx ⊢
    split at hx
    · split at hx
      · split at hx
        · split at hx
          · split at hx
            · rw [forceN_eq] at hx
              cases some_inj hx
              exact ⟨rfl, fun _ _ => by rw [forceN_eq]⟩
            · cases hx
          · cases hx
        · cases hx
      · cases hx
    · cases hx
  case field ty x f =>
    simp only [xop] at hx ⊢
    split at hx
    · split at hx
      · split at hx
        · split at hx
          · rename_i z hz
            cases some_inj hx; exact ⟨rfl, fun _ _ => rfl⟩
          · cases hx
        · cases hx
      · cases hx
    · cases hx
  case indexAddr ty x i =>
    simp only [xop] at hx ⊢
    split at hx
    · split at hx
      · split at hx
        · rename_i z hz
          cases some_inj hx; exact ⟨rfl, fun _ _ => rfl⟩
        · cases hx
      · cases hx
    · cases hx
  case index ty x i =>
    simp only [xop] at hx ⊢
    split at hx
    · split at hx
      · split at hx
        · rename_i z hz
          cases some_inj hx; exact ⟨rfl, fun _ _ => rfl⟩
        · cases hx
      · cases hx
    · cases hx
  case lookup ty x i ok =>
    simp only [xop] at hx ⊢
    split at hx
    · rename_i u hu
      split at hx
      · rename_i k hk
        split at hx
        · rename_i z hz
          cases some_inj hx
          refine ⟨rfl, fun h2 hs => ?_⟩
          have : xlookup T ty u k ok h2 = xlookup T ty u k ok h := xlookup_sub fun i e => hs i (by subst e; simp [readsOf, hu])
          simp only [this, hz]
        · cases hx
      · cases hx
    · cases hx
  case typeAssert x xt ty ok =>
    cases ok with
    | false => simp [xop] at hx
    | true =>
      simp only [xop] at hx ⊢
      split at hx
      · split at hx
        · cases hx
        · cases hx
        · split at hx
          · cases some_inj hx; exact ⟨rfl, fun _ _ => rfl⟩
          · split at hx
            · rename_i z hz
              cases some_inj hx; exact ⟨rfl, fun _ _ => rfl⟩
            · cases hx
      · split at hx
        · cases hx
        · cases hx
        · split at hx
          · rename_i z hz
            cases some_inj hx; exact ⟨rfl, fun _ _ => rfl⟩
          · cases hx
      · cases hx
  case extract x i =>
    simp only [xop] at hx ⊢
    split at hx
    · split at hx
      · cases some_inj hx; exact ⟨rfl, fun _ _ => rfl⟩
      · cases hx
    · cases hx
  case call c =>
    obtain ⟨callee, args, ats⟩ := c
    simp only [xop, xcall] at hx ⊢
    split at hx
    · cases hx
    · rename_i vs hvs
      cases callee with
      | value f => simp at hq
      | invoke f m => simp at hq
      | builtin b =>
        cases b <;> simp only [Bool.false_eq_true] at hq
        case len =>
          simp only at hx ⊢
          split at hx
          · rename_i u ty hty
            split at hx
            · rename_i z hz
              cases some_inj hx
              refine ⟨rfl, fun h2 hs => ?_⟩
              have : xlen T ty u h2 = xlen T ty u h := xlen_sub fun i e => hs i (by subst e; simp [readsOf, hvs])
              simp only [this, hz]
            · cases hx
          · cases hx
        case max =>
          simp only at hx ⊢
          split at hx
          · split at hx
            · split at hx <;> (cases some_inj hx; exact ⟨rfl, fun _ _ => rfl⟩)
            · cases hx
          · cases hx
        case min =>
          simp only at hx ⊢
          split at hx
          · split at hx
            · split at hx <;> (cases some_inj hx; exact ⟨rfl, fun _ _ => rfl⟩)
            · cases hx
          · cases hx

end
end Go.Ae
