/- VmNil's body, run by the kernel with any numbers and any text of at most 100 bytes or more. No condition. -/
import Derived.Test.YtboklojgbhkhfaaGreatAeN
import Derived.Test.YtboklojgbhkhfaaGreatAeW
namespace Go.Proofs.YtboklojgbhkhfaaGreat
open Go Go.Ae
set_option maxRecDepth 100000
noncomputable def x11m : CX2 := fun _ args h n => match args with
  | [.int .i64 a, .int .i64 (.ofNat b)] => match Nat.beq b 2 with
    | true => .ok (.int .i64 (cnt a)) h n
    | false => .bad
  | _ => .bad
theorem x11m_good : XGood Tryz.prog 11 x11m := by
  intro cf hcf args h n v h' n' hx
  unfold x11m at hx
  split at hx
  · rename_i a b
    split at hx
    · rename_i hb
      cases Nat.eq_of_beq_eq_true hb
      cases hx
      obtain ⟨h1, h2, _⟩ := ff_ok 11 e11 (by kernel_rfl)
      refine CfAt.of_calls ⟨e11.fn, h1, h2, by kernel_rfl⟩ fun E w vs hd => ?_
      have : vs = [.int .i64 a, .int .i64 2] := (some_inj hd).symm
      subst this
      refine (count_any a w).mono ?_
      rintro e w' ⟨rfl, rfl⟩
      exact ⟨_, rfl, rfl, Kept.refl _⟩
    · cases hx
  · cases hx
noncomputable def vt : Tr CX2 := trPut 12 (trPut 12 ccTr 5 (xConst (.bool true))) 11 x11m
theorem vt_good : ∀ f X, vt.get f = some X → XGood Tryz.prog f X := trPut_good (trPut_good cc_good known_good) x11m_good
noncomputable def eA (a b : Int) (l : List UInt8) : E2 := eset (eOf [.int .i64 a, .int .i64 b, .str l] 0 dead2) 6 (.bool false)
noncomputable def eB (a b : Int) (l : List UInt8) (c : Bool) : E2 := eset (eset (eset (eA a b l) 22 (.str l)) 23 (.int .i64 (.ofNat l.length))) 24 (.bool c)
theorem run_t (a b : Int) (l : List UInt8) : isT (resFin (resSeq (c3p1b (ccall vt 60) 4 .lf (eB a b l true)) (c3r2 (ccall vt 60))) (fin1 g6)) = true := by kernel_rfl
theorem run_f (a b : Int) (l : List UInt8) : isT (resFin (resSeq (c3p1b (ccall vt 60) 4 .lf (eB a b l false)) (c3r2 (ccall vt 60))) (fin1 g6)) = true := by kernel_rfl
theorem run_any (a b : Int) (l : List UInt8) : isT (ccall vt 61 3 [.int .i64 a, .int .i64 b, .str l] .lf 0) = true := by
  have e1 : ccall vt 61 3 [.int .i64 a, .int .i64 b, .str l] .lf 0 = resFin (c3r1 (ccall vt 60) 1 .lf (eA a b l)) (fin1 g6) := by kernel_rfl
  have e2 : c3p1 (ccall vt 60) 1 .lf (eA a b l) = c3p1b (ccall vt 60) 4 .lf (eB a b l (Nat.blt 100 l.length)) := by
    unfold c3p1 c3p1a
    exact seq_nrm (reg_len (a := 2) rfl (fun _ _ _ => rfl) (fun _ _ _ => rfl) (fun _ _ _ => rfl) (fun _ _ => rfl) (fun _ _ => rfl))
  have e3 : c3r1 (ccall vt 60) 1 .lf (eA a b l) = resSeq (c3p1 (ccall vt 60) 1 .lf (eA a b l)) (c3r2 (ccall vt 60)) := rfl
  rw [e1, e3, e2]
  cases Nat.blt 100 l.length
  · exact run_f a b l
  · exact run_t a b l
theorem vmNil_any (a b : Int) (s : ByteArray) (w : World) : Calls Tryz.prog 3 #[.int .i64 a, .int .i64 b, .string s] w fun e w' => e = .returned (.bool true) ∧ Kept w w' := by
  obtain ⟨⟨l⟩⟩ := s
  obtain ⟨h', n', h⟩ := isT_ok (run_any a b l)
  refine (calls_closed (cfAt_of vt_good h) (vs := [.int .i64 a, .int .i64 b, .string ⟨⟨l⟩⟩]) rfl w).mono ?_
  rintro e w' ⟨E', V, rfl, hV, hk⟩
  cases some_inj hV
  exact ⟨rfl, hk⟩
end Go.Proofs.YtboklojgbhkhfaaGreat
