/- words.Count with 2, for any number. No condition. -/
import Derived.Test.YtboklojgbhkhfaaGreatProg
import Derived.WalkKit
import Derived.Lib.Hide
namespace Go.Proofs.YtboklojgbhkhfaaGreat
open Go Lib
def cnt (a : Int) : Int := if a < 0 then (RowKit.wrap64 (-RowKit.wrap64 (a + 1))).tmod 2 else a % 2
theorem count_any (a : Int) (w : World) : Calls Tryz.prog 11 #[.int .i64 a, .int .i64 2] w fun e w' => e = .returned (.int .i64 (cnt a)) ∧ w' = w := by
  by_cases h : a < 0
  · have hc : RowKit.Hid (cnt a = (RowKit.wrap64 (-RowKit.wrap64 (a + 1))).tmod 2) := by unfold cnt; rw [if_pos h]; exact rfl
    go_enter Tryz.func11, Tryz.ntmps11
    go_wp2
    go_ret
    exact ⟨by rw [hc.out]; rfl, rfl⟩
  · have hc : RowKit.Hid (cnt a = a % 2) := by unfold cnt; rw [if_neg h]; exact rfl
    go_enter Tryz.func11, Tryz.ntmps11
    go_wp2
    go_ret
    exact ⟨by rw [hc.out]; rfl, rfl⟩
end Go.Proofs.YtboklojgbhkhfaaGreat
