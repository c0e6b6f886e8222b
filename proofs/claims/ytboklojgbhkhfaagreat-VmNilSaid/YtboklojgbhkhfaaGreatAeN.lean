/- What law 21's fixed calls answer: true, run by the kernel. No condition. -/
import Derived.Test.YtboklojgbhkhfaaGreatAeCT
namespace Go.Proofs.YtboklojgbhkhfaaGreat
open Go Go.Ae
set_option maxRecDepth 100000
theorem known_run : isT (ccall ccTr 60 5 [] .lf 0) = true := by kernel_rfl
theorem known_good : XGood Tryz.prog 5 (xConst (.bool true)) := by
  obtain ⟨h', n', h⟩ := isT_ok known_run
  exact xConst_good (cfAt_of cc_good h) fun _ _ => rfl
end Go.Proofs.YtboklojgbhkhfaaGreat
