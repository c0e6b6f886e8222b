/- The plans of functions are plans of their regions, checked by the kernel. No condition. -/
import Derived.Test.YtboklojgbhkhfaaGreatAeE
namespace Go.Proofs.YtboklojgbhkhfaaGreat
open Go.Ae
set_option maxRecDepth 100000
theorem k8 : okFE e8 = true := by kernel_rfl
theorem k11 : okFE e11 = true := by kernel_rfl
theorem k15 : okFE e15 = true := by kernel_rfl
theorem k26 : okFE e26 = true := by kernel_rfl
theorem k32 : okFE e32 = true := by kernel_rfl
theorem k36 : okFE e36 = true := by kernel_rfl
theorem k37 : okFE e37 = true := by kernel_rfl
theorem k41 : okFE e41 = true := by kernel_rfl
theorem k58 : okFE e58 = true := by kernel_rfl
theorem k61 : okFE e61 = true := by kernel_rfl
theorem k66 : okFE e66 = true := by kernel_rfl
theorem k71 : okFE e71 = true := by kernel_rfl
theorem k72 : okFE e72 = true := by kernel_rfl
theorem k78 : okFE e78 = true := by kernel_rfl
theorem k94 : okFE e94 = true := by kernel_rfl
theorem k97 : okFE e97 = true := by kernel_rfl
theorem k101 : okFE e101 = true := by kernel_rfl
theorem k109 : okFE e109 = true := by kernel_rfl
theorem k113 : okFE e113 = true := by kernel_rfl
theorem k114 : okFE e114 = true := by kernel_rfl
theorem k118 : okFE e118 = true := by kernel_rfl
theorem k122 : okFE e122 = true := by kernel_rfl
theorem k127 : okFE e127 = true := by kernel_rfl
theorem k128 : okFE e128 = true := by kernel_rfl
theorem k148 : okFE e148 = true := by kernel_rfl
theorem k154 : okFE e154 = true := by kernel_rfl
theorem k155 : okFE e155 = true := by kernel_rfl
theorem k161 : okFE e161 = true := by kernel_rfl
theorem k165 : okFE e165 = true := by kernel_rfl
theorem k168 : okFE e168 = true := by kernel_rfl
theorem k170 : okFE e170 = true := by kernel_rfl
theorem k173 : okFE e173 = true := by kernel_rfl
theorem k176 : okFE e176 = true := by kernel_rfl
theorem k184 : okFE e184 = true := by kernel_rfl
theorem k188 : okFE e188 = true := by kernel_rfl
theorem k194 : okFE e194 = true := by kernel_rfl
theorem k221 : okFE e221 = true := by kernel_rfl
theorem k225 : okFE e225 = true := by kernel_rfl
theorem k229 : okFE e229 = true := by kernel_rfl
theorem k232 : okFE e232 = true := by kernel_rfl
theorem k234 : okFE e234 = true := by kernel_rfl
theorem k240 : okFE e240 = true := by kernel_rfl
theorem k242 : okFE e242 = true := by kernel_rfl
theorem k246 : okFE e246 = true := by kernel_rfl
theorem k248 : okFE e248 = true := by kernel_rfl
theorem k249 : okFE e249 = true := by kernel_rfl
theorem k253 : okFE e253 = true := by kernel_rfl
theorem k259 : okFE e259 = true := by kernel_rfl
theorem k312 : okFE e312 = true := by kernel_rfl
theorem k316 : okFE e316 = true := by kernel_rfl
theorem k322 : okFE e322 = true := by kernel_rfl
theorem k328 : okFE e328 = true := by kernel_rfl
theorem k329 : okFE e329 = true := by kernel_rfl
theorem k332 : okFE e332 = true := by kernel_rfl
theorem k337 : okFE e337 = true := by kernel_rfl
theorem k363 : okFE e363 = true := by kernel_rfl
theorem k381 : okFE e381 = true := by kernel_rfl
theorem k382 : okFE e382 = true := by kernel_rfl
theorem k385 : okFE e385 = true := by kernel_rfl
theorem k400 : okFE e400 = true := by kernel_rfl
theorem k412 : okFE e412 = true := by kernel_rfl
end Go.Proofs.YtboklojgbhkhfaaGreat
