/- The plans of functions are plans of their regions, checked by the kernel. No condition. -/
import Derived.Test.YtboklojgbhkhfaaGreatAeE
namespace Go.Proofs.YtboklojgbhkhfaaGreat
open Go.Ae
set_option maxRecDepth 100000
theorem k6 : okFE e6 = true := by kernel_rfl
theorem k7 : okFE e7 = true := by kernel_rfl
theorem k14 : okFE e14 = true := by kernel_rfl
theorem k17 : okFE e17 = true := by kernel_rfl
theorem k25 : okFE e25 = true := by kernel_rfl
theorem k29 : okFE e29 = true := by kernel_rfl
theorem k31 : okFE e31 = true := by kernel_rfl
theorem k35 : okFE e35 = true := by kernel_rfl
theorem k40 : okFE e40 = true := by kernel_rfl
theorem k57 : okFE e57 = true := by kernel_rfl
theorem k64 : okFE e64 = true := by kernel_rfl
theorem k65 : okFE e65 = true := by kernel_rfl
theorem k69 : okFE e69 = true := by kernel_rfl
theorem k70 : okFE e70 = true := by kernel_rfl
theorem k76 : okFE e76 = true := by kernel_rfl
theorem k92 : okFE e92 = true := by kernel_rfl
theorem k99 : okFE e99 = true := by kernel_rfl
theorem k103 : okFE e103 = true := by kernel_rfl
theorem k105 : okFE e105 = true := by kernel_rfl
theorem k107 : okFE e107 = true := by kernel_rfl
theorem k115 : okFE e115 = true := by kernel_rfl
theorem k117 : okFE e117 = true := by kernel_rfl
theorem k121 : okFE e121 = true := by kernel_rfl
theorem k125 : okFE e125 = true := by kernel_rfl
theorem k126 : okFE e126 = true := by kernel_rfl
theorem k147 : okFE e147 = true := by kernel_rfl
theorem k153 : okFE e153 = true := by kernel_rfl
theorem k159 : okFE e159 = true := by kernel_rfl
theorem k160 : okFE e160 = true := by kernel_rfl
theorem k164 : okFE e164 = true := by kernel_rfl
theorem k169 : okFE e169 = true := by kernel_rfl
theorem k174 : okFE e174 = true := by kernel_rfl
theorem k180 : okFE e180 = true := by kernel_rfl
theorem k183 : okFE e183 = true := by kernel_rfl
theorem k187 : okFE e187 = true := by kernel_rfl
theorem k193 : okFE e193 = true := by kernel_rfl
theorem k220 : okFE e220 = true := by kernel_rfl
theorem k224 : okFE e224 = true := by kernel_rfl
theorem k228 : okFE e228 = true := by kernel_rfl
theorem k233 : okFE e233 = true := by kernel_rfl
theorem k237 : okFE e237 = true := by kernel_rfl
theorem k238 : okFE e238 = true := by kernel_rfl
theorem k247 : okFE e247 = true := by kernel_rfl
theorem k252 : okFE e252 = true := by kernel_rfl
theorem k256 : okFE e256 = true := by kernel_rfl
theorem k261 : okFE e261 = true := by kernel_rfl
theorem k262 : okFE e262 = true := by kernel_rfl
theorem k310 : okFE e310 = true := by kernel_rfl
theorem k315 : okFE e315 = true := by kernel_rfl
theorem k320 : okFE e320 = true := by kernel_rfl
theorem k321 : okFE e321 = true := by kernel_rfl
theorem k325 : okFE e325 = true := by kernel_rfl
theorem k327 : okFE e327 = true := by kernel_rfl
theorem k336 : okFE e336 = true := by kernel_rfl
theorem k362 : okFE e362 = true := by kernel_rfl
theorem k367 : okFE e367 = true := by kernel_rfl
theorem k380 : okFE e380 = true := by kernel_rfl
theorem k383 : okFE e383 = true := by kernel_rfl
theorem k386 : okFE e386 = true := by kernel_rfl
theorem k399 : okFE e399 = true := by kernel_rfl
theorem k408 : okFE e408 = true := by kernel_rfl
end Go.Proofs.YtboklojgbhkhfaaGreat
