/- The plans of functions are plans of their regions, checked by the kernel. No condition. -/
import Derived.Test.YtboklojgbhkhfaaGreatAeE
namespace Go.Proofs.YtboklojgbhkhfaaGreat
open Go.Ae
set_option maxRecDepth 100000
theorem k5 : okFE e5 = true := by kernel_rfl
theorem k13 : okFE e13 = true := by kernel_rfl
theorem k18 : okFE e18 = true := by kernel_rfl
theorem k30 : okFE e30 = true := by kernel_rfl
theorem k34 : okFE e34 = true := by kernel_rfl
theorem k39 : okFE e39 = true := by kernel_rfl
theorem k42 : okFE e42 = true := by kernel_rfl
theorem k55 : okFE e55 = true := by kernel_rfl
theorem k59 : okFE e59 = true := by kernel_rfl
theorem k63 : okFE e63 = true := by kernel_rfl
theorem k68 : okFE e68 = true := by kernel_rfl
theorem k73 : okFE e73 = true := by kernel_rfl
theorem k75 : okFE e75 = true := by kernel_rfl
theorem k80 : okFE e80 = true := by kernel_rfl
theorem k96 : okFE e96 = true := by kernel_rfl
theorem k98 : okFE e98 = true := by kernel_rfl
theorem k100 : okFE e100 = true := by kernel_rfl
theorem k104 : okFE e104 = true := by kernel_rfl
theorem k106 : okFE e106 = true := by kernel_rfl
theorem k110 : okFE e110 = true := by kernel_rfl
theorem k116 : okFE e116 = true := by kernel_rfl
theorem k120 : okFE e120 = true := by kernel_rfl
theorem k124 : okFE e124 = true := by kernel_rfl
theorem k130 : okFE e130 = true := by kernel_rfl
theorem k151 : okFE e151 = true := by kernel_rfl
theorem k152 : okFE e152 = true := by kernel_rfl
theorem k158 : okFE e158 = true := by kernel_rfl
theorem k163 : okFE e163 = true := by kernel_rfl
theorem k167 : okFE e167 = true := by kernel_rfl
theorem k172 : okFE e172 = true := by kernel_rfl
theorem k181 : okFE e181 = true := by kernel_rfl
theorem k186 : okFE e186 = true := by kernel_rfl
theorem k190 : okFE e190 = true := by kernel_rfl
theorem k191 : okFE e191 = true := by kernel_rfl
theorem k192 : okFE e192 = true := by kernel_rfl
theorem k219 : okFE e219 = true := by kernel_rfl
theorem k223 : okFE e223 = true := by kernel_rfl
theorem k227 : okFE e227 = true := by kernel_rfl
theorem k231 : okFE e231 = true := by kernel_rfl
theorem k236 : okFE e236 = true := by kernel_rfl
theorem k241 : okFE e241 = true := by kernel_rfl
theorem k245 : okFE e245 = true := by kernel_rfl
theorem k251 : okFE e251 = true := by kernel_rfl
theorem k255 : okFE e255 = true := by kernel_rfl
theorem k258 : okFE e258 = true := by kernel_rfl
theorem k260 : okFE e260 = true := by kernel_rfl
theorem k309 : okFE e309 = true := by kernel_rfl
theorem k314 : okFE e314 = true := by kernel_rfl
theorem k318 : okFE e318 = true := by kernel_rfl
theorem k319 : okFE e319 = true := by kernel_rfl
theorem k324 : okFE e324 = true := by kernel_rfl
theorem k331 : okFE e331 = true := by kernel_rfl
theorem k333 : okFE e333 = true := by kernel_rfl
theorem k334 : okFE e334 = true := by kernel_rfl
theorem k335 : okFE e335 = true := by kernel_rfl
theorem k361 : okFE e361 = true := by kernel_rfl
theorem k365 : okFE e365 = true := by kernel_rfl
theorem k379 : okFE e379 = true := by kernel_rfl
theorem k384 : okFE e384 = true := by kernel_rfl
theorem k388 : okFE e388 = true := by kernel_rfl
theorem k401 : okFE e401 = true := by kernel_rfl
theorem k405 : okFE e405 = true := by kernel_rfl
end Go.Proofs.YtboklojgbhkhfaaGreat
