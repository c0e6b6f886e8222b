/- The plans of functions are plans of their regions, checked by the kernel. No condition. -/
import Derived.Test.YtboklojgbhkhfaaGreatAeE
namespace Go.Proofs.YtboklojgbhkhfaaGreat
open Go.Ae
set_option maxRecDepth 100000
theorem k3 : okFE e3 = true := by kernel_rfl
theorem k9 : okFE e9 = true := by kernel_rfl
theorem k10 : okFE e10 = true := by kernel_rfl
theorem k12 : okFE e12 = true := by kernel_rfl
theorem k16 : okFE e16 = true := by kernel_rfl
theorem k27 : okFE e27 = true := by kernel_rfl
theorem k28 : okFE e28 = true := by kernel_rfl
theorem k33 : okFE e33 = true := by kernel_rfl
theorem k38 : okFE e38 = true := by kernel_rfl
theorem k43 : okFE e43 = true := by kernel_rfl
theorem k56 : okFE e56 = true := by kernel_rfl
theorem k60 : okFE e60 = true := by kernel_rfl
theorem k62 : okFE e62 = true := by kernel_rfl
theorem k67 : okFE e67 = true := by kernel_rfl
theorem k74 : okFE e74 = true := by kernel_rfl
theorem k77 : okFE e77 = true := by kernel_rfl
theorem k79 : okFE e79 = true := by kernel_rfl
theorem k95 : okFE e95 = true := by kernel_rfl
theorem k102 : okFE e102 = true := by kernel_rfl
theorem k108 : okFE e108 = true := by kernel_rfl
theorem k111 : okFE e111 = true := by kernel_rfl
theorem k112 : okFE e112 = true := by kernel_rfl
theorem k119 : okFE e119 = true := by kernel_rfl
theorem k123 : okFE e123 = true := by kernel_rfl
theorem k129 : okFE e129 = true := by kernel_rfl
theorem k149 : okFE e149 = true := by kernel_rfl
theorem k150 : okFE e150 = true := by kernel_rfl
theorem k156 : okFE e156 = true := by kernel_rfl
theorem k157 : okFE e157 = true := by kernel_rfl
theorem k162 : okFE e162 = true := by kernel_rfl
theorem k166 : okFE e166 = true := by kernel_rfl
theorem k171 : okFE e171 = true := by kernel_rfl
theorem k175 : okFE e175 = true := by kernel_rfl
theorem k177 : okFE e177 = true := by kernel_rfl
theorem k178 : okFE e178 = true := by kernel_rfl
theorem k179 : okFE e179 = true := by kernel_rfl
theorem k182 : okFE e182 = true := by kernel_rfl
theorem k185 : okFE e185 = true := by kernel_rfl
theorem k189 : okFE e189 = true := by kernel_rfl
theorem k218 : okFE e218 = true := by kernel_rfl
theorem k222 : okFE e222 = true := by kernel_rfl
theorem k226 : okFE e226 = true := by kernel_rfl
theorem k230 : okFE e230 = true := by kernel_rfl
theorem k235 : okFE e235 = true := by kernel_rfl
theorem k239 : okFE e239 = true := by kernel_rfl
theorem k243 : okFE e243 = true := by kernel_rfl
theorem k244 : okFE e244 = true := by kernel_rfl
theorem k250 : okFE e250 = true := by kernel_rfl
theorem k254 : okFE e254 = true := by kernel_rfl
theorem k257 : okFE e257 = true := by kernel_rfl
theorem k263 : okFE e263 = true := by kernel_rfl
theorem k311 : okFE e311 = true := by kernel_rfl
theorem k313 : okFE e313 = true := by kernel_rfl
theorem k317 : okFE e317 = true := by kernel_rfl
theorem k323 : okFE e323 = true := by kernel_rfl
theorem k326 : okFE e326 = true := by kernel_rfl
theorem k330 : okFE e330 = true := by kernel_rfl
theorem k338 : okFE e338 = true := by kernel_rfl
theorem k364 : okFE e364 = true := by kernel_rfl
theorem k366 : okFE e366 = true := by kernel_rfl
theorem k387 : okFE e387 = true := by kernel_rfl
theorem k404 : okFE e404 = true := by kernel_rfl
end Go.Proofs.YtboklojgbhkhfaaGreat
