/- A part of PolygonDouble's runs. No condition. -/
import Derived.Test.YtkicidfkmfkbhaaDblX
set_option maxRecDepth 1000000
namespace Go.AM
open Go
theorem dbl3 (z0 z1 z2 z3 z4 z5 z6 z7 : AV) : upTo (fun j => run6 z0 z1 z2 z3 z4 z5 z6 z7 6 (3 + j)) 13 = true := by kernel_rfl
theorem dbl7 (z0 z1 z2 z3 z4 z5 z6 z7 : AV) : upTo (fun j => run6 z0 z1 z2 z3 z4 z5 z6 z7 10 (3 + j)) 13 = true := by kernel_rfl
theorem dbl11 (z0 z1 z2 z3 z4 z5 z6 z7 : AV) : upTo (fun j => run6 z0 z1 z2 z3 z4 z5 z6 z7 14 (3 + j)) 13 = true := by kernel_rfl
end Go.AM
