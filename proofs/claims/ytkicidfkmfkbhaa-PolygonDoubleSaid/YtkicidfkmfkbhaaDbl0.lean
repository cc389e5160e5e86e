/- A part of PolygonDouble's runs. No condition. -/
import Derived.Test.YtkicidfkmfkbhaaDblX
set_option maxRecDepth 1000000
namespace Go.AM
open Go
theorem dbl0 (z0 z1 z2 z3 z4 z5 z6 z7 : AV) : upTo (fun j => run6 z0 z1 z2 z3 z4 z5 z6 z7 3 (3 + j)) 13 = true := by kernel_rfl
theorem dbl4 (z0 z1 z2 z3 z4 z5 z6 z7 : AV) : upTo (fun j => run6 z0 z1 z2 z3 z4 z5 z6 z7 7 (3 + j)) 13 = true := by kernel_rfl
theorem dbl8 (z0 z1 z2 z3 z4 z5 z6 z7 : AV) : upTo (fun j => run6 z0 z1 z2 z3 z4 z5 z6 z7 11 (3 + j)) 13 = true := by kernel_rfl
theorem dbl12 (z0 z1 z2 z3 z4 z5 z6 z7 : AV) : upTo (fun j => run6 z0 z1 z2 z3 z4 z5 z6 z7 15 (3 + j)) 13 = true := by kernel_rfl
end Go.AM
