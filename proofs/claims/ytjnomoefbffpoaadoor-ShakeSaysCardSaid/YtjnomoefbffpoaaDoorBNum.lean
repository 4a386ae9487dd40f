/- A number below a bound. -/
import Derived.Test.YtjnomoefbffpoaaDoorZabY
import Derived.Test.YtjnomoefbffpoaaDoorBZq
import Derived.Test.YtjnomoefbffpoaaDoorBAbs
namespace Zab.YtjnomoefbffpoaaDoorB
open Go
open Go.IntWalk (i64_in)
set_option maxRecDepth 100000
set_option linter.unusedSimpArgs false
set_option linter.unusedVariables false
attribute [-simp] getElem?_pos

end Zab.YtjnomoefbffpoaaDoorB
