/- Walks: wittingref17.One, operators 11 to 13 (printed by gen_r17c.py). -/
import Derived.Test.YtaghfmcaikjobaaMRfC
import Derived.Test.YtaghfmcaikjobaaMRca
import Derived.Test.YtaghfmcaikjobaaMCkA
namespace Wt
open Go Go.RowKit Go.Maps Go.Proofs Fm

end Wt

/- wittingref17.One at all operators (printed by gen_r17c.py). -/
namespace Wt
open Go Go.RowKit Go.Maps Go.Proofs Fm

end Wt
