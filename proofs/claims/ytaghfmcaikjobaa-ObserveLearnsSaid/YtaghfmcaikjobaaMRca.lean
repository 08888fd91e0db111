/- Walks: wittingref17.One, operators 1 to 8 (printed by gen_r17c.py). -/
import Derived.Test.YtaghfmcaikjobaaMRfC
namespace Wt
open Go Go.RowKit Go.Maps Go.Proofs Fm

end Wt

/- Walks: wittingref17.One, operators 9 and 10 (printed by gen_r17c.py). -/
namespace Wt
open Go Go.RowKit Go.Maps Go.Proofs Fm

end Wt
