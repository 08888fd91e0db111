/- Walks: wittingref17.One, operators 1 to 8 (printed by gen_r17c.py). -/
import Derived.Test.YtflnfcmbalhpnaaDoorM4Aw
import Derived.Test.YtflnfcmbalhpnaaDoorM4Al
namespace Wt
open Go Go.RowKit Go.Maps Go.Proofs Fm

end Wt

/- Walks: wittingref17.One, operators 9 and 10 (printed by gen_r17c.py). -/
namespace Wt
open Go Go.RowKit Go.Maps Go.Proofs Fm

end Wt

/- Walks: wittingref17.One, operators 11 to 13 (printed by gen_r17c.py). -/
namespace Wt
open Go Go.RowKit Go.Maps Go.Proofs Fm

end Wt

/- wittingref17.One at all operators (printed by gen_r17c.py). -/
namespace Wt
open Go Go.RowKit Go.Maps Go.Proofs Fm

end Wt
