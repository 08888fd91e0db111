/- Walks: wittingref05.node, patterns 6 to 8 (printed by gen_rfb.py). -/
import Derived.Test.YtflnfcmbalhpnaaDoorM4Ar
namespace Wt
open Go Go.RowKit Go.Maps Go.Proofs Fm

end Wt
