/- Walks: announce.Update, wittingref25.Update (printed by gen_upd.py). -/
import Derived.Test.YtflnfcmbalhpnaaGreatDoorM4Ao
import Derived.Test.YtflnfcmbalhpnaaGreatDoorM4Aq
import Derived.Test.YtflnfcmbalhpnaaGreatDoorM4Az
import Derived.Test.YtflnfcmbalhpnaaGreatDoorM4Al
namespace Wt
open Go Go.RowKit Go.Maps Go.Proofs Fm

end Wt
