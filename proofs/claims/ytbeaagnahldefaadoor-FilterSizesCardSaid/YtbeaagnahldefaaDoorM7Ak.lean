/- Walk: wittingref05.put. -/
import Derived.Test.YtbeaagnahldefaaDoorM7Aj
import Derived.Test.YtbeaagnahldefaaDoorM7Ah
import Derived.Deep.RegionHeld3
import Derived.Deep.RegionLaw
import Derived.Deep.AppendLies
namespace Wt
open Go Go.RowKit Go.Maps Go.Proofs Fm

def PutPost (w : World) (wb g c : Nat) (l : List Nd) (W : World) (L : List Fm) (v : Value) (D : List Int) (t : Fm) (e : Ending) (W' : World) : Prop :=
  ∃ v', e = .returned (.int .i64 (idx (put t L) t)) ∧ RS w wb g c l W' (put t L) v' D ∧ FR wb g v W W' v'
end Wt
