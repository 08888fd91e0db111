/- Walks: wittingref05.Frag, Frags, Facts, Agents. -/
import Derived.Test.YtflnfcmbalhpnaaDoorM4Aw
import Derived.Test.YtflnfcmbalhpnaaDoorM4Ai
import Derived.Test.YtflnfcmbalhpnaaDoorM4Am
import Derived.Test.YtflnfcmbalhpnaaDoorM4Aq
namespace Wt
open Go Go.RowKit Go.Maps Go.Proofs Fm

end Wt

/- Walks: wittingref05.Agents, Fits. -/
namespace Wt
open Go Go.RowKit Go.Maps Go.Proofs Fm

end Wt

/- Walks: wittingref17.Check, fits. -/
namespace Wt
open Go Go.RowKit Go.Maps Go.Proofs Fm

/-- Is a node static, and does it fit a model? -/
def fitsOf (M : Mo) (L : List Nd) : Bool := decide (fFrags L < 16) && fFits L M.rel.length M.val.length
/-- A node of a right formula fits exactly if its tree has a set. -/
theorem fits_sem {M : Mo} (hr : M.rel.length ≤ 4) (hv : M.val.length ≤ 8) {f : List Nd} (hc : fCheck f = 0) {k : Nat} (hk : k < f.length) : fitsOf M (fSub f k) = (semT M (trAt f k)).2 := by
  obtain ⟨h0, h200, hw⟩ := fCheck_ok.1 hc
  have ht : fok (trAt f k) := fok_trAt hw _ k (Nat.lt_succ_self k) hk
  have hs : fsize (trAt f k) ≤ 200 := Nat.le_trans (fsize_le hw hk) h200
  have e : fSub f k = canon (trAt f k) := by unfold fSub; rw [if_pos ⟨hc, by omega, by omega⟩, Int.toNat_natCast]
  rw [e, semT_fits M hr hv _ ht]
  unfold fitsOf fFits
  rw [canon_check _ ht hs]
  unfold fFrags fAgents fFacts
  rw [compact_canon _ ht hs]
  simp [Bool.and_assoc]
end Wt
