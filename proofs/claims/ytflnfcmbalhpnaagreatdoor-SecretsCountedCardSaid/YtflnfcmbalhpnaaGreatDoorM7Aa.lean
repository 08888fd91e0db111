/- Plain: announcing the reference's formulas leaves what announcing the program's formulas leaves (tables decided by the kernel). -/
import Derived.Test.YtflnfcmbalhpnaaGreatDoorM4Bl
import Derived.Test.YtflnfcmbalhpnaaGreatDoorM6Aa
namespace Wt
open Go Go.RowKit Go.Maps Go.Proofs Fm

def cntR (n v : Nat) : Mo × Int := annW (votesM n, (v : Int)) (fromF (tallyT n (onesN v) (onesN v)) n)
def dcdR (n v q : Nat) : Mo × Int := annW (votesM n, (v : Int)) (fromF (tallyT n q n) n)
section
set_option maxRecDepth 100000
theorem cntR_tab2 : ∀ v : _root_.Fin 4, cntR 2 v.val = cntT 2 v.val := by decide +kernel
theorem cntR_tab3 : ∀ v : _root_.Fin 8, cntR 3 v.val = cntT 3 v.val := by decide +kernel
theorem cntR_tab4 : ∀ v : _root_.Fin 16, cntR 4 v.val = cntT 4 v.val := by decide +kernel
theorem dcdR_tab2 : ∀ v : _root_.Fin 4, ∀ q : _root_.Fin 3, dcdR 2 v.val q.val = dcdT 2 v.val q.val := by decide +kernel
theorem dcdR_tab3 : ∀ v : _root_.Fin 8, ∀ q : _root_.Fin 4, dcdR 3 v.val q.val = dcdT 3 v.val q.val := by decide +kernel
theorem dcdR_tab4 : ∀ v : _root_.Fin 16, ∀ q : _root_.Fin 5, dcdR 4 v.val q.val = dcdT 4 v.val q.val := by decide +kernel
end
theorem cntR_eq {n v : Nat} (hn : 2 ≤ n ∧ n ≤ 4) (hv : v < 2 ^ n) : cntR n v = countedW n v := by
  rw [cnt_eq hn hv]
  rcases three hn with rfl | rfl | rfl
  · exact cntR_tab2 ⟨v, hv⟩
  · exact cntR_tab3 ⟨v, hv⟩
  · exact cntR_tab4 ⟨v, hv⟩
theorem dcdR_eq {n v q : Nat} (hn : 2 ≤ n ∧ n ≤ 4) (hv : v < 2 ^ n) (hq : q ≤ n) : dcdR n v q = decidedW n v q := by
  rw [dcd_eq hn hv hq]
  rcases three hn with rfl | rfl | rfl
  · exact dcdR_tab2 ⟨v, hv⟩ ⟨q, by omega⟩
  · exact dcdR_tab3 ⟨v, hv⟩ ⟨q, by omega⟩
  · exact dcdR_tab4 ⟨v, hv⟩ ⟨q, by omega⟩
end Wt
