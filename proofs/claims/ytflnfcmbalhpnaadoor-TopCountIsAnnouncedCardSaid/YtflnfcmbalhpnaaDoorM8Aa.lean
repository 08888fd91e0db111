/- The walk of SecretsDecides (printed by gen_law44.py). -/
import Derived.Test.YtflnfcmbalhpnaaDoorM4Bp
import Derived.Test.YtflnfcmbalhpnaaDoorM4Bl
namespace Wt
open Go Go.RowKit Go.Maps Go.Proofs Fm

theorem all_tab : ∀ n : _root_.Fin 5, ∀ g : _root_.Fin 16, g.val < 2 ^ n.val → (2 ^ n.val - 1) &&& (4294967295 - g.val) = (2 ^ n.val - 1) ^^^ g.val ∧ (2 ^ n.val - 1) ^^^ g.val < 16 := by decide +kernel
theorem all_not {n g : Nat} (hn : n ≤ 4) (hg : g < 2 ^ n) : (2 ^ n - 1) &&& (4294967295 - g) = (2 ^ n - 1) ^^^ g ∧ (2 ^ n - 1) ^^^ g < 16 := all_tab ⟨n, by omega⟩ ⟨g, by have := pow16 hn; omega⟩ hg
theorem ones4_tab : ∀ v : _root_.Fin 16, onesN v.val ≤ 4 := by decide +kernel
theorem ones4 {v : Nat} (h : v < 16) : onesN v ≤ 4 := ones4_tab ⟨v, h⟩
/-- The numbers of a law: how many, all, and the bounds. -/
structure Sz (n a : Nat) : Prop where
  n2 : 2 ≤ n
  n4 : n ≤ 4
  eq : a = 2 ^ n - 1
  pw : 2 ^ n = a + 1
  lo : 3 ≤ a
  hi : a ≤ 15
theorem Sz.mk' (n : Nat) (h2 : 2 ≤ n) (h4 : n ≤ 4) : Sz n (2 ^ n - 1) := by
  rcases (show n = 2 ∨ n = 3 ∨ n = 4 by omega) with rfl | rfl | rfl <;> exact ⟨by decide, by decide, rfl, by decide, by decide, by decide⟩
end Wt

/- Plain: updating the model of votes by the count, or by whether the vote has passed, is what counting and deciding leave (tables decided by the kernel). -/
namespace Wt
open Go Go.RowKit Go.Proofs Fm

def updW (M : Mo) (f : List Nd) (x : Int) : Mo × Int := (upM M f, posI (upL M f) x)
def saidF (n v q : Nat) : List Nd := if onesN v < q then ccNot (passF n q) else passF n q
section
set_option maxRecDepth 100000
theorem updC2 : ∀ v : _root_.Fin 4, upErr (votesM 2) (tallyF 2 (onesN v.val)) = 0 ∧ updW (votesM 2) (tallyF 2 (onesN v.val)) (v.val : Int) = cntT 2 v.val := by decide +kernel
theorem updC3 : ∀ v : _root_.Fin 8, upErr (votesM 3) (tallyF 3 (onesN v.val)) = 0 ∧ updW (votesM 3) (tallyF 3 (onesN v.val)) (v.val : Int) = cntT 3 v.val := by decide +kernel
theorem updC4 : ∀ v : _root_.Fin 16, upErr (votesM 4) (tallyF 4 (onesN v.val)) = 0 ∧ updW (votesM 4) (tallyF 4 (onesN v.val)) (v.val : Int) = cntT 4 v.val := by decide +kernel
theorem updD2 : ∀ v : _root_.Fin 4, ∀ q : _root_.Fin 3, upErr (votesM 2) (saidF 2 v.val q.val) = 0 ∧ updW (votesM 2) (saidF 2 v.val q.val) (v.val : Int) = dcdT 2 v.val q.val := by decide +kernel
theorem updD3 : ∀ v : _root_.Fin 8, ∀ q : _root_.Fin 4, upErr (votesM 3) (saidF 3 v.val q.val) = 0 ∧ updW (votesM 3) (saidF 3 v.val q.val) (v.val : Int) = dcdT 3 v.val q.val := by decide +kernel
theorem updD4 : ∀ v : _root_.Fin 16, ∀ q : _root_.Fin 5, upErr (votesM 4) (saidF 4 v.val q.val) = 0 ∧ updW (votesM 4) (saidF 4 v.val q.val) (v.val : Int) = dcdT 4 v.val q.val := by decide +kernel
end
theorem upd_count {n v : Nat} (hn : 2 ≤ n ∧ n ≤ 4) (hv : v < 2 ^ n) : upErr (votesM n) (tallyF n (onesN v)) = 0 ∧ updW (votesM n) (tallyF n (onesN v)) (v : Int) = countedW n v := by
  rw [cnt_eq hn hv]
  rcases three hn with rfl | rfl | rfl
  · exact updC2 ⟨v, hv⟩
  · exact updC3 ⟨v, hv⟩
  · exact updC4 ⟨v, hv⟩
theorem upd_dec {n v q : Nat} (hn : 2 ≤ n ∧ n ≤ 4) (hv : v < 2 ^ n) (hq : q ≤ n) : upErr (votesM n) (saidF n v q) = 0 ∧ updW (votesM n) (saidF n v q) (v : Int) = decidedW n v q := by
  rw [dcd_eq hn hv hq]
  rcases three hn with rfl | rfl | rfl
  · exact updD2 ⟨v, hv⟩ ⟨q, by omega⟩
  · exact updD3 ⟨v, hv⟩ ⟨q, by omega⟩
  · exact updD4 ⟨v, hv⟩ ⟨q, by omega⟩
/-- The votes counted one by one. -/
def sumTo (v : Nat) : Nat → Nat
  | 0 => 0
  | k + 1 => sumTo v k + v / 2 ^ k % 2
theorem sum_ones : ∀ n : _root_.Fin 5, ∀ v : _root_.Fin 16, v.val < 2 ^ n.val → sumTo v.val n.val = onesN v.val := by decide +kernel
theorem sumTo_ones {n v : Nat} (hn : n ≤ 4) (hv : v < 2 ^ n) : sumTo v n = onesN v := by
  have h : 2 ^ n ≤ 16 := by
    rcases (show n = 0 ∨ n = 1 ∨ n = 2 ∨ n = 3 ∨ n = 4 by omega) with rfl | rfl | rfl | rfl | rfl <;> decide
  exact sum_ones ⟨n, by omega⟩ ⟨v, by omega⟩ hv
theorem sumTo_le (v : Nat) : ∀ k, sumTo v k ≤ k
  | 0 => Nat.le_refl _
  | k + 1 => by
    have := sumTo_le v k
    have : v / 2 ^ k % 2 < 2 := Nat.mod_lt _ (by decide)
    simp only [sumTo]; omega
end Wt
