/- Plain: the tables of the secret votes and of the cryptographers, decided by the kernel: all inputs are few. -/
import Derived.Test.YtflnfcmbalhpnaaDoorM4Be
namespace Wt
open Go Go.RowKit Go.Proofs Fm

/-- The model of some valuations where agent i sees fact i. -/
def selM (n : Nat) (ws : List Nat) : Mo := ⟨ws.length, valR n ws, (List.range n).map fun i => ws.map fun v => setTo (fun w => (nth ws w).testBit i == v.testBit i) ws.length⟩
def selW (n : Nat) (p : Nat → Bool) (v : Nat) : Mo × Int := (selM n ((List.range (2 ^ n)).filter p), posI ((List.range (2 ^ n)).filter p) (v : Int))
def cntT (n v : Nat) : Mo × Int := selW n (fun w => onesN w == onesN v) v
def dcdT (n v q : Nat) : Mo × Int := selW n (fun w => decide (q ≤ onesN w) == decide (q ≤ onesN v)) v
/-- What the laws say that a coalition knows. -/
def tallyWant (n v g i : Nat) : Bool := g.testBit i || v &&& ((2 ^ n - 1) ^^^ g) == 0 || v &&& ((2 ^ n - 1) ^^^ g) == (2 ^ n - 1) ^^^ g
def decWant (n v q g i : Nat) : Bool := g.testBit i || (decide (q ≤ onesN v) && q == onesN (v &&& g) + onesN ((2 ^ n - 1) ^^^ g)) || (!decide (q ≤ onesN v) && q == onesN (v &&& g) + 1)
/-- A pointed model that is right: n agents, f facts. -/
def okP (n f : Nat) (p : Mo × Int) : Bool := moCheck p.1 == 0 && decide (0 ≤ p.2) && decide (p.2 < p.1.worlds) && p.1.rel.length == n && p.1.val.length == f
def knowsQ (p : Mo × Int) (g i : Nat) : Bool := knowsB p.1 p.1.worlds.toNat p.2.toNat g i
theorem okP_at {n f : Nat} {p : Mo × Int} (h : okP n f p = true) : ∃ N x : Nat, MoOk p.1 N ∧ moCheck p.1 = 0 ∧ p.2 = (x : Int) ∧ x < N ∧ p.1.rel.length = n ∧ p.1.val.length = f := by
  simp only [okP, Bool.and_eq_true, beq_iff_eq, decide_eq_true_eq] at h
  obtain ⟨⟨⟨⟨h1, h2⟩, h3⟩, h4⟩, h5⟩ := h
  obtain ⟨N, ok⟩ := moCheck_ok h1
  have := ok.worlds
  exact ⟨N, p.2.toNat, ok, h1, by omega, by omega, h4, h5⟩
theorem okP_knows {n f : Nat} {p : Mo × Int} (h : okP n f p = true) {g i : Nat} (hn : n ≤ 4) (h1 : 1 ≤ g) (h2 : g < 2 ^ n) (hi : i < f) : knowsW p (g : Int) (i : Int) = knowsQ p g i := by
  obtain ⟨N, x, ok, hm, hx, hxN, hr, hv⟩ := okP_at h
  have e : p = (p.1, (x : Int)) := by rw [← hx]
  have hp : p2 p.1.rel.length = (2 ^ n : Nat) := by
    rw [hr]; rcases (show n = 0 ∨ n = 1 ∨ n = 2 ∨ n = 3 ∨ n = 4 by omega) with rfl | rfl | rfl | rfl | rfl <;> rfl
  have hk := knowsW_eq ok hm hxN h1 (by rw [hp]; omega) (show i < p.1.val.length by omega)
  have hw : p.1.worlds.toNat = N := by rw [ok.worlds]; rfl
  unfold knowsQ
  rw [hw, hx]
  rw [e]; exact hk
section
set_option maxRecDepth 100000
theorem votes_tab2 : obErr 2 ccTrue ((List.range 2).map fun i : Nat => [ccFact (i : Int)]) = 0 ∧ votesM 2 = selM 2 (List.range 4) := by decide +kernel
theorem votes_tab3 : obErr 3 ccTrue ((List.range 3).map fun i : Nat => [ccFact (i : Int)]) = 0 ∧ votesM 3 = selM 3 (List.range 8) := by decide +kernel
theorem votes_tab4 : obErr 4 ccTrue ((List.range 4).map fun i : Nat => [ccFact (i : Int)]) = 0 ∧ votesM 4 = selM 4 (List.range 16) := by decide +kernel
theorem cnt_tab2 : ∀ v : _root_.Fin 4, countedW 2 v.val = cntT 2 v.val := by decide +kernel
theorem cnt_tab3 : ∀ v : _root_.Fin 8, countedW 3 v.val = cntT 3 v.val := by decide +kernel
theorem cnt_tab4 : ∀ v : _root_.Fin 16, countedW 4 v.val = cntT 4 v.val := by decide +kernel
theorem dcd_tab2 : ∀ v : _root_.Fin 4, ∀ q : _root_.Fin 3, decidedW 2 v.val q.val = dcdT 2 v.val q.val := by decide +kernel
theorem dcd_tab3 : ∀ v : _root_.Fin 8, ∀ q : _root_.Fin 4, decidedW 3 v.val q.val = dcdT 3 v.val q.val := by decide +kernel
theorem dcd_tab4 : ∀ v : _root_.Fin 16, ∀ q : _root_.Fin 5, decidedW 4 v.val q.val = dcdT 4 v.val q.val := by decide +kernel
end
/-- The law of the count, and of the decision. -/
def tallyAll (n : Nat) : Bool := (List.range (2 ^ n)).all fun v => okP n n (cntT n v) && atErr (cntT n v).1 (cntT n v).2 (fB ⟨13, 0, 0, (2 ^ n : Nat) - 1, 0, 0⟩ [ccTrue, tallyF n (onesN v)]) == 0 && atOf (cntT n v).1 (cntT n v).2 (fB ⟨13, 0, 0, (2 ^ n : Nat) - 1, 0, 0⟩ [ccTrue, tallyF n (onesN v)]) && (List.range (2 ^ n)).all fun g => g == 0 || (List.range n).all fun i => knowsQ (cntT n v) g i == tallyWant n v g i
def decAll (n : Nat) : Bool := (List.range (n + 1)).all fun q => (List.range (2 ^ n)).all fun v => okP n n (dcdT n v q) && (List.range (2 ^ n)).all fun g => g == 0 || (List.range n).all fun i => knowsQ (dcdT n v q) g i == decWant n v q g i
section
set_option maxRecDepth 100000
theorem tally_all2 : tallyAll 2 = true := by decide +kernel
theorem tally_all3 : tallyAll 3 = true := by decide +kernel
theorem tally_all4 : tallyAll 4 = true := by decide +kernel
theorem dec_all2 : decAll 2 = true := by decide +kernel
theorem dec_all3 : decAll 3 = true := by decide +kernel
theorem dec_all4 : decAll 4 = true := by decide +kernel
end
section
variable {n : Nat} (hn : 2 ≤ n ∧ n ≤ 4)
include hn
theorem three : n = 2 ∨ n = 3 ∨ n = 4 := by omega
theorem votes_ok : obErr (n : Int) ccTrue ((List.range n).map fun i : Nat => [ccFact (i : Int)]) = 0 := by
  rcases three hn with rfl | rfl | rfl
  · exact votes_tab2.1
  · exact votes_tab3.1
  · exact votes_tab4.1
theorem votes_eq : votesM n = selM n (List.range (2 ^ n)) := by
  rcases three hn with rfl | rfl | rfl
  · exact votes_tab2.2
  · exact votes_tab3.2
  · exact votes_tab4.2
theorem cnt_eq {v : Nat} (hv : v < 2 ^ n) : countedW n v = cntT n v := by
  rcases three hn with rfl | rfl | rfl
  · exact cnt_tab2 ⟨v, hv⟩
  · exact cnt_tab3 ⟨v, hv⟩
  · exact cnt_tab4 ⟨v, hv⟩
theorem dcd_eq {v q : Nat} (hv : v < 2 ^ n) (hq : q ≤ n) : decidedW n v q = dcdT n v q := by
  rcases three hn with rfl | rfl | rfl
  · exact dcd_tab2 ⟨v, hv⟩ ⟨q, by omega⟩
  · exact dcd_tab3 ⟨v, hv⟩ ⟨q, by omega⟩
  · exact dcd_tab4 ⟨v, hv⟩ ⟨q, by omega⟩
theorem tally_all : tallyAll n = true := by
  rcases three hn with rfl | rfl | rfl
  · exact tally_all2
  · exact tally_all3
  · exact tally_all4
theorem dec_all : decAll n = true := by
  rcases three hn with rfl | rfl | rfl
  · exact dec_all2
  · exact dec_all3
  · exact dec_all4
theorem cnt_okP {v : Nat} (hv : v < 2 ^ n) : okP n n (countedW n v) = true := by
  have h := List.all_eq_true.1 (tally_all hn) v (List.mem_range.2 hv)
  simp only [Bool.and_eq_true] at h
  rw [cnt_eq hn hv]; exact h.1.1.1
theorem tally_common {v : Nat} (hv : v < 2 ^ n) : atErr (countedW n v).1 (countedW n v).2 (fB ⟨13, 0, 0, (2 ^ n : Nat) - 1, 0, 0⟩ [ccTrue, tallyF n (onesN v)]) = 0 ∧ atOf (countedW n v).1 (countedW n v).2 (fB ⟨13, 0, 0, (2 ^ n : Nat) - 1, 0, 0⟩ [ccTrue, tallyF n (onesN v)]) = true := by
  have h := List.all_eq_true.1 (tally_all hn) v (List.mem_range.2 hv)
  simp only [Bool.and_eq_true] at h
  rw [cnt_eq hn hv]; exact ⟨eq_of_beq h.1.1.2, h.1.2⟩
theorem tally_law {v g i : Nat} (hv : v < 2 ^ n) (h1 : 1 ≤ g) (h2 : g < 2 ^ n) (hi : i < n) : knowsW (countedW n v) (g : Int) (i : Int) = tallyWant n v g i := by
  rw [okP_knows (cnt_okP hn hv) (by omega) h1 h2 hi, cnt_eq hn hv]
  have h := List.all_eq_true.1 (tally_all hn) v (List.mem_range.2 hv)
  simp only [Bool.and_eq_true] at h
  have h3 := List.all_eq_true.1 h.2 g (List.mem_range.2 h2)
  rw [Bool.or_eq_true] at h3
  rcases h3 with h3 | h3
  · have := eq_of_beq h3; omega
  · exact eq_of_beq (List.all_eq_true.1 h3 i (List.mem_range.2 hi))
theorem dcd_okP {v q : Nat} (hv : v < 2 ^ n) (hq : q ≤ n) : okP n n (decidedW n v q) = true := by
  have h := List.all_eq_true.1 (List.all_eq_true.1 (dec_all hn) q (List.mem_range.2 (by omega))) v (List.mem_range.2 hv)
  simp only [Bool.and_eq_true] at h
  rw [dcd_eq hn hv hq]; exact h.1
theorem dec_law {v q g i : Nat} (hv : v < 2 ^ n) (hq : q ≤ n) (h1 : 1 ≤ g) (h2 : g < 2 ^ n) (hi : i < n) : knowsW (decidedW n v q) (g : Int) (i : Int) = decWant n v q g i := by
  rw [okP_knows (dcd_okP hn hv hq) (by omega) h1 h2 hi, dcd_eq hn hv hq]
  have h := List.all_eq_true.1 (List.all_eq_true.1 (dec_all hn) q (List.mem_range.2 (by omega))) v (List.mem_range.2 hv)
  simp only [Bool.and_eq_true] at h
  have h3 := List.all_eq_true.1 h.2 g (List.mem_range.2 h2)
  rw [Bool.or_eq_true] at h3
  rcases h3 with h3 | h3
  · have := eq_of_beq h3; omega
  · exact eq_of_beq (List.all_eq_true.1 h3 i (List.mem_range.2 hi))
end
end Wt
