/- Plain: the tables of the dining cryptographers, decided by the kernel. -/
import Derived.Test.YtflnfcmbalhpnaaDoorM4Bl
namespace Wt
open Go Go.RowKit Go.Proofs Fm

/-- The states before anybody speaks: at most one has paid. -/
def dinW0 (n : Nat) : List Nat := (List.range (2 ^ (2 * n))).filter fun v => decide (onesN (v &&& (2 ^ n - 1)) ≤ 1)
def dinAg (n i v w : Nat) : Bool := (w.testBit i == v.testBit i) && (w.testBit (n + i) == v.testBit (n + i)) && (w.testBit (n + (i + n - 1) % n) == v.testBit (n + (i + n - 1) % n))
def dinSel (n : Nat) (ws : List Nat) : Mo := ⟨ws.length, valR (2 * n) ws, (List.range n).map fun i => ws.map fun v => setTo (fun w => dinAg n i (nth ws w) v) ws.length⟩
def sayB (n i v : Nat) : Bool := (v.testBit (n + i) == v.testBit (n + (i + n - 1) % n)) == v.testBit i
def dinSt (n p c : Nat) : Nat := c * 2 ^ n + (if p = 0 then 0 else 2 ^ (p - 1))
def dinWs (n s : Nat) : List Nat := (dinW0 n).filter fun w => (List.range n).all fun i => sayB n i w == sayB n i s
def spT (n p c : Nat) : Mo × Int := (dinSel n (dinWs n (dinSt n p c)), posI (dinWs n (dinSt n p c)) ((dinSt n p c : Nat) : Int))
/-- The announcements up to k: each is made at a world of a right model. -/
def spokeTo (n p c : Nat) : Nat → Mo × Int
  | 0 => (dinM n, posI (dinS n) ((dinSt n p c : Nat) : Int))
  | k + 1 => annW (spokeTo n p c k) (sayF n k)
def spOk (n p c : Nat) : Bool := (List.range (n + 1)).all fun k => okP n (2 * n) (spokeTo n p c k) && decide ((spokeTo n p c k).1.worlds < 64)
def anonWant (n p g i : Nat) : Bool := g.testBit i || p == 0 || g.testBit (p - 1) || (2 ^ n - 1) ^^^ g == 2 ^ i
def someF (n : Nat) : Nat → List Nd
  | 0 => ccFalse
  | k + 1 => ccOr (someF n k) (ccFact (k : Int))
def paidF (n p : Nat) : List Nd := if p = 0 then ccNot (someF n n) else someF n n
/-- The laws of what all have said. -/
def anonAll (n : Nat) : Bool := (List.range (n + 1)).all fun p => (List.range (2 ^ n)).all fun c => okP n (2 * n) (spT n p c) && (List.range (2 ^ n)).all fun g => g == 0 || (List.range n).all fun i => knowsQ (spT n p c) g i == anonWant n p g i
def oddTo (n : Nat) (q : Mo × Int) : Nat → Bool
  | 0 => false
  | k + 1 => oddTo n q k != atOf q.1 q.2 (sayF n k)
def parAll (n : Nat) : Bool := (List.range (n + 1)).all fun p => (List.range (2 ^ n)).all fun c => ((List.range n).all fun k => atErr (spT n p c).1 (spT n p c).2 (sayF n k) == 0) && oddTo n (spT n p c) n == decide (1 ≤ p) && atErr (spT n p c).1 (spT n p c).2 (fB ⟨13, 0, 0, (2 ^ n : Nat) - 1, 0, 0⟩ [ccTrue, paidF n p]) == 0 && atOf (spT n p c).1 (spT n p c).2 (fB ⟨13, 0, 0, (2 ^ n : Nat) - 1, 0, 0⟩ [ccTrue, paidF n p])
section
set_option maxRecDepth 100000
theorem din_tab2 : obErr 4 (dinLaw 2) (dinSeen 2) = 0 ∧ dinM 2 = dinSel 2 (dinW0 2) ∧ dinS 2 = dinW0 2 := by decide +kernel
theorem din_tab3 : obErr 6 (dinLaw 3) (dinSeen 3) = 0 ∧ dinM 3 = dinSel 3 (dinW0 3) ∧ dinS 3 = dinW0 3 := by decide +kernel
theorem sp_tab2 : ∀ p : _root_.Fin 3, ∀ c : _root_.Fin 4, spOk 2 p.val c.val = true ∧ spokeTo 2 p.val c.val 2 = spT 2 p.val c.val := by decide +kernel
theorem sp_tab3 : ∀ p : _root_.Fin 4, ∀ c : _root_.Fin 8, spOk 3 p.val c.val = true ∧ spokeTo 3 p.val c.val 3 = spT 3 p.val c.val := by decide +kernel
theorem anon_all2 : anonAll 2 = true := by decide +kernel
theorem anon_all3 : anonAll 3 = true := by decide +kernel
theorem par_all2 : parAll 2 = true := by decide +kernel
theorem par_all3 : parAll 3 = true := by decide +kernel
end
section
variable {n : Nat} (hn : 2 ≤ n ∧ n ≤ 3)
include hn
theorem two : n = 2 ∨ n = 3 := by omega
theorem din_ok : obErr ((2 * n : Nat) : Int) (dinLaw n) (dinSeen n) = 0 := by
  rcases two hn with rfl | rfl
  · exact din_tab2.1
  · exact din_tab3.1
theorem sp_both {p c k : Nat} (hp : p ≤ n) (hc : c < 2 ^ n) (hk : k ≤ n) : (okP n (2 * n) (spokeTo n p c k) && decide ((spokeTo n p c k).1.worlds < 64)) = true := by
  have h : spOk n p c = true := by
    rcases two hn with rfl | rfl
    · exact (sp_tab2 ⟨p, by omega⟩ ⟨c, hc⟩).1
    · exact (sp_tab3 ⟨p, by omega⟩ ⟨c, hc⟩).1
  exact List.all_eq_true.1 h k (List.mem_range.2 (by omega))
theorem sp_ok {p c k : Nat} (hp : p ≤ n) (hc : c < 2 ^ n) (hk : k ≤ n) : okP n (2 * n) (spokeTo n p c k) = true := by
  have h := sp_both hn hp hc hk
  rw [Bool.and_eq_true] at h; exact h.1
theorem sp_lt {p c k : Nat} (hp : p ≤ n) (hc : c < 2 ^ n) (hk : k ≤ n) : (spokeTo n p c k).1.worlds < 64 := by
  have h := sp_both hn hp hc hk
  rw [Bool.and_eq_true] at h; exact of_decide_eq_true h.2
theorem sp_eq {p c : Nat} (hp : p ≤ n) (hc : c < 2 ^ n) : spokeTo n p c n = spT n p c := by
  rcases two hn with rfl | rfl
  · exact (sp_tab2 ⟨p, by omega⟩ ⟨c, hc⟩).2
  · exact (sp_tab3 ⟨p, by omega⟩ ⟨c, hc⟩).2
theorem anon_law {p c g i : Nat} (hp : p ≤ n) (hc : c < 2 ^ n) (h1 : 1 ≤ g) (h2 : g < 2 ^ n) (hi : i < n) : knowsW (spokeTo n p c n) (g : Int) (i : Int) = anonWant n p g i := by
  have ha : anonAll n = true := by
    rcases two hn with rfl | rfl
    · exact anon_all2
    · exact anon_all3
  have h := List.all_eq_true.1 (List.all_eq_true.1 ha p (List.mem_range.2 (by omega))) c (List.mem_range.2 hc)
  simp only [Bool.and_eq_true] at h
  rw [sp_eq hn hp hc, okP_knows h.1 (by omega) h1 h2 (show i < 2 * n by omega)]
  have h3 := List.all_eq_true.1 h.2 g (List.mem_range.2 h2)
  rw [Bool.or_eq_true] at h3
  rcases h3 with h3 | h3
  · have := eq_of_beq h3; omega
  · exact eq_of_beq (List.all_eq_true.1 h3 i (List.mem_range.2 hi))
theorem par_law {p c : Nat} (hp : p ≤ n) (hc : c < 2 ^ n) : (∀ k, k < n → atErr (spokeTo n p c n).1 (spokeTo n p c n).2 (sayF n k) = 0) ∧ oddTo n (spokeTo n p c n) n = decide (1 ≤ p) ∧ atErr (spokeTo n p c n).1 (spokeTo n p c n).2 (fB ⟨13, 0, 0, (2 ^ n : Nat) - 1, 0, 0⟩ [ccTrue, paidF n p]) = 0 ∧ atOf (spokeTo n p c n).1 (spokeTo n p c n).2 (fB ⟨13, 0, 0, (2 ^ n : Nat) - 1, 0, 0⟩ [ccTrue, paidF n p]) = true := by
  have ha : parAll n = true := by
    rcases two hn with rfl | rfl
    · exact par_all2
    · exact par_all3
  have h := List.all_eq_true.1 (List.all_eq_true.1 ha p (List.mem_range.2 (by omega))) c (List.mem_range.2 hc)
  simp only [Bool.and_eq_true] at h
  rw [sp_eq hn hp hc]
  exact ⟨fun k hk => eq_of_beq (List.all_eq_true.1 h.1.1.1 k (List.mem_range.2 hk)), eq_of_beq h.1.1.2, eq_of_beq h.1.2, h.2⟩
end
end Wt
