/- Plain: what wittingref09.FromTable makes (a list by cases, its short form), and tables of Tally and Passes. -/
import Derived.Test.YtflnfcmbalhpnaaGreatDoorM4Be
import Derived.Test.YtflnfcmbalhpnaaGreatDoorM5Ac
namespace Wt
open Go Go.RowKit Go.Maps Go.Proofs Fm

def fmL : Nat → BitVec 64 → List Nd → List Nd × Nat
  | 0, t, f => (f ++ [if t &&& 1#64 = 1#64 then ⟨1, 0, 0, 0, 0, 0⟩ else ⟨2, 0, 0, 0, 0, 0⟩], f.length)
  | n + 1, t, f =>
    let lo := t &&& (1#64 <<< (2 ^ n) - 1#64)
    let hi := t >>> (2 ^ n)
    let p := fmL n lo f
    if lo = hi then p else
    let q := fmL n hi p.1
    let k := q.1.length
    (q.1 ++ [⟨3, (n : Int), 0, 0, 0, 0⟩, ⟨4, 0, 0, 0, (k : Int), 0⟩, ⟨5, 0, 0, 0, ((k + 1 : Nat) : Int), (p.2 : Int)⟩, ⟨5, 0, 0, 0, (k : Int), (q.2 : Int)⟩, ⟨6, 0, 0, 0, ((k + 2 : Nat) : Int), ((k + 3 : Nat) : Int)⟩], k + 4)
def reN (x : Nd) (ps : List Nat) : Nd := ⟨x.op, x.i, x.e, x.g, if (useOf x.op).1.x then ((nth ps x.x.toNat : Nat) : Int) else x.x, if (useOf x.op).1.y then ((nth ps x.y.toNat : Nat) : Int) else x.y⟩
def lastAt (out : List Nd) (x : Nd) : Nat → Int
  | 0 => -1
  | k + 1 => if x = nth out k then (k : Int) else lastAt out x k
def shStep (s : List Nd × List Nat) (x : Nd) : List Nd × List Nat :=
  let y := reN x s.2
  let a := lastAt s.1 y s.1.length
  if a < 0 then (s.1 ++ [y], s.2 ++ [s.1.length]) else (s.1, s.2 ++ [a.toNat])
def shTo (l : List Nd) : Nat → List Nd × List Nat
  | 0 => ([], [])
  | k + 1 => shStep (shTo l k) (nth l k)
def short9 (l : List Nd) : List Nd := fCompact (shTo l l.length).1
def backB (l : List Nd) : Bool := (List.range l.length).all fun k => (!(useOf (nth l k).op).1.x || (decide (0 ≤ (nth l k).x) && decide ((nth l k).x < (k : Int)))) && (!(useOf (nth l k).op).1.y || (decide (0 ≤ (nth l k).y) && decide ((nth l k).y < (k : Int))))
def fromF (t : BitVec 64) (n : Nat) : List Nd := short9 (fmL n t []).1
def tallyT (n lo hi : Nat) : BitVec 64 := setTo (fun v => decide (lo ≤ onesN v) && decide (onesN v ≤ hi)) (2 ^ n)
def tblOk (n lo hi : Nat) : Bool := let t := tallyT n lo hi; let l := (fmL n t []).1; backB l && decide (l.length ≤ 100) && decide (0 < (fromF t n).length) && decide (tabErr (fromF t n) (n : Int) = 0)
def tblEq (n lo hi : Nat) (g : List Nd) : Bool := decide (tabErr g (n : Int) = 0) && decide (tabOf g (n : Int) = tallyT n lo hi) && decide (tabOf (fromF (tallyT n lo hi) n) (n : Int) = tallyT n lo hi) && decide (0 < g.length)
set_option maxRecDepth 100000 in
theorem tbl_2 : ∀ k : _root_.Fin 3, tblOk 2 k.val k.val = true ∧ tblOk 2 k.val 2 = true ∧ tblEq 2 k.val k.val (tallyF 2 k.val) = true ∧ tblEq 2 k.val 2 (passF 2 k.val) = true := by decide +kernel
set_option maxRecDepth 100000 in
theorem tbl_3 : ∀ k : _root_.Fin 4, tblOk 3 k.val k.val = true ∧ tblOk 3 k.val 3 = true ∧ tblEq 3 k.val k.val (tallyF 3 k.val) = true ∧ tblEq 3 k.val 3 (passF 3 k.val) = true := by decide +kernel
set_option maxRecDepth 100000 in
theorem tbl_4 : ∀ k : _root_.Fin 5, tblOk 4 k.val k.val = true ∧ tblOk 4 k.val 4 = true ∧ tblEq 4 k.val k.val (tallyF 4 k.val) = true ∧ tblEq 4 k.val 4 (passF 4 k.val) = true := by decide +kernel
theorem tbl_ok {n k : Nat} (hn : 2 ≤ n ∧ n ≤ 4) (hk : k ≤ n) : tblOk n k k = true ∧ tblOk n k n = true ∧ tblEq n k k (tallyF n k) = true ∧ tblEq n k n (passF n k) = true := by
  rcases (show n = 2 ∨ n = 3 ∨ n = 4 by omega) with rfl | rfl | rfl
  · exact tbl_2 ⟨k, by omega⟩
  · exact tbl_3 ⟨k, by omega⟩
  · exact tbl_4 ⟨k, by omega⟩
end Wt
