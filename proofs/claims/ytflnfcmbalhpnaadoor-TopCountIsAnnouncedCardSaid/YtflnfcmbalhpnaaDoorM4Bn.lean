/- Walks: coins, Says, Dining of package secrets (printed by gen_seh.py). -/
import Derived.Test.YtflnfcmbalhpnaaDoorM4Bm
namespace Wt
open Go Go.RowKit Go.Maps Go.Proofs Fm

/-- The other coin. -/
def othC (n i : Nat) : Nat := (i + n - 1) % n
/-- What a cryptographer says. -/
theorem say_eq (n a : Nat) : sayF n a = ccIff (ccIff (ccFact ((n + a : Nat) : Int)) (ccFact ((n + othC n a : Nat) : Int))) (ccFact (a : Int)) := rfl
def dinTo (n k : Nat) : List (List (List Nd)) := (List.range k).map fun i : Nat => [ccFact (i : Int), ccFact ((n + i : Nat) : Int), ccFact ((n + othC n i : Nat) : Int)]
theorem dinTo_len (n k : Nat) : (dinTo n k).length = k := by simp [dinTo]
theorem dinTo_step (n k : Nat) : dinTo n (k + 1) = dinTo n k ++ [[ccFact (k : Int), ccFact ((n + k : Nat) : Int), ccFact ((n + othC n k : Nat) : Int)]] := by simp [dinTo, List.range_succ]
theorem Stay.three {g : Option Nat} {nw : Nat} {w4 : World} {a0 a1 a2 : Option Addr} {c0 c1 c2 : Nat} {F0 F1 F2 : List Nd} (hg : ∀ q, g = some q → q < nw) (hb : nw ≤ w4.heap.size) (h0 : RN w4 a0 F0) (h1 : RN w4 a1 F1) (h2 : RN w4 a2 F2) (f0 : Fresh a0 nw) (f1 : Fresh a1 nw) (f2 : Fresh a2 nw) (p0 : 0 < F0.length) (p1 : 0 < F1.length) (p2 : 0 < F2.length) (T : Nat) (o : Obj) :
    Stay g ((w4.alloc (.cells #[.slice a0 F0.length c0, .slice a1 F1.length c1, .slice a2 F2.length c2] T)).alloc o) (some ⟨w4.heap.size, 0, none⟩) [F0, F1, F2] := by
  have hE := ((Ext.refl w4).alloc (.cells #[.slice a0 F0.length c0, .slice a1 F1.length c1, .slice a2 F2.length c2] T)).alloc o
  refine Stay.list hg hb (by simp; omega) (by simp) fun k hk => ?_
  rcases (show k = 0 ∨ k = 1 ∨ k = 2 by simp at hk; omega) with rfl | rfl | rfl
  · exact ⟨a0, c0, by simp [nth], h0.ext hE, f0, p0⟩
  · exact ⟨a1, c1, by simp [nth], h1.ext hE, f1, p1⟩
  · exact ⟨a2, c2, by simp [nth], h2.ext hE, f2, p2⟩
theorem Fresh.mono {a : Option Addr} {n m : Nat} (h : Fresh a n) (hm : m ≤ n) : Fresh a m := fun b off e => Nat.le_trans hm (h b off e)
end Wt
