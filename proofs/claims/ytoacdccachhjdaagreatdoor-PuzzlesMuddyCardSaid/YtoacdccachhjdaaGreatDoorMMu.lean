/- Lists of formulas in memory: a literal one, old formulas, copies. -/
import Derived.Test.YtoacdccachhjdaaGreatDoorMACb
import Derived.Test.YtoacdccachhjdaaGreatDoorMABc
import Derived.Test.YtoacdccachhjdaaGreatDoorMACh
import Derived.Test.YtoacdccachhjdaaGreatDoorRows
import Derived.Test.YtoacdccachhjdaaGreatDoorCards
import Derived.Test.YtoacdccachhjdaaGreatDoorTie
import Derived.Test.YtoacdccachhjdaaGreatDoorMAAx
import Derived.ProofKit
import Derived.LaidMore
import Derived.SizedLaws
import Derived.SevenTiedAt
namespace Wt
open Go Go.RowKit Go.Maps Go.Proofs Fm

section
variable {W0 w wq W1 : World} {L : List (List Nd)} {svs : List Value} {v v' : Value}
theorem StayN.old {g : Option Nat} {a : Option Addr} {l : List Nd} (hr : RN W0 a l) (e : Ext W0 w) (hg : ∀ k, g = some k → W0.heap.size ≤ k) : StayN g w a l := fun w' hk => by
  by_cases h0 : 0 < l.length
  · obtain ⟨b', o', e', hb', -⟩ := hr.get h0
    refine (hr.ext e).keepB fun b off e2 => ?_
    rw [e'] at e2
    cases e2
    exact hk _ (Nat.lt_of_lt_of_le hb' e.size) fun e3 => by have h1 := hg _ e3.symm; omega
  · obtain rfl : l = [] := List.eq_nil_of_length_eq_zero (by omega)
    exact RN.nil _ _
/-- A literal list of one formula. -/
theorem FK.one (w : World) (a : Option Addr) (c : Nat) (l : List Nd) (h : RN w a l) : FK w [l] [.slice a l.length c] (.slice (some ⟨w.heap.size, 0, none⟩) 1 1) (w.alloc (.cells #[.slice a l.length c] 44)) :=
  ⟨(Ext.refl w).alloc _, rfl, ⟨rfl, .inr ⟨w.heap.size, 1, #[.slice a l.length c], rfl, Nat.le_refl _, by show (w.heap.push _)[w.heap.size]? = _; simp, Nat.le_refl _, by decide, rfl, rfl⟩⟩, fun j hj => by
    have hj0 : j = 0 := by simp at hj; omega
    subst hj0
    exact ⟨a, c, rfl, StayN.old h ((Ext.refl w).alloc _) (fun k hk => by simp [Value.ownBlock] at hk; omega)⟩⟩
/-- An empty literal list. -/
theorem own_empty (w : World) (B T : Nat) (hB : B ≤ w.heap.size) : (w.alloc (.cells #[] T)).ownsRow B T 1 (.slice (some ⟨w.heap.size, 0, none⟩) 0 0) 0 [] :=
  ⟨rfl, .inr ⟨w.heap.size, 0, #[], rfl, hB, by show (w.heap.push _)[w.heap.size]? = _; simp, Nat.le_refl _, Nat.zero_le _, rfl, rfl⟩⟩
theorem own_ext2 {w w' : World} {B T sz n : Nat} {v : Value} {xs : List Value} (h : w.ownsRow B T sz v n xs) (e : Ext w w') : w'.ownsRow B T sz v n xs :=
  h.kept (row := none) ⟨e.os, e.tape, e.output, e.size, fun k hk _ => e.block k hk⟩ (by cases v.ownBlock <;> simp)
theorem news_grown {V W1 : World} {s : Nat} {r : Option Nat} {l : List Value} (h : ∀ j u, l[j]? = some u → V.cell? ((⟨s, 0, none⟩ : Addr).add j) = some u) (g : V.grownBy W1 r) (hne : some s ≠ r) (hs : s < V.heap.size) : ∀ j u, l[j]? = some u → W1.cell? ((⟨s, 0, none⟩ : Addr).add j) = some u := fun j u hj => by
  have h1 := h j u hj
  rw [Addr.add_lit] at h1 ⊢
  exact (World.cell?_of_block (g.block s hs hne)).trans h1
theorem news_ext {V W1 : World} {ad : Addr} {l : List Value} (h : ∀ j u, l[j]? = some u → V.cell? (ad.add j) = some u) (e : Ext V W1) : ∀ j u, l[j]? = some u → W1.cell? (ad.add j) = some u := fun j u hj => e.cell (h j u hj)
/-- A copy of such a list, in memory made later. -/
theorem FK.copy (h : FK W0 L svs v wq) (e : Ext wq W1) (ho : W1.ownsRow wq.heap.size 44 1 v' svs.length svs) : FK wq L svs v' W1 :=
  ⟨e, h.len, ho, fun j hj => by
    obtain ⟨a, c, h1, h2⟩ := h.rd j hj
    exact ⟨a, c, h1, StayN.old (h2 wq fun _ _ _ => rfl) e fun k hk => (ho.lt k hk).1⟩⟩
theorem FK.cells (h : FK W0 L svs v w) (h0 : 0 < L.length) : ∃ g cap, v = .slice (some ⟨g, 0, none⟩) svs.length cap ∧ g < w.heap.size ∧ ∀ j u, svs[j]? = some u → w.cell? ((⟨g, 0, none⟩ : Addr).add j) = some u := by
  have hl := h.len
  rcases h.own.2 with ⟨rfl, h1⟩ | ⟨g, cap, cur, rfl, hb, hg, hnc, hcm, hcs, htake⟩
  · omega
  · refine ⟨g, cap, rfl, (Array.getElem?_eq_some_iff.1 hg).1, fun j u hj => ?_⟩
    have hjl : j < svs.length := by
      rcases Nat.lt_or_ge j svs.length with h | h
      · exact h
      · rw [List.getElem?_eq_none h] at hj; cases hj
    rw [Addr.add_lit, cell_of_row w g _ cur _ (0, 0) hg, Nat.zero_add]
    have h4 : (cur.toList.take (svs.length * 1))[j]? = some u := by rw [htake]; exact hj
    rw [List.getElem?_take, if_pos (by omega)] at h4
    simpa using h4
theorem FK.ones (h : FK W0 L svs v w) : ∀ u ∈ svs, u.oneCell' = true := fun u hu => by
  obtain ⟨j, hj, rfl⟩ := List.getElem_of_mem hu
  obtain ⟨a, c, h1, -⟩ := h.rd j (by rw [← h.len]; exact hj)
  rw [nth_eq svs j hj] at h1
  rw [h1]; rfl
end
end Wt

/- A law on regions that draw their order: two operations may come up. -/
namespace Wt
open Go

section
variable {P : Program} {md : Region.Mode} {L : List Oper} {Q : Exit → Act → World → Prop} {S : World → Prop} {n fuel : Nat} {listed : Array Bool} {a : Act} {w : World}
theorem wpAnyE_two {k j : Nat} {o p : Oper} (ho : OpAt L k o) (hp : OpAt L j p) (hr : Region.ready md L.toArray listed = [k, j])
    (h : ∀ K : Act → World → Prop, Shut (∀ a' w', (k < n → S w') → wpAnyE P md L.toArray Q S n fuel (listed.setIfInBounds k true) a' w' → K a' w') → if Region.wanted o (yielded L.toArray a.tmps) = true then Oper.wp P o a w K Q else K (a.put o.dst undef) w)
    (h2 : ∀ K : Act → World → Prop, Shut (∀ a' w', (j < n → S w') → wpAnyE P md L.toArray Q S n fuel (listed.setIfInBounds j true) a' w' → K a' w') → if Region.wanted p (yielded L.toArray a.tmps) = true then Oper.wp P p a w K Q else K (a.put p.dst undef) w) :
    wpAnyE P md L.toArray Q S n (fuel + 1) listed a w := by
  refine ⟨fun h1 => (by rw [hr] at h1; cases h1), fun i hi => ?_⟩
  rw [hr] at hi
  have hik : i = k ∨ i = j := by simpa using hi
  rcases hik with rfl | rfl
  · exact wpOp_step (by simpa using ho.eq) fun K hK => h K fun a' w' h1 h2 => hK a' w' ⟨h1, h2⟩
  · exact wpOp_step (by simpa using hp.eq) fun K hK => h2 K fun a' w' h1 h2 => hK a' w' ⟨h1, h2⟩
end
end Wt

/- Plain: the dialogues of the muddy children, decided by the kernel (printed by gen_mu.py). -/
namespace Wt
open Go Go.RowKit Go.Maps Go.Proofs Fm

/-- What a child sees: all but its own fact. -/
def muSee (c i : Nat) : Nat := 2 ^ c - 1 - 2 ^ i
def muSees (c : Nat) : List Nat := (List.range c).map (muSee c)
/-- A child knows that it is muddy, or that it is not. -/
def muX (v i : Nat) : List Nd := if v.testBit i then whF (i : Int) (ccFact (i : Int)) else ccNot (whF (i : Int) (ccFact (i : Int)))
def muSay (c v i : Nat) : List (List Nd) := decF c (someT c 1) :: (List.replicate (onesN v - 1) (allTo (silL c) (silL c).length) ++ [muX v i])
/-! The same as literals. -/
def muA : Nat → List Nd
  | 1 => [⟨3, 0, 0, 0, 0, 0⟩]
  | 2 => [⟨3, 1, 0, 0, 0, 0⟩, ⟨3, 0, 0, 0, 0, 0⟩, ⟨6, 0, 0, 0, 0, 1⟩]
  | 3 => [⟨3, 2, 0, 0, 0, 0⟩, ⟨3, 1, 0, 0, 0, 0⟩, ⟨3, 0, 0, 0, 0, 0⟩, ⟨6, 0, 0, 0, 1, 2⟩, ⟨6, 0, 0, 0, 0, 3⟩]
  | 4 => [⟨3, 3, 0, 0, 0, 0⟩, ⟨3, 2, 0, 0, 0, 0⟩, ⟨3, 1, 0, 0, 0, 0⟩, ⟨3, 0, 0, 0, 0, 0⟩, ⟨6, 0, 0, 0, 2, 3⟩, ⟨6, 0, 0, 0, 1, 4⟩, ⟨6, 0, 0, 0, 0, 5⟩]
  | _ => []
def muB : Nat → List Nd
  | 1 => [⟨3, 0, 0, 0, 0, 0⟩, ⟨9, 0, 0, 0, 0, 0⟩, ⟨4, 0, 0, 0, 0, 0⟩, ⟨9, 0, 0, 0, 2, 0⟩, ⟨6, 0, 0, 0, 1, 3⟩, ⟨4, 0, 0, 0, 4, 0⟩]
  | 2 => [⟨3, 0, 0, 0, 0, 0⟩, ⟨9, 0, 0, 0, 0, 0⟩, ⟨4, 0, 0, 0, 0, 0⟩, ⟨9, 0, 0, 0, 2, 0⟩, ⟨6, 0, 0, 0, 1, 3⟩, ⟨4, 0, 0, 0, 4, 0⟩, ⟨3, 1, 0, 0, 0, 0⟩, ⟨9, 1, 0, 0, 6, 0⟩, ⟨4, 0, 0, 0, 6, 0⟩, ⟨9, 1, 0, 0, 8, 0⟩, ⟨6, 0, 0, 0, 7, 9⟩, ⟨4, 0, 0, 0, 10, 0⟩, ⟨5, 0, 0, 0, 5, 11⟩]
  | 3 => [⟨3, 0, 0, 0, 0, 0⟩, ⟨9, 0, 0, 0, 0, 0⟩, ⟨4, 0, 0, 0, 0, 0⟩, ⟨9, 0, 0, 0, 2, 0⟩, ⟨6, 0, 0, 0, 1, 3⟩, ⟨4, 0, 0, 0, 4, 0⟩, ⟨3, 1, 0, 0, 0, 0⟩, ⟨9, 1, 0, 0, 6, 0⟩, ⟨4, 0, 0, 0, 6, 0⟩, ⟨9, 1, 0, 0, 8, 0⟩, ⟨6, 0, 0, 0, 7, 9⟩, ⟨4, 0, 0, 0, 10, 0⟩, ⟨5, 0, 0, 0, 5, 11⟩, ⟨3, 2, 0, 0, 0, 0⟩, ⟨9, 2, 0, 0, 13, 0⟩, ⟨4, 0, 0, 0, 13, 0⟩, ⟨9, 2, 0, 0, 15, 0⟩, ⟨6, 0, 0, 0, 14, 16⟩, ⟨4, 0, 0, 0, 17, 0⟩, ⟨5, 0, 0, 0, 12, 18⟩]
  | 4 => [⟨3, 0, 0, 0, 0, 0⟩, ⟨9, 0, 0, 0, 0, 0⟩, ⟨4, 0, 0, 0, 0, 0⟩, ⟨9, 0, 0, 0, 2, 0⟩, ⟨6, 0, 0, 0, 1, 3⟩, ⟨4, 0, 0, 0, 4, 0⟩, ⟨3, 1, 0, 0, 0, 0⟩, ⟨9, 1, 0, 0, 6, 0⟩, ⟨4, 0, 0, 0, 6, 0⟩, ⟨9, 1, 0, 0, 8, 0⟩, ⟨6, 0, 0, 0, 7, 9⟩, ⟨4, 0, 0, 0, 10, 0⟩, ⟨5, 0, 0, 0, 5, 11⟩, ⟨3, 2, 0, 0, 0, 0⟩, ⟨9, 2, 0, 0, 13, 0⟩, ⟨4, 0, 0, 0, 13, 0⟩, ⟨9, 2, 0, 0, 15, 0⟩, ⟨6, 0, 0, 0, 14, 16⟩, ⟨4, 0, 0, 0, 17, 0⟩, ⟨5, 0, 0, 0, 12, 18⟩, ⟨3, 3, 0, 0, 0, 0⟩, ⟨9, 3, 0, 0, 20, 0⟩, ⟨4, 0, 0, 0, 20, 0⟩, ⟨9, 3, 0, 0, 22, 0⟩, ⟨6, 0, 0, 0, 21, 23⟩, ⟨4, 0, 0, 0, 24, 0⟩, ⟨5, 0, 0, 0, 19, 25⟩]
  | _ => []
def muD (b : Bool) : Nat → List Nd
  | 0 => if b then [⟨3, 0, 0, 0, 0, 0⟩, ⟨9, 0, 0, 0, 0, 0⟩, ⟨4, 0, 0, 0, 0, 0⟩, ⟨9, 0, 0, 0, 2, 0⟩, ⟨6, 0, 0, 0, 1, 3⟩] else [⟨3, 0, 0, 0, 0, 0⟩, ⟨9, 0, 0, 0, 0, 0⟩, ⟨4, 0, 0, 0, 0, 0⟩, ⟨9, 0, 0, 0, 2, 0⟩, ⟨6, 0, 0, 0, 1, 3⟩, ⟨4, 0, 0, 0, 4, 0⟩]
  | 1 => if b then [⟨3, 1, 0, 0, 0, 0⟩, ⟨9, 1, 0, 0, 0, 0⟩, ⟨4, 0, 0, 0, 0, 0⟩, ⟨9, 1, 0, 0, 2, 0⟩, ⟨6, 0, 0, 0, 1, 3⟩] else [⟨3, 1, 0, 0, 0, 0⟩, ⟨9, 1, 0, 0, 0, 0⟩, ⟨4, 0, 0, 0, 0, 0⟩, ⟨9, 1, 0, 0, 2, 0⟩, ⟨6, 0, 0, 0, 1, 3⟩, ⟨4, 0, 0, 0, 4, 0⟩]
  | 2 => if b then [⟨3, 2, 0, 0, 0, 0⟩, ⟨9, 2, 0, 0, 0, 0⟩, ⟨4, 0, 0, 0, 0, 0⟩, ⟨9, 2, 0, 0, 2, 0⟩, ⟨6, 0, 0, 0, 1, 3⟩] else [⟨3, 2, 0, 0, 0, 0⟩, ⟨9, 2, 0, 0, 0, 0⟩, ⟨4, 0, 0, 0, 0, 0⟩, ⟨9, 2, 0, 0, 2, 0⟩, ⟨6, 0, 0, 0, 1, 3⟩, ⟨4, 0, 0, 0, 4, 0⟩]
  | 3 => if b then [⟨3, 3, 0, 0, 0, 0⟩, ⟨9, 3, 0, 0, 0, 0⟩, ⟨4, 0, 0, 0, 0, 0⟩, ⟨9, 3, 0, 0, 2, 0⟩, ⟨6, 0, 0, 0, 1, 3⟩] else [⟨3, 3, 0, 0, 0, 0⟩, ⟨9, 3, 0, 0, 0, 0⟩, ⟨4, 0, 0, 0, 0, 0⟩, ⟨9, 3, 0, 0, 2, 0⟩, ⟨6, 0, 0, 0, 1, 3⟩, ⟨4, 0, 0, 0, 4, 0⟩]
  | _ => []
def muM : Nat → Mo
  | 1 => ⟨2, [2#64], [[3#64, 3#64]]⟩
  | 2 => ⟨4, [10#64, 12#64], [[3#64, 3#64, 12#64, 12#64], [5#64, 10#64, 5#64, 10#64]]⟩
  | 3 => ⟨8, [170#64, 204#64, 240#64], [[3#64, 3#64, 12#64, 12#64, 48#64, 48#64, 192#64, 192#64], [5#64, 10#64, 5#64, 10#64, 80#64, 160#64, 80#64, 160#64], [17#64, 34#64, 68#64, 136#64, 17#64, 34#64, 68#64, 136#64]]⟩
  | 4 => ⟨16, [43690#64, 52428#64, 61680#64, 65280#64], [[3#64, 3#64, 12#64, 12#64, 48#64, 48#64, 192#64, 192#64, 768#64, 768#64, 3072#64, 3072#64, 12288#64, 12288#64, 49152#64, 49152#64], [5#64, 10#64, 5#64, 10#64, 80#64, 160#64, 80#64, 160#64, 1280#64, 2560#64, 1280#64, 2560#64, 20480#64, 40960#64, 20480#64, 40960#64], [17#64, 34#64, 68#64, 136#64, 17#64, 34#64, 68#64, 136#64, 4352#64, 8704#64, 17408#64, 34816#64, 4352#64, 8704#64, 17408#64, 34816#64], [257#64, 514#64, 1028#64, 2056#64, 4112#64, 8224#64, 16448#64, 32896#64, 257#64, 514#64, 1028#64, 2056#64, 4112#64, 8224#64, 16448#64, 32896#64]]⟩
  | _ => ⟨0, [], []⟩
theorem mu_lit : ∀ c : _root_.Fin 4, decF (c.val + 1) (someT (c.val + 1) 1) = muA (c.val + 1) ∧ allTo (silL (c.val + 1)) (silL (c.val + 1)).length = muB (c.val + 1) ∧ senM (c.val + 1) (muSees (c.val + 1)) = muM (c.val + 1) := by decide +kernel
theorem mu_litX : ∀ v : _root_.Fin 16, ∀ i : _root_.Fin 4, muX v.val i.val = muD (v.val.testBit i.val) i.val := by decide +kernel
def MuT (M : Mo) (v k : Nat) (l : List (List Nd)) : Prop := playErr M (v : Int) l = 0 ∧ (playOf M (v : Int) l).length = k + 1 ∧ ((playOf M (v : Int) l).all fun p => p.1) = true
instance (M : Mo) (v k : Nat) (l : List (List Nd)) : Decidable (MuT M v k l) := inferInstanceAs (Decidable (_ ∧ _ ∧ _))
set_option maxHeartbeats 4000000
theorem mu_tab : ∀ c : _root_.Fin 4, ∀ v : _root_.Fin 16, ∀ i : _root_.Fin 4, v.val ≠ 0 → v.val < 2 ^ (c.val + 1) → i.val < c.val + 1 → MuT (muM (c.val + 1)) v.val (onesN v.val) (muA (c.val + 1) :: (List.replicate (onesN v.val - 1) (muB (c.val + 1)) ++ [muD (v.val.testBit i.val) i.val])) := by decide +kernel
theorem mu_law {c v i : Nat} (h1 : 1 ≤ c) (h4 : c ≤ 4) (hv0 : v ≠ 0) (hv : v < 2 ^ c) (hi : i < c) : MuT (senM c (muSees c)) v (onesN v) (muSay c v i) := by
  obtain ⟨d, rfl⟩ : ∃ d, c = d + 1 := ⟨c - 1, by omega⟩
  have h16 : 2 ^ (d + 1) ≤ 2 ^ 4 := Nat.pow_le_pow_right (by omega) h4
  obtain ⟨e1, e2, e3⟩ := mu_lit ⟨d, by omega⟩
  have e4 := mu_litX ⟨v, by omega⟩ ⟨i, by omega⟩
  have h := mu_tab ⟨d, by omega⟩ ⟨v, by omega⟩ ⟨i, by omega⟩ hv0 hv hi
  unfold muSay
  dsimp only at e1 e2 e3 e4 h
  rw [e1, e2, e3, e4]
  exact h
end Wt

/- The walk of PuzzlesMuddy. -/
namespace Wt
open Go Go.RowKit Go.Maps Go.Proofs Fm

theorem mu_and : ∀ d : _root_.Fin 5, ∀ v : _root_.Fin 256, bits .and .i64 ((v.val : Nat) : Int) (((2 ^ d.val : Nat) : Int) - 1) = ((v.val % 2 ^ d.val : Nat) : Int) := by decide +kernel
theorem mu_not : ∀ d i : _root_.Fin 5, i.val < d.val → bits .andNot .i64 (((2 ^ d.val : Nat) : Int) - 1) (((2 ^ i.val : Nat) : Int)) = ((muSee d.val i.val : Nat) : Int) := by decide +kernel
theorem muSees_at {c a : Nat} (h : a < c) : nth (muSees c) a = muSee c a := by
  unfold muSees
  rw [nth_mapN _ _ (by simpa using h), nth_range h]
theorem mu_ones : ∀ d : _root_.Fin 5, ∀ v : _root_.Fin 16, v.val < 2 ^ d.val → v.val ≠ 0 → 1 ≤ onesN v.val ∧ onesN v.val ≤ d.val := by decide +kernel
theorem mu_rou : ∀ d : _root_.Fin 5, ∀ v : _root_.Fin 16, d.val ≠ 0 → v.val < 2 ^ d.val → rouE ((d.val : Nat) : Int) ((v.val : Nat) : Int) = (if v.val = 0 then 6 else 0) ∧ (v.val ≠ 0 → rouK ((d.val : Nat) : Int) ((v.val : Nat) : Int) = ((onesN v.val : Nat) : Int)) := by decide +kernel
theorem muSee_lt {c a : Nat} : muSee c a < 2 ^ c := by
  have h1 := Nat.two_pow_pos c
  have h2 := Nat.two_pow_pos a
  unfold muSee
  generalize 2 ^ c = x at *
  generalize 2 ^ a = y at *
  omega
def RetT4 (n : Nat) (e : Ending) (w w' : World) : Prop := ∃ a cp T, List.length T = n ∧ (∀ r, r < n → (nth T r).1 = true) ∧ e = .returned (.tuple #[.slice a n cp, .int .i64 0]) ∧ RTu w' a T ∧ Ext w w'
set_option maxRecDepth 20000 in
set_option maxHeartbeats 16000000 in
theorem puzzlesMuddy_any (s v : Nat) (hs : s ≤ 255) (hv : v ≤ 255) (w : World) (hT : Tab w) :
    Calls Tryz.prog 5 #[.int .u8 (s : Int), .int .u8 (v : Int)] w fun e w' => e = .returned (.bool true) ∧ Ext w w' := by
  have hm1 : (s : Int).tmod 4 = ((s % 4 : Nat) : Int) := (Int.ofNat_tmod s 4).symm
  obtain ⟨c, hc⟩ : ∃ c, c = s % 4 + 1 := ⟨_, rfl⟩
  have hc1 : 1 ≤ c := by omega
  have hc4 : c ≤ 4 := by omega
  have hm2 : (1 : Int) + ((s % 4 : Nat) : Int) = (c : Int) := by omega
  generalize s % 4 = r at *
  have h63 : c < 63 := by omega
  obtain ⟨q, hq⟩ : ∃ q : Nat, q = 2 ^ c := ⟨_, rfl⟩
  have hp : p2 c = (q : Int) := by rw [hq]; rfl
  have hq16 : 2 ≤ q ∧ q ≤ 16 := by
    have h1 : 2 ^ c ≤ 2 ^ 4 := Nat.pow_le_pow_right (by omega) hc4
    have h2 : 2 ^ 1 ≤ 2 ^ c := Nat.pow_le_pow_right (by omega) hc1
    omega
  have han := mu_and ⟨c, by omega⟩ ⟨v, by omega⟩
  dsimp only at han
  rw [← hq] at han
  have huq : v % q < q := Nat.mod_lt _ (by omega)
  have hr4 : r < 4 := by omega
  have HNT : Hid (∀ i, i < c → bits .andNot .i64 ((q : Int) - 1) (p2 i) = ((muSee c i : Nat) : Int)) := Lib.hid fun i hi => by
    have h := mu_not ⟨c, by omega⟩ ⟨i, by omega⟩ hi
    dsimp only at h
    rw [← hq] at h
    exact h
  generalize hu : v % q = u at *
  clear hu
  have HQ := Lib.hid hq
  have HT := Lib.hid hT
  clear hT hq hc
  obtain ⟨i0, hi1, hz0, hz1, hz2⟩ := info_parts int_info
  obtain ⟨i2, hj1, hy0, hy1, hy2⟩ := info_parts sn_infoZ
  have HRO : Hid (∀ W, Calls Tryz.prog 27 #[.int .i64 (c : Int), .int .i64 (u : Int)] W fun e w' => e = .returned (.tuple #[.int .i64 (rouK c u), .int .i64 (rouE c u)]) ∧ W = w') := Lib.hid fun W => rounds_any c u W
  go_enter Tryz.func5, Tryz.ntmps5
  go_wp2_with fail
  go_loopw [8, 9] (fun v i wr => ∃ k : Nat, k ≤ c ∧ i = .int .i64 (k : Int) ∧ Hid (GL w 3 iv (natI ((muSees c).take k)) v wr)) (fun _ i _ => c - (RowKit.intOf i).toNat)
  case atStart => exact ⟨0, Nat.zero_le _, rfl, Lib.hid ⟨Ext.refl _, World.ownsRow_nil _ _ _ _⟩⟩
  case round =>
    obtain ⟨k, hk, rfl, HG⟩ := hrel
    by_cases hkc : k < c
    · have hnt := HNT.out k hkc
      have hk63 : k < 63 := by omega
      have hml : k < (muSees c).length := by simp [muSees]; exact hkc
      have HTK : Hid (natI ((muSees c).take (k + 1)) = natI ((muSees c).take k) ++ [((muSee c k : Nat) : Int)]) := Lib.hid (by rw [take_nthZ hml, muSees_at hkc]; simp [natI])
      have hnl : (natI ((muSees c).take k)).length = k := by rw [natI_len, List.length_take]; omega
      have HO : Hid (∀ o, (wr.alloc o).ownsRow w.heap.size 3 1 u8 (natI ((muSees c).take k)).length ((natI ((muSees c).take k)).map iv)) := Lib.hid fun o => (HG.out.ext' ((Ext.refl wr).alloc o)).own
      have HPA : Hid (∀ o, GL w 3 iv (natI ((muSees c).take k)) u8 (wr.alloc o)) := Lib.hid fun o => HG.out.ext' ((Ext.refl wr).alloc o)
      have HONE : Hid (∀ u ∈ [Value.int .i64 ((muSee c k : Nat) : Int)], u.oneCell' = true) := Lib.hid (by simp [Value.oneCell'])
      have hsz1 : w.heap.size ≤ wr.heap.size := HG.out.e.size
      have hF64 : (natI ((muSees c).take k)).length ≤ 64 := by rw [hnl]; omega
      have HNL := Lib.hid hnl
      generalize natI ((muSees c).take k) = F at *
      generalize muSee c k = z at *
      clear hnl hml
      go_wp2_with (at_builtin; refine wpList_append_lies _ rfl _ _ 22 rfl w.heap.size 3 i0 _ 1 8 Tryz.underlying22 hi1 hz0 hz1 hz2 rfl (by decide) u8 F.length _ rfl (HO.out _) ⟨wr.heap.size, 0, none⟩ 1 1 [.int .i64 (z : Int)] rfl rfl (cell_one_new _ _ _) HONE.out (by decide) (by unfold maxLen; omega) (by omega) (Nat.le_trans hsz1 (by simp)) (wr.heap.size + 1) (by simp) ?_; intro gx cap W1 hown hgrow hat hlt2; have hpush := (HPA.out _).push (x := (z : Int)) hown hgrow; have HPU := Lib.hid hpush; clear hpush hown hgrow hat)
      go_roundw
      case rel => exact ⟨k + 1, hkc, by go_num, Lib.hid (by rw [HTK.out]; exact HPU.out)⟩
      case measure => simp [RowKit.intOf]; omega
    · obtain rfl : k = c := by omega
      have hml : (muSees k).length = k := by simp [muSees]
      have hgl := HG.out
      rw [List.take_of_length_le (by rw [hml]; exact Nat.le_refl _)] at hgl
      obtain ⟨sa, sc, hv0, hu0⟩ := RetI_of hgl (by rw [natI_len, hml]; omega)
      rw [natI_len, hml] at hv0
      subst hv0
      have HU := Lib.hid (hu0 wr fun _ _ _ => rfl)
      have HE0 := Lib.hid hgl.e
      obtain ⟨hre, hrk⟩ := mu_rou ⟨k, by omega⟩ ⟨u, by omega⟩ (by dsimp only; omega) (by dsimp only; rw [← HQ.out]; exact huq)
      dsimp only at hre hrk
      clear hgl hu0 HG
      by_cases h0 : u = 0
      · subst h0
        rw [if_pos rfl] at hre
        have HRE := Lib.hid hre
        clear hre hrk
        go_wp2_with fail
        refine (HRO.out _).mono ?_
        rintro _ _ ⟨rfl, rfl⟩
        rw [HRE.out]
        dsimp only
        go_wp2_with fail
        refine (awake32_any _ (HT.out.ext HE0.out)).mono ?_
        rintro _ w2 ⟨rfl, hE2⟩
        dsimp only
        go_wp2_with fail
        go_ret
        exact ⟨rfl, HE0.out.trans hE2⟩
      have hO := mu_ones ⟨k, by omega⟩ ⟨u, by omega⟩ (by dsimp only; rw [← HQ.out]; exact huq) h0
      rw [if_neg h0] at hre
      have hro := HRO.out
      rw [hre, hrk h0] at hro
      have HRO := Lib.hid hro
      have h0d : ((u : Int) == 0) = false := by simp; omega
      have XS : Hid (∀ W a c, RI W a (natI (muSees k)) → Calls Tryz.prog 12 #[.int .i64 (k : Int), .slice a k c] W fun e w' => RetRz (senM k (muSees k)) 0 e W w') := Lib.hid fun W a c h => by
        have h1 := seen_ok k ⟨hc1, hc4⟩ (muSees k) hml (fun a ha => by rw [muSees_at ha]; exact muSee_lt) a c W h
        rw [hml] at h1
        exact h1
      have XF : Hid (∀ W, Calls Tryz.prog 28 #[.int .i64 (k : Int), .int .i64 1] W fun e w' => RetNzZ (decF k (someT k 1)) e W w') := Lib.hid fun W => some_any k 1 (by omega) W
      have XQ : Hid (∀ W, Calls Tryz.prog 29 #[.int .i64 (k : Int)] W fun e w' => RetNzZ (allTo (silL k) (silL k).length) e W w') := Lib.hid fun W => silence_any k ⟨hc1, hc4⟩ W
      have XW : Hid (∀ i, i < k → ∀ W a c, RN W a (ccFact (i : Int)) → Calls Tryz.prog 30 #[.int .i64 (i : Int), .slice a (ccFact (i : Int)).length c] W fun e w' => RetNFe (whF (i : Int) (ccFact (i : Int))) 0 e W w') := Lib.hid fun i hi W a c h => by
        have h1 := whether_any (i : Int) a c (ccFact (i : Int)) W h
        rw [(wh_ok (a := i) (j := i) (by omega) (by omega)).1, (wh_ok (a := i) (j := i) (by omega) (by omega)).2] at h1
        exact h1
      have XP : Hid (∀ i, i < k → ∀ W va ra vc rc oa oc, RM W va ra (senM k (muSees k)) → RNN W oa (decF k (someT k 1) :: (List.replicate (onesN u - 1) (allTo (silL k) (silL k).length) ++ [muX u i])) → Tab W → Calls Tryz.prog 24 #[.agg #[.int .i64 (senM k (muSees k)).worlds, .slice va (senM k (muSees k)).val.length vc, .slice ra (senM k (muSees k)).rel.length rc], .int .i64 (u : Int), .slice oa (decF k (someT k 1) :: (List.replicate (onesN u - 1) (allTo (silL k) (silL k).length) ++ [muX u i])).length oc] W fun e w' => RetT4 (onesN u + 1) e W w') := Lib.hid fun i hi W va ra vc rc oa oc hm hl hT => by
        obtain ⟨l1, l2, l3⟩ := mu_law (c := k) (v := u) (i := i) hc1 hc4 h0 (by rw [← HQ.out]; exact huq) hi
        refine (play_any (senM k (muSees k)) (u : Int) va ra vc rc oa oc _ W hm hl hT).mono fun e w' hr => ?_
        obtain ⟨a, cp, e1, e2, e3⟩ := hr
        unfold muSay at l1 l2 l3
        rw [l1, l2] at e1
        exact ⟨a, cp, _, l2, fun r hr => List.all_eq_true.1 l3 _ (nth_mem (by rw [l2]; exact hr)), e1, e2, e3⟩
      clear hre hrk hro h0
      generalize senM k (muSees k) = A at *
      generalize decF k (someT k 1) = sF at *
      generalize allTo (silL k) (silL k).length = qF at *
      generalize onesN u = O at *
      replace hO : 1 ≤ O ∧ O ≤ k := hO
      go_wp2_with fail
      refine (HRO.out _).mono ?_
      rintro _ _ ⟨rfl, rfl⟩
      dsimp only
      go_wp2_with fail
      refine (XS.out _ _ _ HU.out).mono ?_
      rintro _ w1 ⟨va, ra, vc, rc, rfl, hm, hE1⟩
      have hA1 : Ext w1 (w1.alloc (.cells #[.int .i64 A.worlds, .slice va A.val.length vc, .slice ra A.rel.length rc] 28)) := (Ext.refl w1).alloc _
      have HO1 := Lib.hid (OutAt.new w1 (.int .i64 A.worlds) (.slice va A.val.length vc) (.slice ra A.rel.length rc) 28)
      have HM1 := Lib.hid (RM.ext hA1 hm)
      have HE1 := Lib.hid (HE0.out.trans (hE1.trans hA1))
      clear hm hE1 hA1
      dsimp only
      go_wp2_with fail
      generalize w1.alloc (.cells #[.int .i64 A.worlds, .slice va A.val.length vc, .slice ra A.rel.length rc] 28) = w2 at *
      refine (XF.out _).mono ?_
      rintro _ w3 ⟨fa, fc, rfl, hf, hE3⟩
      have HF := Lib.hid hf
      have HX3 := Lib.hid hE3
      clear hf hE3
      dsimp only
      go_wp2_with fail
      refine (XQ.out _).mono ?_
      rintro _ w4 ⟨qa, qc, rfl, hq, hE4⟩
      have HQF := Lib.hid hq
      have HF4 := Lib.hid (HF.out.ext hE4)
      have HX4 := Lib.hid (HX3.out.trans hE4)
      have HFK1 := Lib.hid (FK.one w4 fa fc sF HF4.out)
      have hO1 : decide ((O : Int) < 1) = false := decide_eq_false (by omega)
      have hO2 : decide ((k : Int) < (O : Int)) = false := decide_eq_false (by omega)
      have hO3 : decide (k < O) = false := decide_eq_false (by omega)
      clear hq hE4 HF HX3
      dsimp only
      go_wp2_with fail
      have HONE : Hid (∀ u ∈ [Value.slice qa qF.length qc], u.oneCell' = true) := Lib.hid (by simp [Value.oneCell'])
      go_loopw [18, 19] (fun v i wr => ∃ j svs, 1 ≤ j ∧ j ≤ O ∧ i = .int .i64 ((j : Nat) : Int) ∧ Hid (FK w4 (sF :: List.replicate (j - 1) qF) svs v wr)) (fun _ i _ => O - (RowKit.intOf i).toNat)
      case atStart => exact ⟨1, _, Nat.le_refl _, hO.1, rfl, HFK1⟩
      case round =>
        obtain ⟨j, svs, hj1', hjO, rfl, HFK⟩ := hrel
        by_cases hjo : j < O
        · have hsl : svs.length = j := by rw [HFK.out.len]; simp; omega
          have HRP : Hid (sF :: List.replicate j qF = (sF :: List.replicate (j - 1) qF) ++ [qF]) := Lib.hid (by
            obtain ⟨i, rfl⟩ : ∃ i, j = i + 1 := ⟨j - 1, by omega⟩
            rw [Nat.add_sub_cancel, List.replicate_succ', List.cons_append])
          have HFA : Hid (∀ o, FK w4 (sF :: List.replicate (j - 1) qF) svs u18 (wr.alloc o)) := Lib.hid fun o => HFK.out.ext' ((Ext.refl wr).alloc o)
          have HST : Hid (∀ o, StayN u18.ownBlock (wr.alloc o) qa qF) := Lib.hid fun o => StayN.old HQF.out (HFK.out.e.alloc o) fun k hk => (HFK.out.own.lt k hk).1
          have hsz1 : w4.heap.size ≤ wr.heap.size := HFK.out.e.size
          have hs64 : svs.length ≤ 64 := by omega
          have HSL := Lib.hid hsl
          clear hsl
          generalize List.replicate (j - 1) qF = RQ at *
          go_wp2_with (at_builtin; refine wpList_append_lies _ rfl _ _ 42 rfl w4.heap.size 44 i2 _ 1 24 Tryz.underlying42 hj1 hy0 hy1 hy2 rfl (by decide) u18 svs.length _ rfl (HFA.out _).own ⟨wr.heap.size, 0, none⟩ 1 1 [.slice qa qF.length qc] rfl rfl (cell_one_new _ _ _) HONE.out (by decide) (by unfold maxLen; omega) (by omega) (Nat.le_trans hsz1 (by simp)) (wr.heap.size + 1) (by simp) ?_; intro gx cap W1 hown hgrow hat hlt2; have hpush := FK.push (HFA.out _) (HST.out _) hown hgrow (by simpa using hat); have HPU := Lib.hid hpush; clear hpush hown hgrow hat)
          go_roundw
          case rel => exact ⟨j + 1, _, by omega, hjo, by go_num, Lib.hid (by rw [Nat.add_sub_cancel, HRP.out]; exact HPU.out)⟩
          case measure => simp [RowKit.intOf]; omega
        · obtain rfl : j = O := by omega
          have HXs := Lib.hid HFK.out.e
          obtain ⟨g, cap, hvg, hgl, hgc⟩ := HFK.out.cells (by simp)
          have HGC : Hid (∀ W, Ext wr W → ∀ i u, svs[i]? = some u → W.cell? ((⟨g, 0, none⟩ : Addr).add i) = some u) := Lib.hid fun W h i u hi => h.cell (hgc i u hi)
          have hsl : svs.length = j := by rw [HFK.out.len]; simp; omega
          rw [hsl] at hvg
          subst hvg
          have HSL := Lib.hid hsl
          have HON := Lib.hid HFK.out.ones
          have hj3 : 1 ≤ j ∧ j ≤ 4 := by omega
          clear hgc hsl
          go_wp2_with fail
          go_loopw [20] (fun i wz => ∃ x : Nat, x ≤ k ∧ i = .int .i64 (x : Int) ∧ Hid (Ext wr wz)) (fun i _ => k - (RowKit.intOf i).toNat)
          case atStart => exact ⟨0, Nat.zero_le _, rfl, Lib.hid (Ext.refl _)⟩
          case round =>
            rename World => wz
            obtain ⟨x, hx, rfl, HX⟩ := hrel
            by_cases hxk : x < k
            · have HWX := Lib.hid (XW.out x hxk)
              have HPX := Lib.hid (XP.out x hxk)
              have HFC : Hid (∀ W, Calls Tryz.prog 31 #[.int .i64 (x : Int)] W fun e w' => RetN (ccFact (x : Int)) e W w') := Lib.hid fun W => cFact_any (x : Int) W
              have hx63 : x < 63 := by omega
              obtain ⟨X, hXe⟩ : ∃ X, X = muX u x := ⟨_, rfl⟩
              rw [← hXe] at HPX
              obtain ⟨Y, hY⟩ : ∃ Y, Y = whF (x : Int) (ccFact (x : Int)) := ⟨_, rfl⟩
              rw [← hY] at HWX
              have HXY : Hid (X = if u.testBit x then Y else ccNot Y) := Lib.hid (by rw [hXe, hY]; rfl)
              have HNY : Hid (∀ W a c, RN W a Y → Calls Tryz.prog 32 #[.slice a Y.length c] W fun e w' => RetN (ccNot Y) e W w') := Lib.hid fun W a c h => (cNot_freshZ a c Y W h).mono fun _ _ h => h.n
              clear hXe hY
              generalize ccFact (x : Int) = FX at *
              go_wp2_with fail
              refine (HFC.out _).mono ?_
              rintro _ wa ⟨xa, xc, rfl, hrx, hEa⟩
              dsimp only
              go_wp2_with fail
              refine (HWX.out _ _ _ hrx).mono ?_
              rintro _ wb ⟨ya, yc, rfl, hry, -, hEb⟩
              have HY := Lib.hid hry
              have HXb := Lib.hid (HX.out.trans (hEa.trans hEb))
              clear hrx hry hEa hEb
              dsimp only
              cases hb : u.testBit x
              · have HXn : Hid (X = ccNot Y) := Lib.hid (by rw [HXY.out, hb]; rfl)
                have hbb : bits .and .i64 ((u : Int) / 2 ^ x) 1 = 0 := by rw [and_divZ]; unfold b01; rw [hb]; rfl
                clear hb
                go_wp2_with fail
                refine (HNY.out _ _ _ HY.out).mono ?_
                rintro _ wq ⟨na, nc, rfl, hn, hEc⟩
                rw [← HXn.out] at hn ⊢
                dsimp only
                have HX := Lib.hid hn
                have HWB := Lib.hid (HXb.out.trans hEc)
                clear HXY
                go_upto_region 30 with fail
                go_cut [23, 24] from 130 to 141 (fun s23 s24 wc => ∃ ta tc T, List.length T = j + 1 ∧ s23 = .slice ta (j + 1) tc ∧ s24 = .int .i64 0 ∧ Hid ((∀ r, r < j + 1 → (nth T r).1 = true) ∧ RTu wc ta T ∧ Ext wq wc))
                case first =>
                  have HONX : Hid (∀ u ∈ [Value.slice na X.length nc], u.oneCell' = true) := Lib.hid (by simp [Value.oneCell'])
                  have HPY : Hid (∀ W va ra vc rc oa oc, RM W va ra A → RNN W oa ((sF :: List.replicate (j - 1) qF) ++ [X]) → Tab W → Calls Tryz.prog 24 #[.agg #[.int .i64 A.worlds, .slice va A.val.length vc, .slice ra A.rel.length rc], .int .i64 (u : Int), .slice oa (j + 1) oc] W fun e w' => RetT4 (j + 1) e W w') := Lib.hid fun W va ra vc rc oa oc h1 h2 h3 => by
                    have h := HPX.out W va ra vc rc oa oc h1 h2 h3
                    have hl : (sF :: (List.replicate (j - 1) qF ++ [X])).length = j + 1 := by simp; omega
                    rw [hl] at h
                    exact h
                  have HSS : Hid (∀ W, Ext wq W → W.cell? ⟨w1.heap.size, 0, none⟩ = some (.int .i64 A.worlds) ∧ W.cell? ⟨w1.heap.size, 1, none⟩ = some (.slice va A.val.length vc) ∧ W.cell? ⟨w1.heap.size, 2, none⟩ = some (.slice ra A.rel.length rc)) := Lib.hid fun W h => by
                    obtain ⟨x0, x1, x2, -⟩ := HO1.out.ext (HX4.out.trans (HXs.out.trans (HWB.out.trans h)))
                    exact ⟨x0, x1, x2⟩
                  refine wp_region_E 14 (fun W => W.cell? ⟨w1.heap.size, 0, none⟩ = some (.int .i64 A.worlds) ∧ W.cell? ⟨w1.heap.size, 1, none⟩ = some (.slice va A.val.length vc) ∧ W.cell? ⟨w1.heap.size, 2, none⟩ = some (.slice ra A.rel.length rc)) (by kernel_rfl) ?_
                  refine wpAnyE_take (i := 0) (v := ?_) (.here) (by kernel_rfl) (fun _ _ _ h => h) (HSS.out _ (Ext.refl _).drew) (by rfl) ?_ ?_
                  rotate_left
                  focus (intro w hSw; (try dsimp only at hSw); go_simp; try with_reducible rfl)
                  try simp only [Act.put, List.setIfInBounds_toArray, List.set_cons_zero, List.set_cons_succ]
                  refine wpAnyE_take (i := 1) (v := ?_) (.next (.here)) (by kernel_rfl) (fun _ _ _ h => h) (HSS.out _ (Ext.refl _).drew) (by rfl) ?_ ?_
                  rotate_left
                  focus (intro w hSw; (try dsimp only at hSw); go_simp; try with_reducible rfl)
                  try simp only [Act.put, List.setIfInBounds_toArray, List.set_cons_zero, List.set_cons_succ]
                  refine wpAnyE_take (i := 3) (v := ?_) (.next (.next (.next (.here)))) (by kernel_rfl) (fun _ _ _ h => h) (HSS.out _ (Ext.refl _).drew) (by rfl) ?_ ?_
                  rotate_left
                  focus (intro w hSw; (try dsimp only at hSw); go_simp; try with_reducible rfl)
                  try simp only [Act.put, List.setIfInBounds_toArray, List.set_cons_zero, List.set_cons_succ]
                  refine wpAnyE_take (i := 5) (v := ?_) (.next (.next (.next (.next (.next (.here)))))) (by kernel_rfl) (fun _ _ _ h => h) (HSS.out _ (Ext.refl _).drew) (by rfl) ?_ ?_
                  rotate_left
                  focus (intro w hSw; (try dsimp only at hSw); go_simp; try with_reducible rfl)
                  try simp only [Act.put, List.setIfInBounds_toArray, List.set_cons_zero, List.set_cons_succ]
                  refine wpAnyE_two (k := 2) (j := 6) (.next (.next (.here))) (.next (.next (.next (.next (.next (.next (.here))))))) (by kernel_rfl) (fun K hK => ?_) (fun K hK => ?_)
                  · skip
                    go_simp
                    refine hK.out _ _ (fun _ => HSS.out _ ((Ext.refl _).drew.alloc _)) ?_
                    clear hK
                    try simp only [Act.put, List.setIfInBounds_toArray, List.set_cons_zero, List.set_cons_succ]
                    refine wpAnyE_two (k := 4) (j := 6) (.next (.next (.next (.next (.here))))) (.next (.next (.next (.next (.next (.next (.here))))))) (by kernel_rfl) (fun K hK => ?_) (fun K hK => ?_)
                    · skip
                      have hV : Ext wq (wq.alloc (.cells #[] 44)).drew := ((Ext.refl wq).alloc _).drew
                      have hown0 : World.ownsRow (wq.alloc (.cells #[] 44)).drew wq.heap.size 44 1 (.slice (some ⟨wq.heap.size, 0, none⟩) 0 0) 0 [] := own_ext2 (own_empty wq wq.heap.size _ (Nat.le_refl _)) (Ext.refl _).drew
                      refine step_append_lies _ rfl _ _ 42 rfl wq.heap.size 44 i2 _ 1 24 Tryz.underlying42 hj1 hy0 hy1 hy2 rfl (by decide) (.slice (some ⟨wq.heap.size, 0, none⟩) 0 0) 0 [] rfl hown0 ⟨g, 0, none⟩ j cap svs rfl (by rw [HSL.out, Nat.mul_one]) (HGC.out _ (HWB.out.trans hV)) HON.out (by omega) (by unfold maxLen; omega) (by omega) hV.size _ rfl ?_; intro gx cx W1 hown hgrow hat hlt2; have hE1 : Ext wq W1 := ext_of_grown hV hgrow (fun k hk => (hown0.lt k hk).1); simp only [Nat.zero_add, List.nil_append] at hown ⊢; have hfc : FK wq (sF :: List.replicate (j - 1) qF) svs (.slice (some ⟨gx, 0, none⟩) j cx) W1 := (HFK.out.ext' (HWB.out)).copy hE1 (by rw [HSL.out]; exact hown)
                      refine hK.out _ _ (fun _ => HSS.out _ hE1) ?_
                      clear hK
                      try simp only [Act.put, List.setIfInBounds_toArray, List.set_cons_zero, List.set_cons_succ]
                      refine wpAnyE_one (k := 6) (.next (.next (.next (.next (.next (.next (.here))))))) (by kernel_rfl) (fun K hK => ?_)
                      go_simp
                      refine hK.out _ _ (fun _ => HSS.out _ (hE1.alloc _)) ?_
                      clear hK
                      try simp only [Act.put, List.setIfInBounds_toArray, List.set_cons_zero, List.set_cons_succ]
                      have hfW := hfc.ext' ((Ext.refl W1).alloc (.cells #[.slice na X.length nc] 44))
                      have hn : ∀ i u, [Value.slice na X.length nc][i]? = some u → (W1.alloc (.cells #[.slice na X.length nc] 44)).cell? ((⟨W1.heap.size, 0, none⟩ : Addr).add i) = some u := cell_one_new _ _ _
                      refine wpAnyE_one (k := 7) (.next (.next (.next (.next (.next (.next (.next (.here)))))))) (by kernel_rfl) (fun K hK => ?_)
                      refine step_append_lies _ rfl _ _ 42 rfl wq.heap.size 44 i2 _ 1 24 Tryz.underlying42 hj1 hy0 hy1 hy2 rfl (by decide) (.slice (some ⟨gx, 0, none⟩) j cx) j svs rfl (by have h := hfW.own; rw [HSL.out] at h; exact h) ⟨W1.heap.size, 0, none⟩ 1 1 [.slice na X.length nc] rfl rfl hn HONX.out (by decide) (by unfold maxLen; omega) (by omega) hfW.e.size _ rfl ?_; intro gy cy W2 hown2 hgrow2 hat2 hlt3; have hfp := FK.push hfW (StayN.old HX.out hfW.e fun k hk => (hfW.own.lt k hk).1) (by rw [HSL.out]; exact hown2) hgrow2 hat2; have hE2 := hfp.e
                      refine hK.out _ _ (fun _ => HSS.out _ hE2) ?_
                      clear hK
                      try simp only [Act.put, List.setIfInBounds_toArray, List.set_cons_zero, List.set_cons_succ]
                      obtain ⟨oa, oc, e9, hr9⟩ := hfp.rnn (by simp; omega)
                      obtain rfl : oa = some ⟨gy, 0, none⟩ := by injection e9 with e1 _ _; exact e1.symm
                      refine wpAnyE_one (k := 8) (.next (.next (.next (.next (.next (.next (.next (.next (.here))))))))) (by kernel_rfl) (fun K hK => ?_)
                      go_simp
                      refine (HPY.out _ _ _ _ _ _ _ (HM1.out.ext (HX4.out.trans (HXs.out.trans (HWB.out.trans hE2)))) hr9 (HT.out.ext (HE1.out.trans (HX4.out.trans (HXs.out.trans (HWB.out.trans hE2)))))).mono ?_; rintro _ w8 ⟨ta, tc, T, hT1, hT2, rfl, hT3, hE8⟩; dsimp only
                      refine hK.out _ _ (fun _ => HSS.out _ (hE2.trans hE8)) ?_
                      clear hK
                      try simp only [Act.put, List.setIfInBounds_toArray, List.set_cons_zero, List.set_cons_succ]
                      refine wpAnyE_take (i := 9) (v := ?_) (.next (.next (.next (.next (.next (.next (.next (.next (.next (.here)))))))))) (by kernel_rfl) (fun _ _ _ h => h) (HSS.out _ (hE2.trans hE8)) (by rfl) ?_ ?_
                      rotate_left
                      focus (intro w hSw; (try dsimp only at hSw); go_simp; try with_reducible rfl)
                      try simp only [Act.put, List.setIfInBounds_toArray, List.set_cons_zero, List.set_cons_succ]
                      refine wpAnyE_take (i := 10) (v := ?_) (.next (.next (.next (.next (.next (.next (.next (.next (.next (.next (.here))))))))))) (by kernel_rfl) (fun _ _ _ h => h) (HSS.out _ (hE2.trans hE8)) (by rfl) ?_ ?_
                      rotate_left
                      focus (intro w hSw; (try dsimp only at hSw); go_simp; try with_reducible rfl)
                      try simp only [Act.put, List.setIfInBounds_toArray, List.set_cons_zero, List.set_cons_succ]
                      refine wpAnyE_take (i := 11) (v := ?_) (.next (.next (.next (.next (.next (.next (.next (.next (.next (.next (.next (.here)))))))))))) (by kernel_rfl) (fun _ _ _ h => h) (HSS.out _ (hE2.trans hE8)) (by rfl) ?_ ?_
                      rotate_left
                      focus (intro w hSw; (try dsimp only at hSw); go_simp; try with_reducible rfl)
                      try simp only [Act.put, List.setIfInBounds_toArray, List.set_cons_zero, List.set_cons_succ]
                      refine wpAnyE_one (k := 12) (.next (.next (.next (.next (.next (.next (.next (.next (.next (.next (.next (.next (.here))))))))))))) (by kernel_rfl) (fun K hK => ?_)
                      go_simp
                      refine hK.out _ _ (fun _ => HSS.out _ (hE2.trans hE8)) ?_
                      clear hK
                      try simp only [Act.put, List.setIfInBounds_toArray, List.set_cons_zero, List.set_cons_succ]
                      refine wpAnyE_one (k := 13) (.next (.next (.next (.next (.next (.next (.next (.next (.next (.next (.next (.next (.next (.here)))))))))))))) (by kernel_rfl) (fun K hK => ?_)
                      go_simp
                      refine hK.out _ _ (fun _ => HSS.out _ (hE2.trans hE8)) ?_
                      clear hK
                      try simp only [Act.put, List.setIfInBounds_toArray, List.set_cons_zero, List.set_cons_succ]
                      refine wpAnyE_seq [] (.nil) (by kernel_rfl) (by kernel_rfl) ?_
                      go_wp2_with fail
                      go_meet
                      case rel => exact ⟨ta, tc, T, hT1, rfl, rfl, Lib.hid ⟨hT2, hT3, hE2.trans hE8⟩⟩
                    · skip
                      go_simp
                      refine hK.out _ _ (fun _ => HSS.out _ (((Ext.refl _).drew.alloc _).alloc _)) ?_
                      clear hK
                      try simp only [Act.put, List.setIfInBounds_toArray, List.set_cons_zero, List.set_cons_succ]
                      have hV : Ext wq ((wq.alloc (.cells #[] 44)).alloc (.cells #[.slice na X.length nc] 44)).drew := (((Ext.refl wq).alloc _).alloc _).drew
                      have hown0 : World.ownsRow ((wq.alloc (.cells #[] 44)).alloc (.cells #[.slice na X.length nc] 44)).drew wq.heap.size 44 1 (.slice (some ⟨wq.heap.size, 0, none⟩) 0 0) 0 [] := own_ext2 (own_empty wq wq.heap.size _ (Nat.le_refl _)) ((Ext.refl _).alloc _).drew
                      refine wpAnyE_one (k := 4) (.next (.next (.next (.next (.here))))) (by kernel_rfl) (fun K hK => ?_)
                      refine step_append_lies _ rfl _ _ 42 rfl wq.heap.size 44 i2 _ 1 24 Tryz.underlying42 hj1 hy0 hy1 hy2 rfl (by decide) (.slice (some ⟨wq.heap.size, 0, none⟩) 0 0) 0 [] rfl hown0 ⟨g, 0, none⟩ j cap svs rfl (by rw [HSL.out, Nat.mul_one]) (HGC.out _ (HWB.out.trans hV)) HON.out (by omega) (by unfold maxLen; omega) (by omega) hV.size _ rfl ?_; intro gx cx W1 hown hgrow hat hlt2; have hE1 : Ext wq W1 := ext_of_grown hV hgrow (fun k hk => (hown0.lt k hk).1); simp only [Nat.zero_add, List.nil_append] at hown ⊢; have hfc : FK wq (sF :: List.replicate (j - 1) qF) svs (.slice (some ⟨gx, 0, none⟩) j cx) W1 := (HFK.out.ext' (HWB.out)).copy hE1 (by rw [HSL.out]; exact hown)
                      refine hK.out _ _ (fun _ => HSS.out _ hE1) ?_
                      clear hK
                      try simp only [Act.put, List.setIfInBounds_toArray, List.set_cons_zero, List.set_cons_succ]
                      have hfW := hfc
                      have hn : ∀ i u, [Value.slice na X.length nc][i]? = some u → W1.cell? ((⟨wq.heap.size + 1, 0, none⟩ : Addr).add i) = some u := news_grown (news_ext (W1 := ((wq.alloc (.cells #[] 44)).alloc (.cells #[.slice na X.length nc] 44)).drew) (show ∀ i u, _ → ((wq.alloc (.cells #[] 44)).alloc (.cells #[.slice na X.length nc] 44)).cell? _ = some u from (by have h := cell_one_new (wq.alloc (.cells #[] 44)) (.slice na X.length nc) 44; rw [show (wq.alloc (.cells #[] 44)).heap.size = wq.heap.size + 1 by simp] at h; exact h)) (Ext.refl _).drew) hgrow (by simp [Value.ownBlock]) (by simp; try omega)
                      refine wpAnyE_one (k := 7) (.next (.next (.next (.next (.next (.next (.next (.here)))))))) (by kernel_rfl) (fun K hK => ?_)
                      refine step_append_lies _ rfl _ _ 42 rfl wq.heap.size 44 i2 _ 1 24 Tryz.underlying42 hj1 hy0 hy1 hy2 rfl (by decide) (.slice (some ⟨gx, 0, none⟩) j cx) j svs rfl (by have h := hfW.own; rw [HSL.out] at h; exact h) ⟨wq.heap.size + 1, 0, none⟩ 1 1 [.slice na X.length nc] rfl rfl hn HONX.out (by decide) (by unfold maxLen; omega) (by omega) hfW.e.size _ rfl ?_; intro gy cy W2 hown2 hgrow2 hat2 hlt3; have hfp := FK.push hfW (StayN.old HX.out hfW.e fun k hk => (hfW.own.lt k hk).1) (by rw [HSL.out]; exact hown2) hgrow2 hat2; have hE2 := hfp.e
                      refine hK.out _ _ (fun _ => HSS.out _ hE2) ?_
                      clear hK
                      try simp only [Act.put, List.setIfInBounds_toArray, List.set_cons_zero, List.set_cons_succ]
                      obtain ⟨oa, oc, e9, hr9⟩ := hfp.rnn (by simp; omega)
                      obtain rfl : oa = some ⟨gy, 0, none⟩ := by injection e9 with e1 _ _; exact e1.symm
                      refine wpAnyE_one (k := 8) (.next (.next (.next (.next (.next (.next (.next (.next (.here))))))))) (by kernel_rfl) (fun K hK => ?_)
                      go_simp
                      refine (HPY.out _ _ _ _ _ _ _ (HM1.out.ext (HX4.out.trans (HXs.out.trans (HWB.out.trans hE2)))) hr9 (HT.out.ext (HE1.out.trans (HX4.out.trans (HXs.out.trans (HWB.out.trans hE2)))))).mono ?_; rintro _ w8 ⟨ta, tc, T, hT1, hT2, rfl, hT3, hE8⟩; dsimp only
                      refine hK.out _ _ (fun _ => HSS.out _ (hE2.trans hE8)) ?_
                      clear hK
                      try simp only [Act.put, List.setIfInBounds_toArray, List.set_cons_zero, List.set_cons_succ]
                      refine wpAnyE_take (i := 9) (v := ?_) (.next (.next (.next (.next (.next (.next (.next (.next (.next (.here)))))))))) (by kernel_rfl) (fun _ _ _ h => h) (HSS.out _ (hE2.trans hE8)) (by rfl) ?_ ?_
                      rotate_left
                      focus (intro w hSw; (try dsimp only at hSw); go_simp; try with_reducible rfl)
                      try simp only [Act.put, List.setIfInBounds_toArray, List.set_cons_zero, List.set_cons_succ]
                      refine wpAnyE_take (i := 10) (v := ?_) (.next (.next (.next (.next (.next (.next (.next (.next (.next (.next (.here))))))))))) (by kernel_rfl) (fun _ _ _ h => h) (HSS.out _ (hE2.trans hE8)) (by rfl) ?_ ?_
                      rotate_left
                      focus (intro w hSw; (try dsimp only at hSw); go_simp; try with_reducible rfl)
                      try simp only [Act.put, List.setIfInBounds_toArray, List.set_cons_zero, List.set_cons_succ]
                      refine wpAnyE_take (i := 11) (v := ?_) (.next (.next (.next (.next (.next (.next (.next (.next (.next (.next (.next (.here)))))))))))) (by kernel_rfl) (fun _ _ _ h => h) (HSS.out _ (hE2.trans hE8)) (by rfl) ?_ ?_
                      rotate_left
                      focus (intro w hSw; (try dsimp only at hSw); go_simp; try with_reducible rfl)
                      try simp only [Act.put, List.setIfInBounds_toArray, List.set_cons_zero, List.set_cons_succ]
                      refine wpAnyE_one (k := 12) (.next (.next (.next (.next (.next (.next (.next (.next (.next (.next (.next (.next (.here))))))))))))) (by kernel_rfl) (fun K hK => ?_)
                      go_simp
                      refine hK.out _ _ (fun _ => HSS.out _ (hE2.trans hE8)) ?_
                      clear hK
                      try simp only [Act.put, List.setIfInBounds_toArray, List.set_cons_zero, List.set_cons_succ]
                      refine wpAnyE_one (k := 13) (.next (.next (.next (.next (.next (.next (.next (.next (.next (.next (.next (.next (.next (.here)))))))))))))) (by kernel_rfl) (fun K hK => ?_)
                      go_simp
                      refine hK.out _ _ (fun _ => HSS.out _ (hE2.trans hE8)) ?_
                      clear hK
                      try simp only [Act.put, List.setIfInBounds_toArray, List.set_cons_zero, List.set_cons_succ]
                      refine wpAnyE_seq [] (.nil) (by kernel_rfl) (by kernel_rfl) ?_
                      go_wp2_with fail
                      go_meet
                      case rel => exact ⟨ta, tc, T, hT1, rfl, rfl, Lib.hid ⟨hT2, hT3, hE2.trans hE8⟩⟩
                  · skip
                    go_simp
                    refine hK.out _ _ (fun _ => HSS.out _ ((Ext.refl _).drew.alloc _)) ?_
                    clear hK
                    try simp only [Act.put, List.setIfInBounds_toArray, List.set_cons_zero, List.set_cons_succ]
                    refine wpAnyE_one (k := 2) (.next (.next (.here))) (by kernel_rfl) (fun K hK => ?_)
                    go_simp
                    refine hK.out _ _ (fun _ => HSS.out _ (((Ext.refl _).drew.alloc _).alloc _)) ?_
                    clear hK
                    try simp only [Act.put, List.setIfInBounds_toArray, List.set_cons_zero, List.set_cons_succ]
                    have hV : Ext wq ((wq.alloc (.cells #[.slice na X.length nc] 44)).alloc (.cells #[] 44)).drew := (((Ext.refl wq).alloc _).alloc _).drew
                    have hown0 : World.ownsRow ((wq.alloc (.cells #[.slice na X.length nc] 44)).alloc (.cells #[] 44)).drew wq.heap.size 44 1 (.slice (some ⟨wq.heap.size + 1, 0, none⟩) 0 0) 0 [] := own_ext2 (by have h := own_empty (wq.alloc (.cells #[.slice na X.length nc] 44)) wq.heap.size 44 (by simp); rw [show (wq.alloc (.cells #[.slice na X.length nc] 44)).heap.size = wq.heap.size + 1 by simp] at h; exact h) (Ext.refl _).drew
                    refine wpAnyE_one (k := 4) (.next (.next (.next (.next (.here))))) (by kernel_rfl) (fun K hK => ?_)
                    refine step_append_lies _ rfl _ _ 42 rfl wq.heap.size 44 i2 _ 1 24 Tryz.underlying42 hj1 hy0 hy1 hy2 rfl (by decide) (.slice (some ⟨wq.heap.size + 1, 0, none⟩) 0 0) 0 [] rfl hown0 ⟨g, 0, none⟩ j cap svs rfl (by rw [HSL.out, Nat.mul_one]) (HGC.out _ (HWB.out.trans hV)) HON.out (by omega) (by unfold maxLen; omega) (by omega) hV.size _ rfl ?_; intro gx cx W1 hown hgrow hat hlt2; have hE1 : Ext wq W1 := ext_of_grown hV hgrow (fun k hk => (hown0.lt k hk).1); simp only [Nat.zero_add, List.nil_append] at hown ⊢; have hfc : FK wq (sF :: List.replicate (j - 1) qF) svs (.slice (some ⟨gx, 0, none⟩) j cx) W1 := (HFK.out.ext' (HWB.out)).copy hE1 (by rw [HSL.out]; exact hown)
                    refine hK.out _ _ (fun _ => HSS.out _ hE1) ?_
                    clear hK
                    try simp only [Act.put, List.setIfInBounds_toArray, List.set_cons_zero, List.set_cons_succ]
                    have hfW := hfc
                    have hn : ∀ i u, [Value.slice na X.length nc][i]? = some u → W1.cell? ((⟨wq.heap.size, 0, none⟩ : Addr).add i) = some u := news_grown (news_ext (W1 := ((wq.alloc (.cells #[.slice na X.length nc] 44)).alloc (.cells #[] 44)).drew) (cell_one_new wq (.slice na X.length nc) 44) ((Ext.refl _).alloc _).drew) hgrow (by simp [Value.ownBlock]) (by simp; try omega)
                    refine wpAnyE_one (k := 7) (.next (.next (.next (.next (.next (.next (.next (.here)))))))) (by kernel_rfl) (fun K hK => ?_)
                    refine step_append_lies _ rfl _ _ 42 rfl wq.heap.size 44 i2 _ 1 24 Tryz.underlying42 hj1 hy0 hy1 hy2 rfl (by decide) (.slice (some ⟨gx, 0, none⟩) j cx) j svs rfl (by have h := hfW.own; rw [HSL.out] at h; exact h) ⟨wq.heap.size, 0, none⟩ 1 1 [.slice na X.length nc] rfl rfl hn HONX.out (by decide) (by unfold maxLen; omega) (by omega) hfW.e.size _ rfl ?_; intro gy cy W2 hown2 hgrow2 hat2 hlt3; have hfp := FK.push hfW (StayN.old HX.out hfW.e fun k hk => (hfW.own.lt k hk).1) (by rw [HSL.out]; exact hown2) hgrow2 hat2; have hE2 := hfp.e
                    refine hK.out _ _ (fun _ => HSS.out _ hE2) ?_
                    clear hK
                    try simp only [Act.put, List.setIfInBounds_toArray, List.set_cons_zero, List.set_cons_succ]
                    obtain ⟨oa, oc, e9, hr9⟩ := hfp.rnn (by simp; omega)
                    obtain rfl : oa = some ⟨gy, 0, none⟩ := by injection e9 with e1 _ _; exact e1.symm
                    refine wpAnyE_one (k := 8) (.next (.next (.next (.next (.next (.next (.next (.next (.here))))))))) (by kernel_rfl) (fun K hK => ?_)
                    go_simp
                    refine (HPY.out _ _ _ _ _ _ _ (HM1.out.ext (HX4.out.trans (HXs.out.trans (HWB.out.trans hE2)))) hr9 (HT.out.ext (HE1.out.trans (HX4.out.trans (HXs.out.trans (HWB.out.trans hE2)))))).mono ?_; rintro _ w8 ⟨ta, tc, T, hT1, hT2, rfl, hT3, hE8⟩; dsimp only
                    refine hK.out _ _ (fun _ => HSS.out _ (hE2.trans hE8)) ?_
                    clear hK
                    try simp only [Act.put, List.setIfInBounds_toArray, List.set_cons_zero, List.set_cons_succ]
                    refine wpAnyE_take (i := 9) (v := ?_) (.next (.next (.next (.next (.next (.next (.next (.next (.next (.here)))))))))) (by kernel_rfl) (fun _ _ _ h => h) (HSS.out _ (hE2.trans hE8)) (by rfl) ?_ ?_
                    rotate_left
                    focus (intro w hSw; (try dsimp only at hSw); go_simp; try with_reducible rfl)
                    try simp only [Act.put, List.setIfInBounds_toArray, List.set_cons_zero, List.set_cons_succ]
                    refine wpAnyE_take (i := 10) (v := ?_) (.next (.next (.next (.next (.next (.next (.next (.next (.next (.next (.here))))))))))) (by kernel_rfl) (fun _ _ _ h => h) (HSS.out _ (hE2.trans hE8)) (by rfl) ?_ ?_
                    rotate_left
                    focus (intro w hSw; (try dsimp only at hSw); go_simp; try with_reducible rfl)
                    try simp only [Act.put, List.setIfInBounds_toArray, List.set_cons_zero, List.set_cons_succ]
                    refine wpAnyE_take (i := 11) (v := ?_) (.next (.next (.next (.next (.next (.next (.next (.next (.next (.next (.next (.here)))))))))))) (by kernel_rfl) (fun _ _ _ h => h) (HSS.out _ (hE2.trans hE8)) (by rfl) ?_ ?_
                    rotate_left
                    focus (intro w hSw; (try dsimp only at hSw); go_simp; try with_reducible rfl)
                    try simp only [Act.put, List.setIfInBounds_toArray, List.set_cons_zero, List.set_cons_succ]
                    refine wpAnyE_one (k := 12) (.next (.next (.next (.next (.next (.next (.next (.next (.next (.next (.next (.next (.here))))))))))))) (by kernel_rfl) (fun K hK => ?_)
                    go_simp
                    refine hK.out _ _ (fun _ => HSS.out _ (hE2.trans hE8)) ?_
                    clear hK
                    try simp only [Act.put, List.setIfInBounds_toArray, List.set_cons_zero, List.set_cons_succ]
                    refine wpAnyE_one (k := 13) (.next (.next (.next (.next (.next (.next (.next (.next (.next (.next (.next (.next (.next (.here)))))))))))))) (by kernel_rfl) (fun K hK => ?_)
                    go_simp
                    refine hK.out _ _ (fun _ => HSS.out _ (hE2.trans hE8)) ?_
                    clear hK
                    try simp only [Act.put, List.setIfInBounds_toArray, List.set_cons_zero, List.set_cons_succ]
                    refine wpAnyE_seq [] (.nil) (by kernel_rfl) (by kernel_rfl) ?_
                    go_wp2_with fail
                    go_meet
                    case rel => exact ⟨ta, tc, T, hT1, rfl, rfl, Lib.hid ⟨hT2, hT3, hE2.trans hE8⟩⟩
                case rest =>
                  obtain ⟨ta, tc, T, hTl, rfl, rfl, HTC⟩ := hcut
                  have HTL := Lib.hid hTl
                  clear hTl
                  go_wp2_with fail
                  go_loopw [25] (fun i wy => ∃ r : Nat, r ≤ j + 1 ∧ i = .int .i64 (r : Int) ∧ wy = wc) (fun i _ => j + 1 - (RowKit.intOf i).toNat)
                  case atStart => exact ⟨0, Nat.zero_le _, rfl, rfl⟩
                  case round =>
                    rename World => wy
                    obtain ⟨r, hr, rfl, rfl⟩ := hrel
                    by_cases hrj : r < j + 1
                    · obtain ⟨b1, o1, rfl, hb1, hc1, hd1⟩ := HTC.out.2.1.get (k := r) (by rw [HTL.out]; exact hrj)
                      rw [HTC.out.1 r hrj] at hc1
                      go_wp2_with fail
                      go_roundw
                      case rel => exact ⟨r + 1, hrj, by go_num, trivial⟩
                      case measure => simp [RowKit.intOf]; omega
                    · obtain rfl : r = j + 1 := by omega
                      go_wp2_with fail
                      go_roundw
                      case rel => exact ⟨x + 1, hxk, by go_num, Lib.hid (HWB.out.trans HTC.out.2.2)⟩
                      case measure => simp [RowKit.intOf]; omega
              · have HXn : Hid (X = Y) := Lib.hid (by rw [HXY.out, hb]; rfl)
                have hbb : bits .and .i64 ((u : Int) / 2 ^ x) 1 = 1 := by rw [and_divZ]; unfold b01; rw [hb]; rfl
                obtain ⟨wq, hwq⟩ : ∃ wq, wq = wb := ⟨_, rfl⟩
                clear hb
                have hy := HY.out
                rw [← HXn.out] at hy ⊢
                subst hwq
                have HX := Lib.hid hy
                have HWB := Lib.hid HXb.out
                clear HXY
                go_upto_region 30 with fail
                go_cut [23, 24] from 130 to 141 (fun s23 s24 wc => ∃ ta tc T, List.length T = j + 1 ∧ s23 = .slice ta (j + 1) tc ∧ s24 = .int .i64 0 ∧ Hid ((∀ r, r < j + 1 → (nth T r).1 = true) ∧ RTu wc ta T ∧ Ext wq wc))
                case first =>
                  have HONX : Hid (∀ u ∈ [Value.slice ya X.length yc], u.oneCell' = true) := Lib.hid (by simp [Value.oneCell'])
                  have HPY : Hid (∀ W va ra vc rc oa oc, RM W va ra A → RNN W oa ((sF :: List.replicate (j - 1) qF) ++ [X]) → Tab W → Calls Tryz.prog 24 #[.agg #[.int .i64 A.worlds, .slice va A.val.length vc, .slice ra A.rel.length rc], .int .i64 (u : Int), .slice oa (j + 1) oc] W fun e w' => RetT4 (j + 1) e W w') := Lib.hid fun W va ra vc rc oa oc h1 h2 h3 => by
                    have h := HPX.out W va ra vc rc oa oc h1 h2 h3
                    have hl : (sF :: (List.replicate (j - 1) qF ++ [X])).length = j + 1 := by simp; omega
                    rw [hl] at h
                    exact h
                  have HSS : Hid (∀ W, Ext wq W → W.cell? ⟨w1.heap.size, 0, none⟩ = some (.int .i64 A.worlds) ∧ W.cell? ⟨w1.heap.size, 1, none⟩ = some (.slice va A.val.length vc) ∧ W.cell? ⟨w1.heap.size, 2, none⟩ = some (.slice ra A.rel.length rc)) := Lib.hid fun W h => by
                    obtain ⟨x0, x1, x2, -⟩ := HO1.out.ext (HX4.out.trans (HXs.out.trans (HWB.out.trans h)))
                    exact ⟨x0, x1, x2⟩
                  refine wp_region_E 14 (fun W => W.cell? ⟨w1.heap.size, 0, none⟩ = some (.int .i64 A.worlds) ∧ W.cell? ⟨w1.heap.size, 1, none⟩ = some (.slice va A.val.length vc) ∧ W.cell? ⟨w1.heap.size, 2, none⟩ = some (.slice ra A.rel.length rc)) (by kernel_rfl) ?_
                  refine wpAnyE_take (i := 0) (v := ?_) (.here) (by kernel_rfl) (fun _ _ _ h => h) (HSS.out _ (Ext.refl _).drew) (by rfl) ?_ ?_
                  rotate_left
                  focus (intro w hSw; (try dsimp only at hSw); go_simp; try with_reducible rfl)
                  try simp only [Act.put, List.setIfInBounds_toArray, List.set_cons_zero, List.set_cons_succ]
                  refine wpAnyE_take (i := 1) (v := ?_) (.next (.here)) (by kernel_rfl) (fun _ _ _ h => h) (HSS.out _ (Ext.refl _).drew) (by rfl) ?_ ?_
                  rotate_left
                  focus (intro w hSw; (try dsimp only at hSw); go_simp; try with_reducible rfl)
                  try simp only [Act.put, List.setIfInBounds_toArray, List.set_cons_zero, List.set_cons_succ]
                  refine wpAnyE_take (i := 3) (v := ?_) (.next (.next (.next (.here)))) (by kernel_rfl) (fun _ _ _ h => h) (HSS.out _ (Ext.refl _).drew) (by rfl) ?_ ?_
                  rotate_left
                  focus (intro w hSw; (try dsimp only at hSw); go_simp; try with_reducible rfl)
                  try simp only [Act.put, List.setIfInBounds_toArray, List.set_cons_zero, List.set_cons_succ]
                  refine wpAnyE_take (i := 5) (v := ?_) (.next (.next (.next (.next (.next (.here)))))) (by kernel_rfl) (fun _ _ _ h => h) (HSS.out _ (Ext.refl _).drew) (by rfl) ?_ ?_
                  rotate_left
                  focus (intro w hSw; (try dsimp only at hSw); go_simp; try with_reducible rfl)
                  try simp only [Act.put, List.setIfInBounds_toArray, List.set_cons_zero, List.set_cons_succ]
                  refine wpAnyE_two (k := 2) (j := 6) (.next (.next (.here))) (.next (.next (.next (.next (.next (.next (.here))))))) (by kernel_rfl) (fun K hK => ?_) (fun K hK => ?_)
                  · skip
                    go_simp
                    refine hK.out _ _ (fun _ => HSS.out _ ((Ext.refl _).drew.alloc _)) ?_
                    clear hK
                    try simp only [Act.put, List.setIfInBounds_toArray, List.set_cons_zero, List.set_cons_succ]
                    refine wpAnyE_two (k := 4) (j := 6) (.next (.next (.next (.next (.here))))) (.next (.next (.next (.next (.next (.next (.here))))))) (by kernel_rfl) (fun K hK => ?_) (fun K hK => ?_)
                    · skip
                      have hV : Ext wq (wq.alloc (.cells #[] 44)).drew := ((Ext.refl wq).alloc _).drew
                      have hown0 : World.ownsRow (wq.alloc (.cells #[] 44)).drew wq.heap.size 44 1 (.slice (some ⟨wq.heap.size, 0, none⟩) 0 0) 0 [] := own_ext2 (own_empty wq wq.heap.size _ (Nat.le_refl _)) (Ext.refl _).drew
                      refine step_append_lies _ rfl _ _ 42 rfl wq.heap.size 44 i2 _ 1 24 Tryz.underlying42 hj1 hy0 hy1 hy2 rfl (by decide) (.slice (some ⟨wq.heap.size, 0, none⟩) 0 0) 0 [] rfl hown0 ⟨g, 0, none⟩ j cap svs rfl (by rw [HSL.out, Nat.mul_one]) (HGC.out _ (HWB.out.trans hV)) HON.out (by omega) (by unfold maxLen; omega) (by omega) hV.size _ rfl ?_; intro gx cx W1 hown hgrow hat hlt2; have hE1 : Ext wq W1 := ext_of_grown hV hgrow (fun k hk => (hown0.lt k hk).1); simp only [Nat.zero_add, List.nil_append] at hown ⊢; have hfc : FK wq (sF :: List.replicate (j - 1) qF) svs (.slice (some ⟨gx, 0, none⟩) j cx) W1 := (HFK.out.ext' (HWB.out)).copy hE1 (by rw [HSL.out]; exact hown)
                      refine hK.out _ _ (fun _ => HSS.out _ hE1) ?_
                      clear hK
                      try simp only [Act.put, List.setIfInBounds_toArray, List.set_cons_zero, List.set_cons_succ]
                      refine wpAnyE_one (k := 6) (.next (.next (.next (.next (.next (.next (.here))))))) (by kernel_rfl) (fun K hK => ?_)
                      go_simp
                      refine hK.out _ _ (fun _ => HSS.out _ (hE1.alloc _)) ?_
                      clear hK
                      try simp only [Act.put, List.setIfInBounds_toArray, List.set_cons_zero, List.set_cons_succ]
                      have hfW := hfc.ext' ((Ext.refl W1).alloc (.cells #[.slice ya X.length yc] 44))
                      have hn : ∀ i u, [Value.slice ya X.length yc][i]? = some u → (W1.alloc (.cells #[.slice ya X.length yc] 44)).cell? ((⟨W1.heap.size, 0, none⟩ : Addr).add i) = some u := cell_one_new _ _ _
                      refine wpAnyE_one (k := 7) (.next (.next (.next (.next (.next (.next (.next (.here)))))))) (by kernel_rfl) (fun K hK => ?_)
                      refine step_append_lies _ rfl _ _ 42 rfl wq.heap.size 44 i2 _ 1 24 Tryz.underlying42 hj1 hy0 hy1 hy2 rfl (by decide) (.slice (some ⟨gx, 0, none⟩) j cx) j svs rfl (by have h := hfW.own; rw [HSL.out] at h; exact h) ⟨W1.heap.size, 0, none⟩ 1 1 [.slice ya X.length yc] rfl rfl hn HONX.out (by decide) (by unfold maxLen; omega) (by omega) hfW.e.size _ rfl ?_; intro gy cy W2 hown2 hgrow2 hat2 hlt3; have hfp := FK.push hfW (StayN.old HX.out hfW.e fun k hk => (hfW.own.lt k hk).1) (by rw [HSL.out]; exact hown2) hgrow2 hat2; have hE2 := hfp.e
                      refine hK.out _ _ (fun _ => HSS.out _ hE2) ?_
                      clear hK
                      try simp only [Act.put, List.setIfInBounds_toArray, List.set_cons_zero, List.set_cons_succ]
                      obtain ⟨oa, oc, e9, hr9⟩ := hfp.rnn (by simp; omega)
                      obtain rfl : oa = some ⟨gy, 0, none⟩ := by injection e9 with e1 _ _; exact e1.symm
                      refine wpAnyE_one (k := 8) (.next (.next (.next (.next (.next (.next (.next (.next (.here))))))))) (by kernel_rfl) (fun K hK => ?_)
                      go_simp
                      refine (HPY.out _ _ _ _ _ _ _ (HM1.out.ext (HX4.out.trans (HXs.out.trans (HWB.out.trans hE2)))) hr9 (HT.out.ext (HE1.out.trans (HX4.out.trans (HXs.out.trans (HWB.out.trans hE2)))))).mono ?_; rintro _ w8 ⟨ta, tc, T, hT1, hT2, rfl, hT3, hE8⟩; dsimp only
                      refine hK.out _ _ (fun _ => HSS.out _ (hE2.trans hE8)) ?_
                      clear hK
                      try simp only [Act.put, List.setIfInBounds_toArray, List.set_cons_zero, List.set_cons_succ]
                      refine wpAnyE_take (i := 9) (v := ?_) (.next (.next (.next (.next (.next (.next (.next (.next (.next (.here)))))))))) (by kernel_rfl) (fun _ _ _ h => h) (HSS.out _ (hE2.trans hE8)) (by rfl) ?_ ?_
                      rotate_left
                      focus (intro w hSw; (try dsimp only at hSw); go_simp; try with_reducible rfl)
                      try simp only [Act.put, List.setIfInBounds_toArray, List.set_cons_zero, List.set_cons_succ]
                      refine wpAnyE_take (i := 10) (v := ?_) (.next (.next (.next (.next (.next (.next (.next (.next (.next (.next (.here))))))))))) (by kernel_rfl) (fun _ _ _ h => h) (HSS.out _ (hE2.trans hE8)) (by rfl) ?_ ?_
                      rotate_left
                      focus (intro w hSw; (try dsimp only at hSw); go_simp; try with_reducible rfl)
                      try simp only [Act.put, List.setIfInBounds_toArray, List.set_cons_zero, List.set_cons_succ]
                      refine wpAnyE_take (i := 11) (v := ?_) (.next (.next (.next (.next (.next (.next (.next (.next (.next (.next (.next (.here)))))))))))) (by kernel_rfl) (fun _ _ _ h => h) (HSS.out _ (hE2.trans hE8)) (by rfl) ?_ ?_
                      rotate_left
                      focus (intro w hSw; (try dsimp only at hSw); go_simp; try with_reducible rfl)
                      try simp only [Act.put, List.setIfInBounds_toArray, List.set_cons_zero, List.set_cons_succ]
                      refine wpAnyE_one (k := 12) (.next (.next (.next (.next (.next (.next (.next (.next (.next (.next (.next (.next (.here))))))))))))) (by kernel_rfl) (fun K hK => ?_)
                      go_simp
                      refine hK.out _ _ (fun _ => HSS.out _ (hE2.trans hE8)) ?_
                      clear hK
                      try simp only [Act.put, List.setIfInBounds_toArray, List.set_cons_zero, List.set_cons_succ]
                      refine wpAnyE_one (k := 13) (.next (.next (.next (.next (.next (.next (.next (.next (.next (.next (.next (.next (.next (.here)))))))))))))) (by kernel_rfl) (fun K hK => ?_)
                      go_simp
                      refine hK.out _ _ (fun _ => HSS.out _ (hE2.trans hE8)) ?_
                      clear hK
                      try simp only [Act.put, List.setIfInBounds_toArray, List.set_cons_zero, List.set_cons_succ]
                      refine wpAnyE_seq [] (.nil) (by kernel_rfl) (by kernel_rfl) ?_
                      go_wp2_with fail
                      go_meet
                      case rel => exact ⟨ta, tc, T, hT1, rfl, rfl, Lib.hid ⟨hT2, hT3, hE2.trans hE8⟩⟩
                    · skip
                      go_simp
                      refine hK.out _ _ (fun _ => HSS.out _ (((Ext.refl _).drew.alloc _).alloc _)) ?_
                      clear hK
                      try simp only [Act.put, List.setIfInBounds_toArray, List.set_cons_zero, List.set_cons_succ]
                      have hV : Ext wq ((wq.alloc (.cells #[] 44)).alloc (.cells #[.slice ya X.length yc] 44)).drew := (((Ext.refl wq).alloc _).alloc _).drew
                      have hown0 : World.ownsRow ((wq.alloc (.cells #[] 44)).alloc (.cells #[.slice ya X.length yc] 44)).drew wq.heap.size 44 1 (.slice (some ⟨wq.heap.size, 0, none⟩) 0 0) 0 [] := own_ext2 (own_empty wq wq.heap.size _ (Nat.le_refl _)) ((Ext.refl _).alloc _).drew
                      refine wpAnyE_one (k := 4) (.next (.next (.next (.next (.here))))) (by kernel_rfl) (fun K hK => ?_)
                      refine step_append_lies _ rfl _ _ 42 rfl wq.heap.size 44 i2 _ 1 24 Tryz.underlying42 hj1 hy0 hy1 hy2 rfl (by decide) (.slice (some ⟨wq.heap.size, 0, none⟩) 0 0) 0 [] rfl hown0 ⟨g, 0, none⟩ j cap svs rfl (by rw [HSL.out, Nat.mul_one]) (HGC.out _ (HWB.out.trans hV)) HON.out (by omega) (by unfold maxLen; omega) (by omega) hV.size _ rfl ?_; intro gx cx W1 hown hgrow hat hlt2; have hE1 : Ext wq W1 := ext_of_grown hV hgrow (fun k hk => (hown0.lt k hk).1); simp only [Nat.zero_add, List.nil_append] at hown ⊢; have hfc : FK wq (sF :: List.replicate (j - 1) qF) svs (.slice (some ⟨gx, 0, none⟩) j cx) W1 := (HFK.out.ext' (HWB.out)).copy hE1 (by rw [HSL.out]; exact hown)
                      refine hK.out _ _ (fun _ => HSS.out _ hE1) ?_
                      clear hK
                      try simp only [Act.put, List.setIfInBounds_toArray, List.set_cons_zero, List.set_cons_succ]
                      have hfW := hfc
                      have hn : ∀ i u, [Value.slice ya X.length yc][i]? = some u → W1.cell? ((⟨wq.heap.size + 1, 0, none⟩ : Addr).add i) = some u := news_grown (news_ext (W1 := ((wq.alloc (.cells #[] 44)).alloc (.cells #[.slice ya X.length yc] 44)).drew) (show ∀ i u, _ → ((wq.alloc (.cells #[] 44)).alloc (.cells #[.slice ya X.length yc] 44)).cell? _ = some u from (by have h := cell_one_new (wq.alloc (.cells #[] 44)) (.slice ya X.length yc) 44; rw [show (wq.alloc (.cells #[] 44)).heap.size = wq.heap.size + 1 by simp] at h; exact h)) (Ext.refl _).drew) hgrow (by simp [Value.ownBlock]) (by simp; try omega)
                      refine wpAnyE_one (k := 7) (.next (.next (.next (.next (.next (.next (.next (.here)))))))) (by kernel_rfl) (fun K hK => ?_)
                      refine step_append_lies _ rfl _ _ 42 rfl wq.heap.size 44 i2 _ 1 24 Tryz.underlying42 hj1 hy0 hy1 hy2 rfl (by decide) (.slice (some ⟨gx, 0, none⟩) j cx) j svs rfl (by have h := hfW.own; rw [HSL.out] at h; exact h) ⟨wq.heap.size + 1, 0, none⟩ 1 1 [.slice ya X.length yc] rfl rfl hn HONX.out (by decide) (by unfold maxLen; omega) (by omega) hfW.e.size _ rfl ?_; intro gy cy W2 hown2 hgrow2 hat2 hlt3; have hfp := FK.push hfW (StayN.old HX.out hfW.e fun k hk => (hfW.own.lt k hk).1) (by rw [HSL.out]; exact hown2) hgrow2 hat2; have hE2 := hfp.e
                      refine hK.out _ _ (fun _ => HSS.out _ hE2) ?_
                      clear hK
                      try simp only [Act.put, List.setIfInBounds_toArray, List.set_cons_zero, List.set_cons_succ]
                      obtain ⟨oa, oc, e9, hr9⟩ := hfp.rnn (by simp; omega)
                      obtain rfl : oa = some ⟨gy, 0, none⟩ := by injection e9 with e1 _ _; exact e1.symm
                      refine wpAnyE_one (k := 8) (.next (.next (.next (.next (.next (.next (.next (.next (.here))))))))) (by kernel_rfl) (fun K hK => ?_)
                      go_simp
                      refine (HPY.out _ _ _ _ _ _ _ (HM1.out.ext (HX4.out.trans (HXs.out.trans (HWB.out.trans hE2)))) hr9 (HT.out.ext (HE1.out.trans (HX4.out.trans (HXs.out.trans (HWB.out.trans hE2)))))).mono ?_; rintro _ w8 ⟨ta, tc, T, hT1, hT2, rfl, hT3, hE8⟩; dsimp only
                      refine hK.out _ _ (fun _ => HSS.out _ (hE2.trans hE8)) ?_
                      clear hK
                      try simp only [Act.put, List.setIfInBounds_toArray, List.set_cons_zero, List.set_cons_succ]
                      refine wpAnyE_take (i := 9) (v := ?_) (.next (.next (.next (.next (.next (.next (.next (.next (.next (.here)))))))))) (by kernel_rfl) (fun _ _ _ h => h) (HSS.out _ (hE2.trans hE8)) (by rfl) ?_ ?_
                      rotate_left
                      focus (intro w hSw; (try dsimp only at hSw); go_simp; try with_reducible rfl)
                      try simp only [Act.put, List.setIfInBounds_toArray, List.set_cons_zero, List.set_cons_succ]
                      refine wpAnyE_take (i := 10) (v := ?_) (.next (.next (.next (.next (.next (.next (.next (.next (.next (.next (.here))))))))))) (by kernel_rfl) (fun _ _ _ h => h) (HSS.out _ (hE2.trans hE8)) (by rfl) ?_ ?_
                      rotate_left
                      focus (intro w hSw; (try dsimp only at hSw); go_simp; try with_reducible rfl)
                      try simp only [Act.put, List.setIfInBounds_toArray, List.set_cons_zero, List.set_cons_succ]
                      refine wpAnyE_take (i := 11) (v := ?_) (.next (.next (.next (.next (.next (.next (.next (.next (.next (.next (.next (.here)))))))))))) (by kernel_rfl) (fun _ _ _ h => h) (HSS.out _ (hE2.trans hE8)) (by rfl) ?_ ?_
                      rotate_left
                      focus (intro w hSw; (try dsimp only at hSw); go_simp; try with_reducible rfl)
                      try simp only [Act.put, List.setIfInBounds_toArray, List.set_cons_zero, List.set_cons_succ]
                      refine wpAnyE_one (k := 12) (.next (.next (.next (.next (.next (.next (.next (.next (.next (.next (.next (.next (.here))))))))))))) (by kernel_rfl) (fun K hK => ?_)
                      go_simp
                      refine hK.out _ _ (fun _ => HSS.out _ (hE2.trans hE8)) ?_
                      clear hK
                      try simp only [Act.put, List.setIfInBounds_toArray, List.set_cons_zero, List.set_cons_succ]
                      refine wpAnyE_one (k := 13) (.next (.next (.next (.next (.next (.next (.next (.next (.next (.next (.next (.next (.next (.here)))))))))))))) (by kernel_rfl) (fun K hK => ?_)
                      go_simp
                      refine hK.out _ _ (fun _ => HSS.out _ (hE2.trans hE8)) ?_
                      clear hK
                      try simp only [Act.put, List.setIfInBounds_toArray, List.set_cons_zero, List.set_cons_succ]
                      refine wpAnyE_seq [] (.nil) (by kernel_rfl) (by kernel_rfl) ?_
                      go_wp2_with fail
                      go_meet
                      case rel => exact ⟨ta, tc, T, hT1, rfl, rfl, Lib.hid ⟨hT2, hT3, hE2.trans hE8⟩⟩
                  · skip
                    go_simp
                    refine hK.out _ _ (fun _ => HSS.out _ ((Ext.refl _).drew.alloc _)) ?_
                    clear hK
                    try simp only [Act.put, List.setIfInBounds_toArray, List.set_cons_zero, List.set_cons_succ]
                    refine wpAnyE_one (k := 2) (.next (.next (.here))) (by kernel_rfl) (fun K hK => ?_)
                    go_simp
                    refine hK.out _ _ (fun _ => HSS.out _ (((Ext.refl _).drew.alloc _).alloc _)) ?_
                    clear hK
                    try simp only [Act.put, List.setIfInBounds_toArray, List.set_cons_zero, List.set_cons_succ]
                    have hV : Ext wq ((wq.alloc (.cells #[.slice ya X.length yc] 44)).alloc (.cells #[] 44)).drew := (((Ext.refl wq).alloc _).alloc _).drew
                    have hown0 : World.ownsRow ((wq.alloc (.cells #[.slice ya X.length yc] 44)).alloc (.cells #[] 44)).drew wq.heap.size 44 1 (.slice (some ⟨wq.heap.size + 1, 0, none⟩) 0 0) 0 [] := own_ext2 (by have h := own_empty (wq.alloc (.cells #[.slice ya X.length yc] 44)) wq.heap.size 44 (by simp); rw [show (wq.alloc (.cells #[.slice ya X.length yc] 44)).heap.size = wq.heap.size + 1 by simp] at h; exact h) (Ext.refl _).drew
                    refine wpAnyE_one (k := 4) (.next (.next (.next (.next (.here))))) (by kernel_rfl) (fun K hK => ?_)
                    refine step_append_lies _ rfl _ _ 42 rfl wq.heap.size 44 i2 _ 1 24 Tryz.underlying42 hj1 hy0 hy1 hy2 rfl (by decide) (.slice (some ⟨wq.heap.size + 1, 0, none⟩) 0 0) 0 [] rfl hown0 ⟨g, 0, none⟩ j cap svs rfl (by rw [HSL.out, Nat.mul_one]) (HGC.out _ (HWB.out.trans hV)) HON.out (by omega) (by unfold maxLen; omega) (by omega) hV.size _ rfl ?_; intro gx cx W1 hown hgrow hat hlt2; have hE1 : Ext wq W1 := ext_of_grown hV hgrow (fun k hk => (hown0.lt k hk).1); simp only [Nat.zero_add, List.nil_append] at hown ⊢; have hfc : FK wq (sF :: List.replicate (j - 1) qF) svs (.slice (some ⟨gx, 0, none⟩) j cx) W1 := (HFK.out.ext' (HWB.out)).copy hE1 (by rw [HSL.out]; exact hown)
                    refine hK.out _ _ (fun _ => HSS.out _ hE1) ?_
                    clear hK
                    try simp only [Act.put, List.setIfInBounds_toArray, List.set_cons_zero, List.set_cons_succ]
                    have hfW := hfc
                    have hn : ∀ i u, [Value.slice ya X.length yc][i]? = some u → W1.cell? ((⟨wq.heap.size, 0, none⟩ : Addr).add i) = some u := news_grown (news_ext (W1 := ((wq.alloc (.cells #[.slice ya X.length yc] 44)).alloc (.cells #[] 44)).drew) (cell_one_new wq (.slice ya X.length yc) 44) ((Ext.refl _).alloc _).drew) hgrow (by simp [Value.ownBlock]) (by simp; try omega)
                    refine wpAnyE_one (k := 7) (.next (.next (.next (.next (.next (.next (.next (.here)))))))) (by kernel_rfl) (fun K hK => ?_)
                    refine step_append_lies _ rfl _ _ 42 rfl wq.heap.size 44 i2 _ 1 24 Tryz.underlying42 hj1 hy0 hy1 hy2 rfl (by decide) (.slice (some ⟨gx, 0, none⟩) j cx) j svs rfl (by have h := hfW.own; rw [HSL.out] at h; exact h) ⟨wq.heap.size, 0, none⟩ 1 1 [.slice ya X.length yc] rfl rfl hn HONX.out (by decide) (by unfold maxLen; omega) (by omega) hfW.e.size _ rfl ?_; intro gy cy W2 hown2 hgrow2 hat2 hlt3; have hfp := FK.push hfW (StayN.old HX.out hfW.e fun k hk => (hfW.own.lt k hk).1) (by rw [HSL.out]; exact hown2) hgrow2 hat2; have hE2 := hfp.e
                    refine hK.out _ _ (fun _ => HSS.out _ hE2) ?_
                    clear hK
                    try simp only [Act.put, List.setIfInBounds_toArray, List.set_cons_zero, List.set_cons_succ]
                    obtain ⟨oa, oc, e9, hr9⟩ := hfp.rnn (by simp; omega)
                    obtain rfl : oa = some ⟨gy, 0, none⟩ := by injection e9 with e1 _ _; exact e1.symm
                    refine wpAnyE_one (k := 8) (.next (.next (.next (.next (.next (.next (.next (.next (.here))))))))) (by kernel_rfl) (fun K hK => ?_)
                    go_simp
                    refine (HPY.out _ _ _ _ _ _ _ (HM1.out.ext (HX4.out.trans (HXs.out.trans (HWB.out.trans hE2)))) hr9 (HT.out.ext (HE1.out.trans (HX4.out.trans (HXs.out.trans (HWB.out.trans hE2)))))).mono ?_; rintro _ w8 ⟨ta, tc, T, hT1, hT2, rfl, hT3, hE8⟩; dsimp only
                    refine hK.out _ _ (fun _ => HSS.out _ (hE2.trans hE8)) ?_
                    clear hK
                    try simp only [Act.put, List.setIfInBounds_toArray, List.set_cons_zero, List.set_cons_succ]
                    refine wpAnyE_take (i := 9) (v := ?_) (.next (.next (.next (.next (.next (.next (.next (.next (.next (.here)))))))))) (by kernel_rfl) (fun _ _ _ h => h) (HSS.out _ (hE2.trans hE8)) (by rfl) ?_ ?_
                    rotate_left
                    focus (intro w hSw; (try dsimp only at hSw); go_simp; try with_reducible rfl)
                    try simp only [Act.put, List.setIfInBounds_toArray, List.set_cons_zero, List.set_cons_succ]
                    refine wpAnyE_take (i := 10) (v := ?_) (.next (.next (.next (.next (.next (.next (.next (.next (.next (.next (.here))))))))))) (by kernel_rfl) (fun _ _ _ h => h) (HSS.out _ (hE2.trans hE8)) (by rfl) ?_ ?_
                    rotate_left
                    focus (intro w hSw; (try dsimp only at hSw); go_simp; try with_reducible rfl)
                    try simp only [Act.put, List.setIfInBounds_toArray, List.set_cons_zero, List.set_cons_succ]
                    refine wpAnyE_take (i := 11) (v := ?_) (.next (.next (.next (.next (.next (.next (.next (.next (.next (.next (.next (.here)))))))))))) (by kernel_rfl) (fun _ _ _ h => h) (HSS.out _ (hE2.trans hE8)) (by rfl) ?_ ?_
                    rotate_left
                    focus (intro w hSw; (try dsimp only at hSw); go_simp; try with_reducible rfl)
                    try simp only [Act.put, List.setIfInBounds_toArray, List.set_cons_zero, List.set_cons_succ]
                    refine wpAnyE_one (k := 12) (.next (.next (.next (.next (.next (.next (.next (.next (.next (.next (.next (.next (.here))))))))))))) (by kernel_rfl) (fun K hK => ?_)
                    go_simp
                    refine hK.out _ _ (fun _ => HSS.out _ (hE2.trans hE8)) ?_
                    clear hK
                    try simp only [Act.put, List.setIfInBounds_toArray, List.set_cons_zero, List.set_cons_succ]
                    refine wpAnyE_one (k := 13) (.next (.next (.next (.next (.next (.next (.next (.next (.next (.next (.next (.next (.next (.here)))))))))))))) (by kernel_rfl) (fun K hK => ?_)
                    go_simp
                    refine hK.out _ _ (fun _ => HSS.out _ (hE2.trans hE8)) ?_
                    clear hK
                    try simp only [Act.put, List.setIfInBounds_toArray, List.set_cons_zero, List.set_cons_succ]
                    refine wpAnyE_seq [] (.nil) (by kernel_rfl) (by kernel_rfl) ?_
                    go_wp2_with fail
                    go_meet
                    case rel => exact ⟨ta, tc, T, hT1, rfl, rfl, Lib.hid ⟨hT2, hT3, hE2.trans hE8⟩⟩
                case rest =>
                  obtain ⟨ta, tc, T, hTl, rfl, rfl, HTC⟩ := hcut
                  have HTL := Lib.hid hTl
                  clear hTl
                  go_wp2_with fail
                  go_loopw [25] (fun i wy => ∃ r : Nat, r ≤ j + 1 ∧ i = .int .i64 (r : Int) ∧ wy = wc) (fun i _ => j + 1 - (RowKit.intOf i).toNat)
                  case atStart => exact ⟨0, Nat.zero_le _, rfl, rfl⟩
                  case round =>
                    rename World => wy
                    obtain ⟨r, hr, rfl, rfl⟩ := hrel
                    by_cases hrj : r < j + 1
                    · obtain ⟨b1, o1, rfl, hb1, hc1, hd1⟩ := HTC.out.2.1.get (k := r) (by rw [HTL.out]; exact hrj)
                      rw [HTC.out.1 r hrj] at hc1
                      go_wp2_with fail
                      go_roundw
                      case rel => exact ⟨r + 1, hrj, by go_num, trivial⟩
                      case measure => simp [RowKit.intOf]; omega
                    · obtain rfl : r = j + 1 := by omega
                      go_wp2_with fail
                      go_roundw
                      case rel => exact ⟨x + 1, hxk, by go_num, Lib.hid (HWB.out.trans HTC.out.2.2)⟩
                      case measure => simp [RowKit.intOf]; omega
            · obtain rfl : x = k := by omega
              go_wp2_with fail
              refine (awake32_any _ (HT.out.ext (HE1.out.trans (HX4.out.trans (HXs.out.trans HX.out))))).mono ?_
              rintro _ w9 ⟨rfl, hE9⟩
              dsimp only
              go_wp2_with fail
              go_ret
              exact ⟨rfl, (HE1.out.trans (HX4.out.trans (HXs.out.trans HX.out))).trans hE9⟩
theorem puzzlesMuddy_int (s v : Int) (bs : 0 ≤ s ∧ s ≤ 255) (bv : 0 ≤ v ∧ v ≤ 255) (w : World) (hT : Tab w) :
    Calls Tryz.prog 5 #[.int .u8 s, .int .u8 v] w fun e w' => e = .returned (.bool true) ∧ Ext w w' := by
  obtain ⟨s, rfl⟩ := Int.eq_ofNat_of_zero_le bs.1
  obtain ⟨v, rfl⟩ := Int.eq_ofNat_of_zero_le bv.1
  exact puzzlesMuddy_any s v (by omega) (by omega) w hT
end Wt

/- The law PuzzlesMuddy returns true at every input, and its arguments read behind the call as they did before. the tied card: the library's table of TrailingZeros64 lies as the program's text lays it. -/
namespace Go.Proofs.YtoacdccachhjdaaGreatDoor
open Go.ChangeShapes Go.WideShapes Go.ChangeAt Go.WideMaps Go.WideElems Go.RowKit

theorem own : ownKnob Tryz.prog.godebug = none := by kernel_rfl
theorem laidOut : laidOutB Tryz.prog = true := by kernel_rfl
theorem door_met (os : Os) (args : Array Value) : laidMetH Tryz.prog [("math/bits.deBruijn64tab", Rows.laid_math_bits_deBruijn64tab)] ((World.doorLaid Tryz.prog 400 os).forCall (fun _ _ => 0) ⟨#[], args, []⟩).memory := by
  rw [MakeChecks.laidMetH_plain _ _ _ (by kernel_rfl)]
  exact laidMet_of_run' 8 (by kernel_rfl) (by kernel_rfl)
set_option maxRecDepth 100000 in
set_option maxHeartbeats 1000000 in
theorem law_lifted (os : Os) (started : os.Started) (H : Type) (enc : TypeId × Value → H) :
    ReturnsInHanded {} Tryz.checked os 5 .any (fun w args => (Rows.puzzlesMuddySpec.pre enc Tryz.prog Tryz.f5 Rows.puzzlesMuddyRow.domain false w args ∧ laidMetH Tryz.prog [("math/bits.deBruijn64tab", Rows.laid_math_bits_deBruijn64tab)] w) ∧ sizedMet enc Tryz.prog Tryz.f5 (OpenSpec.ofChange Rows.puzzlesMuddySpec) false w args)
      (Rows.puzzlesMuddySpec.post enc Tryz.prog Tryz.f5 false true false false) := by
  refine returnsInHanded_of_change_and (C := Tryz.checked) (X := fun w _ => laidMetH Tryz.prog [("math/bits.deBruijn64tab", Rows.laid_math_bits_deBruijn64tab)] w) (fun _ _ _ hh h => h.of_heap hh) own started (by kernel_rfl) Tryz.func5
    (ChangeSpec.witness_shaped (enc := enc) (C := Tryz.checked) (os := os) (X := fun w _ => laidMetH Tryz.prog [("math/bits.deBruijn64tab", Rows.laid_math_bits_deBruijn64tab)] w) false (World.doorLaid Tryz.prog 400 os) #[.int .u8 0, .int .u8 0] 8 rfl (World.shaped_of_RefB (by kernel_rfl) (by kernel_rfl)) (by kernel_rfl) (by kernel_rfl) (by kernel_rfl) (door_met os _)) ?_
  intro W base args ds gs before hval0 hW _ hsz0 hL _
  have hT := of_laid hL
  have hval : ∀ (j : Nat) t v, Tryz.f5.params[j]? = some t → args[j]? = some v → Value.okWide Tryz.prog W .any base t v := hval0
  have hsz : (DataW.weightsEach Tryz.prog (Tryz.f5.params.toList ++ Rows.puzzlesMuddySpec.plain.varTypes Tryz.prog) (ds ++ gs)).all (· ≤ reachBytes) = true := hsz0
  have hW' := hW
  obtain ⟨p, q, hA0, hV, rfl, hfz, hnd⟩ := hW
  have hA : DataW.TrodAll enc Tryz.prog W 0 (fun _ => true) true Tryz.f5.params.toList args.toList ds p := hA0
  rw [Tryz.params5] at hA hval hsz
  obtain ⟨v0, v1, d0, d1, p0, p1, rfl, rfl, rfl, h0, h1⟩ := trodAll_two hA
  obtain ⟨rfl, rfl⟩ := trodVars_none hV
  have hv0 : Rows.puzzlesMuddySpec.plain.varTypes Tryz.prog = [] := rfl
  rw [hv0] at hsz
  have hz : ∀ n ∈ DataW.weightsEach Tryz.prog [5, 5] [d0, d1], n ≤ reachBytes := fun n hn => by
    have := List.all_eq_true.1 hsz n (by simpa using hn)
    simpa using this
  have k0 := h0
  have k1 := h1
  obtain ⟨s, rfl, rfl, rfl, ws⟩ := open_int Tryz.underlying5 (hval 0 5 v0 rfl rfl) h0
  have bs := ws
  simp [Lit.wf, IntKind.min, IntKind.max, IntKind.signed, IntKind.bits] at bs
  obtain ⟨v, rfl, rfl, rfl, wv⟩ := open_int Tryz.underlying5 (hval 1 5 v1 rfl rfl) h1
  have bv := wv
  simp [Lit.wf, IntKind.min, IntKind.max, IntKind.signed, IntKind.bits] at bv
  refine (Wt.puzzlesMuddy_int s v bs bv W hT).mono fun e W' he => ?_
  obtain ⟨rfl, hE⟩ := he
  have bel : Below W.heap.size W W' := hE
  refine ⟨_, rfl, ⟨_, _, _, [], [] ++ ([]), [], hW', trodAll_mk1 (shut_bool Tryz.underlying4 true), trodAll_mk2 (shut_int Tryz.underlying5 ws) (shut_int Tryz.underlying5 wv), rfl, bel.frame _, fun h => by cases h⟩⟩
theorem puzzlesMuddy_holds : Rows.PuzzlesMuddySaid :=
  OpenClaim.holds_of_wide 5 Tryz.f5 rfl rfl rfl rfl rfl rfl rfl ⟨rfl, rfl, rfl, rfl, rfl⟩ rfl rfl rfl rfl rfl (by kernel_rfl) Tryz.func5 (by kernel_rfl)
    (of_decide_eq_true (by kernel_rfl)) (by unfold Func.isWrapper; first | (rw [if_pos (by decide +kernel)]; kernel_rfl) | (rw [if_neg (by decide +kernel)]; exact ⟨rfl, rfl⟩))
    (fun os started H enc _ => law_lifted os started H enc)
theorem puzzlesMuddy_card_holds : Rows.PuzzlesMuddyCardSaid :=
  Claim7.holds_tied_plain_at .later [] [.data] true Rows.puzzlesMuddyCard.stood.harness false
    puzzlesMuddy_holds (fun _ h => by cases h) (by kernel_rfl) (fun _ h => by cases h) puzzlesMuddy_row_tie rfl ⟨rfl, rfl⟩ (by kernel_rfl) rfl
    (fun f fn hf hfn => by
      obtain rfl : f = 5 := Option.some.inj ((show Tryz.prog.funcNamed "witting/wittinglaw32.PuzzlesMuddy" = some 5 by kernel_rfl).symm.trans hf) |>.symm
      obtain rfl : fn = Tryz.f5 := (Option.some.inj (Tryz.func5.symm.trans hfn)).symm
      exact ⟨by kernel_rfl, fun j t ht => by
        rw [Tryz.params5] at ht
        have hm : t ∈ [5, 5] := by simpa using Array.mem_of_getElem? ht
        have hall : ([5, 5].all fun u => !Tryz.prog.wantsStandIn u) = true := by kernel_rfl
        exact (show Tryz.prog.wantsStandIn t = false by simpa using List.all_eq_true.1 hall t hm)⟩)
    (by kernel_rfl)
#print axioms puzzlesMuddy_card_holds
end Go.Proofs.YtoacdccachhjdaaGreatDoor
