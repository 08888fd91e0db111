/- Walks: slices.Clone, Sort, Compact at rows of ints that a call owns (the shelf's contracts). -/
import Derived.Test.YtbeaagnahldefaaDoorM7Av
import Derived.Test.YtbeaagnahldefaaDoorShl
import Derived.Sort.OwnSortedInts
import Derived.Lib.OwnBridge
namespace Wt
open Go Go.RowKit Go.Sort Go.Maps Go.Proofs Fm

theorem cloneI_any {g n c base : Nat} {l : List Int} {w : World} (h : OG w base 3 iv g n c l) (hn : n ≤ 1000) :
    Calls Tryd.prog 71 #[.slice (some ⟨g, 0, none⟩) n c] w fun e w' => ∃ g' c', e = .returned (.slice (some ⟨g', 0, none⟩) n c') ∧ OG w' w.heap.size 3 iv g' n c' l ∧ Ext w w' := by
  have hl := h.len
  refine (Tryd.slices_Clone_int g 0 n c l w (by omega) (by omega) fun j hj => ?_).mono ?_
  · rw [Nat.zero_add, h.cell (by omega), List.getD_eq_getElem?_getD, List.getElem?_eq_getElem hj, nth_eq _ _ hj]; rfl
  · rintro e w' ⟨v', rfl, ho, hne, hb⟩
    rw [List.take_of_length_le (by omega)] at ho
    rcases ho.2 with ⟨e0, -⟩ | ⟨g', c', cur, rfl, -⟩
    · exact absurd e0 hne
    · exact ⟨g', c', rfl, ⟨hl, ho⟩, hb⟩
theorem sortI_any {g n c base : Nat} {l : List Int} {w : World} (h : OG w base 3 iv g n c l) (hn : n ≤ 1000) :
    Calls Tryd.prog 72 #[.slice (some ⟨g, 0, none⟩) n c] w fun e w' => e = .returned (.tuple #[]) ∧ OG w' base 3 iv g n c (l.mergeSort fun x y => decide (x ≤ y)) ∧ w.grownBy w' (some g) := by
  have hl := h.len
  obtain ⟨g2, c2, hv, -, hlt, -, -, -, hH⟩ := Lib.holds_of_ownsRow (enc := Value.int .i64) h.row (by simp)
  simp only [Value.slice.injEq, Option.some.injEq, Addr.mk.injEq] at hv
  obtain ⟨⟨rfl, -, -⟩, -, rfl⟩ := hv
  have hs := Tryd.slices_Sort_int g 0 c l w hH hlt (by omega)
  rw [hl] at hs
  refine hs.mono ?_
  rintro e w' ⟨rfl, q, os, rfl⟩
  refine ⟨rfl, ⟨by rw [List.length_mergeSort]; exact hl, ?_⟩, grownBy_sortedI _⟩
  rcases h.row.2 with ⟨e0, -⟩ | ⟨g', cap', cur, hv, hbase, hb, h1, h2, h3, h4⟩
  · cases e0
  · cases hv
    have := ownsRow_sortedI (n := q) (os := os) (ss := l) (ts := l.mergeSort fun x y => decide (x ≤ y)) (List.length_mergeSort l) hbase hb (by omega) h2 h3
    rw [hl] at this
    exact this
theorem compactI_any {g n c base : Nat} {l : List Int} {w : World} (h : OG w base 3 iv g n c l) (hn : n ≤ 1000) :
    Calls Tryd.prog 73 #[.slice (some ⟨g, 0, none⟩) n c] w fun e w' => e = .returned (.slice (some ⟨g, 0, none⟩) (Lib.compact l).length c) ∧ OG w' base 3 iv g (Lib.compact l).length c (Lib.compact l) ∧ w.grownBy w' (some g) := by
  have hl := h.len
  have hle := Lib.compact_length_le l
  obtain ⟨g2, c2, hv, -, hlt, hnc, -, -, hH⟩ := Lib.holds_of_ownsRow (enc := Value.int .i64) h.row (by simp)
  simp only [Value.slice.injEq, Option.some.injEq, Addr.mk.injEq] at hv
  obtain ⟨⟨rfl, -, -⟩, -, rfl⟩ := hv
  have hs := Tryd.slices_Compact_int g 0 c l w hH (by omega) (by omega)
  rw [hl] at hs
  refine hs.mono ?_
  rintro e w' ⟨rfl, q, rfl⟩
  refine ⟨rfl, ⟨rfl, ?_⟩, ?_⟩
  · have := Lib.ownsRow_putRow (q := q) (k := (Lib.compact l).length) (ys := Lib.compact l ++ List.replicate (n - (Lib.compact l).length) 0) h.row (by simp; omega) (by omega)
    rw [List.take_left] at this
    exact this
  · have := grownBy_sortedI (w := w) (g := g) (n := q) (os := #[]) (Lib.compact l ++ List.replicate (n - (Lib.compact l).length) 0).toArray
    rw [grow_empty] at this
    exact this
theorem RI_of_OG {w : World} {base g n c : Nat} {l : List Int} (h : OG w base 3 iv g n c l) (hn : n ≤ 1000) : RI w (some ⟨g, 0, none⟩) l := by
  have hl := h.len
  refine ⟨by omega, fun k hk => ⟨g, 0, rfl, ?_⟩⟩
  rw [Nat.zero_add]
  exact h.cell (by omega)
theorem and_div (v k : Nat) : bits .and .i64 ((v : Int) / 2 ^ k) 1 = b01 v k := by
  rw [← sr_and1]; unfold sr; rw [Nat.shiftRight_eq_div_pow]; simp
end Wt
