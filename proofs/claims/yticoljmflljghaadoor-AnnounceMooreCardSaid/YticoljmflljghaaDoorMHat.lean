/- Walk: wittinglaw25.hats. -/
import Derived.Test.YticoljmflljghaaDoorMUpd
import Derived.Test.YticoljmflljghaaDoorMCkC
import Derived.Deep.CutRange
namespace Wt
open Go Go.RowKit Go.Maps Go.Proofs Fm

/-- The model of the example of the chapter. -/
def hatM : Mo := ⟨4, [10#64, 12#64], [[3#64, 3#64, 12#64, 12#64], [5#64, 10#64, 5#64, 10#64]]⟩
/-- The rounds of hats: two rows that grow. -/
structure HatI (W0 : World) (n k j : Nat) (u0 u1 : Value) (wr : World) : Prop where
  e : Below (n + 2) W0 wr
  mm : wr.heap[n + 3]? = W0.heap[n + 3]?
  ms : n + 3 < wr.heap.size
  lo : n + 4 ≤ W0.heap.size
  c0 : wr.cell? ⟨n + 2, 0, none⟩ = some u0
  c1 : wr.cell? ⟨n + 2, 1, none⟩ = some u1
  fz : ∀ o, wr.frozen? ⟨n + 2, o, none⟩ = false
  o0 : OU wr (n + 4) u0 ([3#64, 3#64, 12#64, 12#64].take k)
  o1 : OU wr (n + 4) u1 ([5#64, 10#64, 5#64, 10#64].take j)
  ap : ∀ g, u0.ownBlock = some g → u1.ownBlock = some g → False
section
variable {W0 wr W1 : World} {n k j m g cap H : Nat} {u0 u1 : Value} {x : BitVec 64}
theorem HatI.ext' {w' : World} (h : HatI W0 n k j u0 u1 wr) (e : Ext wr w') : HatI W0 n k j u0 u1 w' := by
  have hl := World.block_lt_of_cell? wr _ h.c0
  exact ⟨Below.trans h.e (Below.mono e (by have := hl; dsimp only at this; omega)), (e.block _ h.ms).trans h.mm, Nat.lt_of_lt_of_le h.ms e.size, h.lo, e.cell h.c0, e.cell h.c1, fun o => by rw [World.frozen?_of_block (a := ⟨n + 2, o, none⟩) (w := wr) (e.block _ hl)]; exact h.fz o, h.o0.ext e, h.o1.ext e, h.ap⟩
theorem HatI.push0 (h : HatI W0 n k j u0 u1 wr) (ho : W1.ownsRow (n + 4) 40 1 (.slice (some ⟨g, 0, none⟩) m cap) (([3#64, 3#64, 12#64, 12#64].take k).length + 1) ((([3#64, 3#64, 12#64, 12#64] : List (BitVec 64)).take k).map uv ++ [uv x])) (hg : wr.grownBy W1 u0.ownBlock) (hat : u0.ownBlock = some g ∨ g = H) (hH : wr.heap.size ≤ H)
    (hx : ([3#64, 3#64, 12#64, 12#64] : List (BitVec 64)).take (k + 1) = [3#64, 3#64, 12#64, 12#64].take k ++ [x]) : HatI W0 n (k + 1) j (.slice (some ⟨g, 0, none⟩) m cap) u1 (W1.setCell ⟨n + 2, 0, none⟩ (.slice (some ⟨g, 0, none⟩) m cap)) := by
  have hl := World.block_lt_of_cell? wr _ h.c0
  dsimp only at hl
  have hr : ∀ b, u0.ownBlock = some b → n + 4 ≤ b := fun b hb => (h.o0.lt b hb).1
  have hm3 : W1.heap[n + 3]? = W0.heap[n + 3]? := (hg.block _ h.ms (fun e => by have := hr _ e.symm; omega)).trans h.mm
  have hs1 : wr.heap.size ≤ W1.heap.size := hg.size
  have hms := h.ms
  have hb : W1.heap[n + 2]? = wr.heap[n + 2]? := hg.block _ hl (fun e => by have := hr _ e.symm; omega)
  have k0 : W1.cell? ⟨n + 2, 0, none⟩ = some u0 := by rw [World.cell?_of_block (w := wr) hb]; exact h.c0
  refine ⟨(Below.grown h.e hg (by omega) (fun k hk => by have := hr k hk; omega)).setCell (by simp) _, (heap_setCell_other W1 ⟨n + 2, 0, none⟩ (n + 3) _ (by simp)).trans hm3, by simp; omega, h.lo, World.cell?_setCell_same _ _ _ k0, ?_, fun o => by rw [World.frozen?_setCell, World.frozen?_of_block (a := ⟨n + 2, o, none⟩) (w := wr) hb]; exact h.fz o, ?_, setOther (h.o1.kept hg ?_) (by omega), fun g' h1 h2 => ?_⟩
  · rw [World.cell?_setCell_other _ _ _ _ (by simp), World.cell?_of_block (w := wr) hb]; exact h.c1
  · rw [hx]
    refine setOther ?_ (by omega)
    rw [List.map_append, List.length_append]; exact ho
  · cases hu : u1.ownBlock with
    | none => exact .inl rfl
    | some b => exact .inr fun e => h.ap b e.symm hu
  · simp only [Value.ownBlock, Option.some.injEq] at h1
    subst h1
    rcases hat with h3 | h3
    · exact h.ap _ h3 h2
    · have := (h.o1.lt _ h2).2; omega
theorem HatI.push1 (h : HatI W0 n k j u0 u1 wr) (ho : W1.ownsRow (n + 4) 40 1 (.slice (some ⟨g, 0, none⟩) m cap) (([5#64, 10#64, 5#64, 10#64].take j).length + 1) ((([5#64, 10#64, 5#64, 10#64] : List (BitVec 64)).take j).map uv ++ [uv x])) (hg : wr.grownBy W1 u1.ownBlock) (hat : u1.ownBlock = some g ∨ g = H) (hH : wr.heap.size ≤ H)
    (hx : ([5#64, 10#64, 5#64, 10#64] : List (BitVec 64)).take (j + 1) = [5#64, 10#64, 5#64, 10#64].take j ++ [x]) : HatI W0 n k (j + 1) u0 (.slice (some ⟨g, 0, none⟩) m cap) (W1.setCell ⟨n + 2, 1, none⟩ (.slice (some ⟨g, 0, none⟩) m cap)) := by
  have hl := World.block_lt_of_cell? wr _ h.c0
  dsimp only at hl
  have hr : ∀ b, u1.ownBlock = some b → n + 4 ≤ b := fun b hb => (h.o1.lt b hb).1
  have hm3 : W1.heap[n + 3]? = W0.heap[n + 3]? := (hg.block _ h.ms (fun e => by have := hr _ e.symm; omega)).trans h.mm
  have hs1 : wr.heap.size ≤ W1.heap.size := hg.size
  have hms := h.ms
  have hb : W1.heap[n + 2]? = wr.heap[n + 2]? := hg.block _ hl (fun e => by have := hr _ e.symm; omega)
  have k1 : W1.cell? ⟨n + 2, 1, none⟩ = some u1 := by rw [World.cell?_of_block (w := wr) hb]; exact h.c1
  refine ⟨(Below.grown h.e hg (by omega) (fun k hk => by have := hr k hk; omega)).setCell (by simp) _, (heap_setCell_other W1 ⟨n + 2, 1, none⟩ (n + 3) _ (by simp)).trans hm3, by simp; omega, h.lo, ?_, World.cell?_setCell_same _ _ _ k1, fun o => by rw [World.frozen?_setCell, World.frozen?_of_block (a := ⟨n + 2, o, none⟩) (w := wr) hb]; exact h.fz o, setOther (h.o0.kept hg ?_) (by omega), ?_, fun g' h1 h2 => ?_⟩
  · rw [World.cell?_setCell_other _ _ _ _ (by simp), World.cell?_of_block (w := wr) hb]; exact h.c0
  · cases hu : u0.ownBlock with
    | none => exact .inl rfl
    | some b => exact .inr fun e => h.ap b hu e.symm
  · rw [hx]
    refine setOther ?_ (by omega)
    rw [List.map_append, List.length_append]; exact ho
  · simp only [Value.ownBlock, Option.some.injEq] at h2
    subst h2
    rcases hat with h3 | h3
    · exact h.ap _ h1 h3
    · have := (h.o0.lt _ h1).2; omega
theorem HatI.cells (h : HatI W0 n k j u0 u1 wr) {ob : Option Nat} (hg : wr.grownBy W1 ob) (hne : ∀ b, ob = some b → n + 4 ≤ b) : W1.cell? ⟨n + 2, 0, none⟩ = some u0 ∧ W1.cell? ⟨n + 2, 1, none⟩ = some u1 ∧ (∀ o, W1.frozen? ⟨n + 2, o, none⟩ = false) ∧ n + 2 < W1.heap.size ∧ W1.heap[n + 3]? = W0.heap[n + 3]? ∧ n + 3 < W1.heap.size := by
  have hl := World.block_lt_of_cell? wr _ h.c0
  dsimp only at hl
  have hb : W1.heap[n + 2]? = wr.heap[n + 2]? := hg.block _ hl (fun e => by have := hne _ e.symm; omega)
  exact ⟨by rw [World.cell?_of_block (w := wr) hb]; exact h.c0, by rw [World.cell?_of_block (w := wr) hb]; exact h.c1, fun o => by rw [World.frozen?_of_block (a := ⟨n + 2, o, none⟩) (w := wr) hb]; exact h.fz o, Nat.lt_of_lt_of_le hl hg.size, (hg.block _ h.ms (fun e => by have := hne _ e.symm; omega)).trans h.mm, Nat.lt_of_lt_of_le h.ms hg.size⟩
end
def HatE (W0 : World) (n k j : Nat) (wr : World) : Prop := ∃ u0 u1, HatI W0 n k j u0 u1 wr
theorem two_new (w : World) (x y : Value) (T : Nat) : (w.alloc (.cells #[x, y] T)).cell? ⟨w.heap.size, 0, none⟩ = some x ∧ (w.alloc (.cells #[x, y] T)).cell? ⟨w.heap.size, 1, none⟩ = some y ∧ ∀ o, (w.alloc (.cells #[x, y] T)).frozen? ⟨w.heap.size, o, none⟩ = false :=
  ⟨by simp, by simp, fun o => by first | (simp; done) | (simp [World.frozen?]; done)⟩
theorem made_two (v : Value) : madeCells #[v] 2 = #[v, v] := by
  unfold madeCells
  apply Array.ext
  · simp
  · intro i h1 h2
    have : i = 0 ∨ i = 1 := by simp at h2; omega
    rcases this with rfl | rfl <;> simp
theorem hat_bits {k : Nat} (h : k < 4) : ∃ a b : Nat, bits .xor .i64 (k : Int) 1 = (a : Int) ∧ bits .xor .i64 (k : Int) 2 = (b : Int) ∧
    ([3#64, 3#64, 12#64, 12#64] : List (BitVec 64)).take (k + 1) = [3#64, 3#64, 12#64, 12#64].take k ++ [1#64 <<< k ||| 1#64 <<< a] ∧
    ([5#64, 10#64, 5#64, 10#64] : List (BitVec 64)).take (k + 1) = [5#64, 10#64, 5#64, 10#64].take k ++ [1#64 <<< k ||| 1#64 <<< b] := by
  rcases (show k = 0 ∨ k = 1 ∨ k = 2 ∨ k = 3 by omega) with rfl | rfl | rfl | rfl
  · exact ⟨1, 2, by decide, by decide, by decide, by decide⟩
  · exact ⟨0, 3, by decide, by decide, by decide, by decide⟩
  · exact ⟨3, 0, by decide, by decide, by decide, by decide⟩
  · exact ⟨2, 1, by decide, by decide, by decide, by decide⟩
set_option maxRecDepth 20000 in
set_option maxHeartbeats 4000000 in
theorem hats_any (w : World) : Calls Tryd.prog 32 #[] w fun e w' => RetM hatM e w w' := by
  have mk1 := fun (w : World) => run_make_row' (P := Tryd.prog) 23 22 (.slice none 0 0) 24 Tryd.underlying23 sl_info rfl .i64 .i64 2 (by omega) (by omega) w
  simp only [show ((2 : Nat) : Int) = 2 from rfl] at mk1
  obtain ⟨i0, hi1, hz0, hz1, hz2⟩ := info_parts u64_info
  go_enter Tryd.func32, Tryd.ntmps32
  go_wp2_with fail
  have hA : Ext w ((((w.alloc (.cells #[.int .i64 0, .slice none 0 0, .slice none 0 0] 25)).alloc (.cells #[.int .u64 10, .int .u64 12] 40)).alloc (.cells (madeCells #[.slice none 0 0] 2) 22)).alloc (.cells #[.int .i64 4, .slice (some ⟨w.heap.size + 1, 0, none⟩) 2 2, .slice (some ⟨w.heap.size + 1 + 1, 0, none⟩) 2 2] 25)) := (((((Ext.refl w).alloc _).alloc _).alloc _).alloc _)
  have hsz : ((((w.alloc (.cells #[.int .i64 0, .slice none 0 0, .slice none 0 0] 25)).alloc (.cells #[.int .u64 10, .int .u64 12] 40)).alloc (.cells (madeCells #[.slice none 0 0] 2) 22)).alloc (.cells #[.int .i64 4, .slice (some ⟨w.heap.size + 1, 0, none⟩) 2 2, .slice (some ⟨w.heap.size + 1 + 1, 0, none⟩) 2 2] 25)).heap.size = w.heap.size + 4 := by simp
  have hs2 : ((w.alloc (.cells #[.int .i64 0, .slice none 0 0, .slice none 0 0] 25)).alloc (.cells #[.int .u64 10, .int .u64 12] 40)).heap.size = w.heap.size + 2 := by simp
  have h2n := two_new ((w.alloc (.cells #[.int .i64 0, .slice none 0 0, .slice none 0 0] 25)).alloc (.cells #[.int .u64 10, .int .u64 12] 40)) (.slice none 0 0) (.slice none 0 0) 22
  rw [← made_two, hs2] at h2n
  have h2e : Ext (((w.alloc (.cells #[.int .i64 0, .slice none 0 0, .slice none 0 0] 25)).alloc (.cells #[.int .u64 10, .int .u64 12] 40)).alloc (.cells (madeCells #[.slice none 0 0] 2) 22)) ((((w.alloc (.cells #[.int .i64 0, .slice none 0 0, .slice none 0 0] 25)).alloc (.cells #[.int .u64 10, .int .u64 12] 40)).alloc (.cells (madeCells #[.slice none 0 0] 2) 22)).alloc (.cells #[.int .i64 4, .slice (some ⟨w.heap.size + 1, 0, none⟩) 2 2, .slice (some ⟨w.heap.size + 1 + 1, 0, none⟩) 2 2] 25)) := (Ext.refl _).alloc _
  have hI0 : HatI ((((w.alloc (.cells #[.int .i64 0, .slice none 0 0, .slice none 0 0] 25)).alloc (.cells #[.int .u64 10, .int .u64 12] 40)).alloc (.cells (madeCells #[.slice none 0 0] 2) 22)).alloc (.cells #[.int .i64 4, .slice (some ⟨w.heap.size + 1, 0, none⟩) 2 2, .slice (some ⟨w.heap.size + 1 + 1, 0, none⟩) 2 2] 25)) w.heap.size 0 0 (.slice none 0 0) (.slice none 0 0) ((((w.alloc (.cells #[.int .i64 0, .slice none 0 0, .slice none 0 0] 25)).alloc (.cells #[.int .u64 10, .int .u64 12] 40)).alloc (.cells (madeCells #[.slice none 0 0] 2) 22)).alloc (.cells #[.int .i64 4, .slice (some ⟨w.heap.size + 1, 0, none⟩) 2 2, .slice (some ⟨w.heap.size + 1 + 1, 0, none⟩) 2 2] 25)) := by
    refine ⟨Below.refl _ _, rfl, by rw [hsz]; omega, by rw [hsz]; exact Nat.le_refl _, ?_, ?_, fun o => ?_, World.ownsRow_nil _ _ _ _, World.ownsRow_nil _ _ _ _, fun g hg => by cases hg⟩
    · exact h2e.cell h2n.1
    · exact h2e.cell h2n.2.1
    · exact (h2e.rules.2.1 _ o (by simp)).trans (h2n.2.2 o)
  have hs3 : (((w.alloc (.cells #[.int .i64 0, .slice none 0 0, .slice none 0 0] 25)).alloc (.cells #[.int .u64 10, .int .u64 12] 40)).alloc (.cells (madeCells #[.slice none 0 0] 2) 22)).heap.size = w.heap.size + 3 := by simp
  have hm3 := OutAt.new (((w.alloc (.cells #[.int .i64 0, .slice none 0 0, .slice none 0 0] 25)).alloc (.cells #[.int .u64 10, .int .u64 12] 40)).alloc (.cells (madeCells #[.slice none 0 0] 2) 22)) (.int .i64 4) (.slice (some ⟨w.heap.size + 1, 0, none⟩) 2 2) (.slice (some ⟨w.heap.size + 1 + 1, 0, none⟩) 2 2) 25
  rw [hs3] at hm3
  have hmc : ∀ wr : World, wr.heap[w.heap.size + 3]? = ((((w.alloc (.cells #[.int .i64 0, .slice none 0 0, .slice none 0 0] 25)).alloc (.cells #[.int .u64 10, .int .u64 12] 40)).alloc (.cells (madeCells #[.slice none 0 0] 2) 22)).alloc (.cells #[.int .i64 4, .slice (some ⟨w.heap.size + 1, 0, none⟩) 2 2, .slice (some ⟨w.heap.size + 1 + 1, 0, none⟩) 2 2] 25)).heap[w.heap.size + 3]? → OutAt wr (w.heap.size + 3) (.int .i64 4) (.slice (some ⟨w.heap.size + 1, 0, none⟩) 2 2) (.slice (some ⟨w.heap.size + 2, 0, none⟩) 2 2) := fun wr h => hm3.keep h
  have hs1 : (w.alloc (.cells #[.int .i64 0, .slice none 0 0, .slice none 0 0] 25)).heap.size = w.heap.size + 1 := by simp
  have hv2 := two_new (w.alloc (.cells #[.int .i64 0, .slice none 0 0, .slice none 0 0] 25)) (.int .u64 10) (.int .u64 12) 40
  rw [hs1] at hv2
  have hve : Ext ((w.alloc (.cells #[.int .i64 0, .slice none 0 0, .slice none 0 0] 25)).alloc (.cells #[.int .u64 10, .int .u64 12] 40)) ((((w.alloc (.cells #[.int .i64 0, .slice none 0 0, .slice none 0 0] 25)).alloc (.cells #[.int .u64 10, .int .u64 12] 40)).alloc (.cells (madeCells #[.slice none 0 0] 2) 22)).alloc (.cells #[.int .i64 4, .slice (some ⟨w.heap.size + 1, 0, none⟩) 2 2, .slice (some ⟨w.heap.size + 1 + 1, 0, none⟩) 2 2] 25)) := ((Ext.refl _).alloc _).alloc _
  have hval : ((((w.alloc (.cells #[.int .i64 0, .slice none 0 0, .slice none 0 0] 25)).alloc (.cells #[.int .u64 10, .int .u64 12] 40)).alloc (.cells (madeCells #[.slice none 0 0] 2) 22)).alloc (.cells #[.int .i64 4, .slice (some ⟨w.heap.size + 1, 0, none⟩) 2 2, .slice (some ⟨w.heap.size + 1 + 1, 0, none⟩) 2 2] 25)).cell? ⟨w.heap.size + 1, 0, none⟩ = some (.int .u64 10) ∧ ((((w.alloc (.cells #[.int .i64 0, .slice none 0 0, .slice none 0 0] 25)).alloc (.cells #[.int .u64 10, .int .u64 12] 40)).alloc (.cells (madeCells #[.slice none 0 0] 2) 22)).alloc (.cells #[.int .i64 4, .slice (some ⟨w.heap.size + 1, 0, none⟩) 2 2, .slice (some ⟨w.heap.size + 1 + 1, 0, none⟩) 2 2] 25)).cell? ⟨w.heap.size + 1, 1, none⟩ = some (.int .u64 12) := ⟨hve.cell hv2.1, hve.cell hv2.2.1⟩
  have hres : OutAt ((((w.alloc (.cells #[.int .i64 0, .slice none 0 0, .slice none 0 0] 25)).alloc (.cells #[.int .u64 10, .int .u64 12] 40)).alloc (.cells (madeCells #[.slice none 0 0] 2) 22)).alloc (.cells #[.int .i64 4, .slice (some ⟨w.heap.size + 1, 0, none⟩) 2 2, .slice (some ⟨w.heap.size + 1 + 1, 0, none⟩) 2 2] 25)) w.heap.size (.int .i64 0) (.slice none 0 0) (.slice none 0 0) := (OutAt.new w _ _ _ _).ext ((((Ext.refl _).alloc _).alloc _).alloc _)
  generalize ((((w.alloc (.cells #[.int .i64 0, .slice none 0 0, .slice none 0 0] 25)).alloc (.cells #[.int .u64 10, .int .u64 12] 40)).alloc (.cells (madeCells #[.slice none 0 0] 2) 22)).alloc (.cells #[.int .i64 4, .slice (some ⟨w.heap.size + 1, 0, none⟩) 2 2, .slice (some ⟨w.heap.size + 1 + 1, 0, none⟩) 2 2] 25)) = W0 at *
  have HMC := Lib.hid hmc
  have HA := Lib.hid hA
  have HVAL := Lib.hid hval
  have HRES := Lib.hid hres
  rw [show w.heap.size + 1 + 1 = w.heap.size + 2 from rfl, show w.heap.size + 2 + 1 = w.heap.size + 3 from rfl]
  clear hA hmc hval hres mk1 h2n h2e hs2 hs3 hm3 hs1 hv2 hve
  go_loopw [6] (fun i wr => ∃ k : Nat, k ≤ 4 ∧ i = .int .i64 (k : Int) ∧ HatE W0 w.heap.size k k wr) (fun i _ => 4 - (intOf i).toNat)
  case atStart => exact ⟨0, Nat.zero_le _, rfl, _, _, hI0⟩
  case round =>
    obtain ⟨k, hk, rfl, u0, u1, hI⟩ := hrel
    have HI := Lib.hid hI
    have hms := hI.ms
    have hms2 : w.heap.size + 2 < wr.heap.size := by omega
    obtain ⟨mc0, mc1, mc2, -⟩ := HMC.out wr hI.mm
    obtain ⟨cc0, cc1, cfz⟩ := And.intro hI.c0 (And.intro hI.c1 hI.fz)
    have cf0 := cfz 0
    have cf1 := cfz 1
    clear cfz
    by_cases hlt : k < 4
    · obtain ⟨a, b, ha, hb, hx, hy⟩ := hat_bits hlt
      have HX := Lib.hid hx
      have HY := Lib.hid hy
      have HPA : Hid (∀ w', Ext wr w' → HatI W0 w.heap.size k k u0 u1 w') := Lib.hid fun w' e => HI.out.ext' e
      have H10 : Hid (∀ y ∈ [Value.int .u64 (un (1#64 <<< k ||| 1#64 <<< a))], y.oneCell' = true) := fun y hy => by
        rcases List.mem_singleton.1 hy with rfl
        rfl
      have H11 : Hid (∀ y ∈ [Value.int .u64 (un (1#64 <<< k ||| 1#64 <<< b))], y.oneCell' = true) := fun y hy => by
        rcases List.mem_singleton.1 hy with rfl
        rfl
      clear hI hx hy
      have hkd : decide ((k : Int) < 4) = true := by simp; omega
      go_upto_region 5 with fail
      go_cut [] from 9 to 23 (fun wc => HatE W0 w.heap.size (k + 1) k wc)
      case first =>
        go_region_law (refine step_append_lies _ (by rfl) _ _ 22 (by rfl) (w.heap.size + 4) 40 i0 _ 1 8 Tryd.underlying22 hi1 hz0 hz1 hz2 rfl (by decide) u0 ([3#64, 3#64, 12#64, 12#64].take k).length (([3#64, 3#64, 12#64, 12#64].take k).map uv) (by rfl) (HPA.out _ ((Ext.refl _).drew.alloc _)).o0 ⟨wr.heap.size, 0, none⟩ 1 1 [.int .u64 (un (1#64 <<< k ||| 1#64 <<< a))] (by rfl) (by rfl) (cell_one_new _ _ _) H10.out (by decide) (by unfold maxLen; simp; omega) (by simp; omega) (by simp; omega) (wr.heap.size + 1) (by simp) ?_; intro gx0 cap0 w50 hown0 hgrow0 hat0 hlt0; obtain ⟨b0, b1, bfz, bl, bm, bl3⟩ := (HPA.out _ ((Ext.refl _).drew.alloc _)).cells hgrow0 (fun b hb => (HI.out.o0.lt b hb).1); have bf0 := bfz 0; have bf1 := bfz 1; obtain ⟨d0, d1, d2, -⟩ := HMC.out _ bm; clear bfz)
        all_goals
          have hl0 : (([3#64, 3#64, 12#64, 12#64] : List (BitVec 64)).take k).length = k := by simp; omega
          have hnew := (HPA.out _ ((Ext.refl _).drew.alloc _)).push0 hown0 hgrow0 hat0 (by simp) HX.out
          have HNEW := Lib.hid hnew
          clear hnew hown0 hgrow0 hat0
          go_wp2_with fail
          go_meet
          case rel => exact ⟨_, _, by have h := HNEW.out; rw [hl0] at h; exact h⟩
      case rest =>
        obtain ⟨u0, u1, hI2⟩ := hcut
        clear mc0 mc1 mc2 cc0 cc1 cf0 cf1 hms hms2
        rename World => wq
        have HI2 := Lib.hid hI2
        have hms := hI2.ms
        have hms2 : w.heap.size + 2 < wq.heap.size := by omega
        obtain ⟨mc0, mc1, mc2, -⟩ := HMC.out wq hI2.mm
        obtain ⟨cc0, cc1, cfz⟩ := And.intro hI2.c0 (And.intro hI2.c1 hI2.fz)
        have cf0 := cfz 0
        have cf1 := cfz 1
        clear cfz
        have HPB : Hid (∀ w', Ext wq w' → HatI W0 w.heap.size (k + 1) k u0 u1 w') := Lib.hid fun w' e => HI2.out.ext' e
        clear hI2
        go_wp2_with fail
        go_region_law (refine step_append_lies _ (by rfl) _ _ 22 (by rfl) (w.heap.size + 4) 40 i0 _ 1 8 Tryd.underlying22 hi1 hz0 hz1 hz2 rfl (by decide) u1 ([5#64, 10#64, 5#64, 10#64].take k).length (([5#64, 10#64, 5#64, 10#64].take k).map uv) (by rfl) (HPB.out _ ((Ext.refl _).drew.alloc _)).o1 ⟨wq.heap.size, 0, none⟩ 1 1 [.int .u64 (un (1#64 <<< k ||| 1#64 <<< b))] (by rfl) (by rfl) (cell_one_new _ _ _) H11.out (by decide) (by unfold maxLen; simp; omega) (by simp; omega) (by simp; omega) (wq.heap.size + 1) (by simp) ?_; intro gx1 cap1 w51 hown1 hgrow1 hat1 hlt1; obtain ⟨b0, b1, bfz, bl, bm, bl3⟩ := (HPB.out _ ((Ext.refl _).drew.alloc _)).cells hgrow1 (fun b hb => (HI2.out.o1.lt b hb).1); have bf0 := bfz 0; have bf1 := bfz 1; obtain ⟨d0, d1, d2, -⟩ := HMC.out _ bm; clear bfz)
        all_goals
          have hl0 : (([5#64, 10#64, 5#64, 10#64] : List (BitVec 64)).take k).length = k := by simp; omega
          have hnew := (HPB.out _ ((Ext.refl _).drew.alloc _)).push1 hown1 hgrow1 hat1 (by simp) HY.out
          rw [hl0] at hnew
          have HNEW := Lib.hid hnew
          clear hnew hown1 hgrow1 hat1 hl0
          go_wp2
          go_roundw
          case rel => exact ⟨k + 1, hlt, by go_num, _, _, HNEW.out⟩
          case measure => simp [intOf]; omega
    · obtain rfl : k = 4 := by omega
      have hr0 : OutAt wr w.heap.size (.int .i64 0) (.slice none 0 0) (.slice none 0 0) := HRES.out.keep (hI.e.block _ (by omega))
      have HR0 := Lib.hid hr0
      obtain ⟨r0, r1, r2, rfz⟩ := hr0
      have f0 := rfz 0
      have f1 := rfz 1
      have f2 := rfz 2
      have hrl := HR0.out.lt
      have hEw : Ext w wr := Below.trans HA.out (Below.mono hI.e (by omega))
      have HEW := Lib.hid hEw
      clear hI rfz hEw
      go_wp2_with fail
      have hEx : Ext w (((wr.setCell ⟨w.heap.size, 0, none⟩ (.int .i64 4)).setCell ⟨w.heap.size, 1, none⟩ (.slice (some ⟨w.heap.size + 1, 0, none⟩) 2 2)).setCell ⟨w.heap.size, 2, none⟩ (.slice (some ⟨w.heap.size + 2, 0, none⟩) 2 2)) := HEW.out.set3 (Nat.le_refl _) _ _ _
      obtain ⟨d0, d1, d2, -⟩ := ((HR0.out.set0 (.int .i64 4)).set1 (.slice (some ⟨w.heap.size + 1, 0, none⟩) 2 2)).set2 (.slice (some ⟨w.heap.size + 2, 0, none⟩) 2 2)
      have hag : Agree (w.heap.size + 1) wr (((wr.setCell ⟨w.heap.size, 0, none⟩ (.int .i64 4)).setCell ⟨w.heap.size, 1, none⟩ (.slice (some ⟨w.heap.size + 1, 0, none⟩) 2 2)).setCell ⟨w.heap.size, 2, none⟩ (.slice (some ⟨w.heap.size + 2, 0, none⟩) 2 2)) := Agree.set3 (B := w.heap.size + 1) wr (b := w.heap.size) (by omega) (.int .i64 4) (.slice (some ⟨w.heap.size + 1, 0, none⟩) 2 2) (.slice (some ⟨w.heap.size + 2, 0, none⟩) 2 2)
      generalize (((wr.setCell ⟨w.heap.size, 0, none⟩ (.int .i64 4)).setCell ⟨w.heap.size, 1, none⟩ (.slice (some ⟨w.heap.size + 1, 0, none⟩) 2 2)).setCell ⟨w.heap.size, 2, none⟩ (.slice (some ⟨w.heap.size + 2, 0, none⟩) 2 2)) = W2 at *
      refine bodyPost_ret (v := .agg #[.int .i64 4, .slice (some ⟨w.heap.size + 1, 0, none⟩) 2 2, .slice (some ⟨w.heap.size + 2, 0, none⟩) 2 2]) ?_ rfl ?_
      · rw [results_cell_oneA rfl]
        go_simp
      · have hb1 : W2.heap[w.heap.size + 1]? = W0.heap[w.heap.size + 1]? := (hag _ (Nat.le_refl _) (by omega)).trans (HI.out.e.block _ (by omega))
        have hb2 : W2.heap[w.heap.size + 2]? = wr.heap[w.heap.size + 2]? := hag _ (by omega) (by omega)
        have v0 : W2.cell? ⟨w.heap.size + 1, 0, none⟩ = some (.int .u64 10) := by rw [World.cell?_of_block (w := W0) hb1]; exact HVAL.out.1
        have v1 : W2.cell? ⟨w.heap.size + 1, 1, none⟩ = some (.int .u64 12) := by rw [World.cell?_of_block (w := W0) hb1]; exact HVAL.out.2
        have k0 : W2.cell? ⟨w.heap.size + 2, 0, none⟩ = some u0 := by rw [World.cell?_of_block (w := wr) hb2]; exact HI.out.c0
        have k1 : W2.cell? ⟨w.heap.size + 2, 1, none⟩ = some u1 := by rw [World.cell?_of_block (w := wr) hb2]; exact HI.out.c1
        have o0 : OU W2 (w.heap.size + 4) u0 [3#64, 3#64, 12#64, 12#64] := own_agree HI.out.o0 (hag.mono (by omega))
        have o1 : OU W2 (w.heap.size + 4) u1 [5#64, 10#64, 5#64, 10#64] := own_agree HI.out.o1 (hag.mono (by omega))
        obtain ⟨a0, c0, rfl, ru0⟩ := RU_of_OU o0 (by decide)
        obtain ⟨a1, c1, rfl, ru1⟩ := RU_of_OU o1 (by decide)
        refine ⟨_, _, _, _, rfl, ⟨⟨by decide, fun k hk => ?_⟩, ⟨by decide, fun k hk => ?_⟩⟩, hEx⟩
        · have hk : k < 2 := hk
          rcases (show k = 0 ∨ k = 1 by omega) with rfl | rfl
          · exact ⟨_, _, rfl, v0⟩
          · exact ⟨_, _, rfl, v1⟩
        · have hk : k < 2 := hk
          rcases (show k = 0 ∨ k = 1 by omega) with rfl | rfl
          · exact ⟨_, _, a0, c0, rfl, k0, ru0⟩
          · exact ⟨_, _, a1, c1, rfl, k1, ru1⟩
end Wt
