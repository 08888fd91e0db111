/- wittingref05.node: all patterns (printed by gen_rfb.py). -/
import Derived.Test.YtflnfcmbalhpnaaDoorM4At
import Derived.Test.YtflnfcmbalhpnaaDoorM4Au
import Derived.Test.YtflnfcmbalhpnaaDoorM4Av
import Derived.Test.YtflnfcmbalhpnaaDoorM4Ar
import Derived.Deep.AppendLies
import Derived.Test.YtflnfcmbalhpnaaDoorM4Aq
import Derived.Test.YtflnfcmbalhpnaaDoorM4Ab
import Derived.Deep.RegionHeld3
namespace Wt
open Go Go.RowKit Go.Maps Go.Proofs Fm

end Wt

/- Walks: wittingref05.Check. -/
namespace Wt
open Go Go.RowKit Go.Maps Go.Proofs Fm

end Wt

/- Walks: wittingref05.Sub, Compact. -/
namespace Wt
open Go Go.RowKit Go.Maps Go.Proofs Fm

theorem int_infoG : (Tryd.prog.info? 3).map (fun i => (i.zero, i.size, i.bytes)) = some (some (.int .i64 0), 1, 8) := by kernel_rfl
/-- Ahead of the walk over the nodes: k of them are marked as not done. -/
structure PS (wb : Nat) (w1 : World) (k : Nat) (wr : World) (vd : Value) : Prop where
  e : Ext w1 wr
  hi : wb < wr.heap.size
  c0 : wr.cell? ⟨wb, 0, none⟩ = some (.slice none 0 0)
  c1 : wr.cell? ⟨wb, 1, none⟩ = some vd
  fz : ∀ o, wr.frozen? ⟨wb, o, none⟩ = false
  own : wr.ownsRow (wb + 1) 3 1 vd k (List.replicate k (.int .i64 (-1)))
def PSE (wb : Nat) (w1 : World) (k : Nat) (wr : World) : Prop := ∃ vd, PS wb w1 k wr vd
theorem PS.start (w1 : World) (T : Nat) : PS w1.heap.size w1 0 (w1.alloc (.cells #[.slice none 0 0, .slice none 0 0] T)) (.slice none 0 0) :=
  ⟨(Ext.refl w1).alloc _, by simp, by simp, by simp, fun o => by simp, World.ownsRow_nil _ _ _ _⟩
theorem PS.ext' {wb : Nat} {w1 : World} {k : Nat} {wr w' : World} {vd : Value} (h : PS wb w1 k wr vd) (e : Ext wr w') : PS wb w1 k w' vd := by
  refine ⟨h.e.trans e, by have := e.size; have := h.hi; omega, e.cell h.c0, e.cell h.c1, fun o => ?_, ?_⟩
  · rw [World.frozen?_of_block (w := wr) (e.block _ h.hi)]; exact h.fz o
  · exact h.own.kept (row := none) ⟨e.os, e.tape, e.output, e.size, fun k hk _ => e.block k hk⟩ (by cases vd.ownBlock <;> simp)
theorem PS.push {wb : Nat} {w1 : World} {k : Nat} {wr W1 : World} {vd v' : Value} (h : PS wb w1 k wr vd) (hwb : w1.heap.size ≤ wb) (ho : W1.ownsRow (wb + 1) 3 1 v' (k + 1) (List.replicate k (.int .i64 (-1)) ++ [.int .i64 (-1)]))
    (g1 : wr.grownBy W1 vd.ownBlock) : PS wb w1 (k + 1) (W1.setCell ⟨wb, 1, none⟩ v') v' := by
  have hz := h.hi
  have hvb := h.own.lt
  have hwv : some wb ≠ vd.ownBlock := fun e => by have := (hvb wb e.symm).1; omega
  have hlt := ho.lt
  have hwv' : v'.ownBlock ≠ some wb := fun e => by have := (hlt wb e).1; omega
  refine ⟨(ext_of_grown h.e g1 (fun k hk => by have := (hvb k hk).1; omega)).setCell (by simpa using hwb) _, by have := g1.size; simp [World.setCell]; omega, ?_, World.cell?_setCell_same _ _ _ (g1.cell h.c1 (by simpa using hwv)), fun o => ?_, ?_⟩
  · rw [World.cell?_setCell_other _ _ _ _ (by simp)]; exact g1.cell h.c0 (by simpa using hwv)
  · rw [World.frozen?_setCell, World.frozen?_of_block (g1.block wb hz hwv)]; exact h.fz o
  · rw [List.replicate_succ']
    exact ho.kept (row := some wb) ⟨rfl, rfl, rfl, by simp, fun j _ hj => heap_setCell_other W1 ⟨wb, 1, none⟩ j v' (fun e => hj (by simp [e]))⟩ (.inr hwv')
/-- All are marked: the walk may begin. -/
theorem PS.ready {wb : Nat} {w w1 : World} {wr : World} {vd : Value} {l : List Nd} (h : PS wb w1 l.length wr vd) (hw : Ext w w1) (hwb : w1.heap.size ≤ wb) (hl : 0 < l.length) : ∃ g c, vd = .slice (some ⟨g, 0, none⟩) l.length c ∧ RS w wb g c l wr [] (.slice none 0 0) (List.replicate l.length (-1)) := by
  rcases h.own.2 with ⟨_, h0⟩ | ⟨g, cap, cur, rfl, hb, hg, rest⟩
  · omega
  · refine ⟨g, cap, rfl, ⟨by have := hw.size; omega, h.hi, hw.trans h.e, h.c0, h.c1, h.fz, World.ownsRow_nil _ _ _ _, ⟨by simp, ?_⟩, by simp [Value.ownBlock], fun i hi => .inl ?_, List.nodup_nil, Cl.nil, (fun _ h => by simp at h), (fun _ h => by simp at h)⟩⟩
    · rw [List.map_replicate]; exact h.own
    · rw [nth_eq _ _ (by simpa using hi)]; simp
end Wt

/- Walks: wittingref13.group, Group, Meet. -/
namespace Wt
open Go Go.RowKit Go.Maps Go.Proofs Fm

/-- What a round keeps. -/
structure GS (w0 : World) (f : Nat → BitVec 64) (k : Nat) (v : Value) (wr : World) : Prop where
  e : Ext w0 wr
  own : wr.ownsRow w0.heap.size 58 1 v k (((List.range k).map f).map uv)
def GSE (w0 : World) (f : Nat → BitVec 64) (k : Nat) (v : Value) (wr : World) : Prop := GS w0 f k v wr
theorem GS.ext' {w0 : World} {f : Nat → BitVec 64} {k : Nat} {v : Value} {wr w' : World} (h : GS w0 f k v wr) (e : Ext wr w') : GS w0 f k v w' :=
  ⟨h.e.trans e, h.own.kept (row := none) ⟨e.os, e.tape, e.output, e.size, fun k hk _ => e.block k hk⟩ (by cases v.ownBlock <;> simp)⟩
theorem GS.push {w0 : World} {f : Nat → BitVec 64} {k : Nat} {v v' : Value} {wr W1 : World} (h : GS w0 f k v wr) (ho : W1.ownsRow w0.heap.size 58 1 v' (k + 1) (((List.range k).map f).map uv ++ [uv (f k)])) (g : wr.grownBy W1 v.ownBlock) : GS w0 f (k + 1) v' W1 := by
  refine ⟨ext_of_grown h.e g (fun b hb => (h.own.lt b hb).1), ?_⟩
  rw [List.range_succ, List.map_append, List.map_append]
  exact ho
theorem GS.done {w0 : World} {f : Nat → BitVec 64} {k : Nat} {v : Value} {wr : World} (h : GS w0 f k v wr) (hk : k ≤ 1000) : ∃ a c, v = .slice a k c ∧ RU wr a ((List.range k).map f) := by
  have ho : OU wr w0.heap.size v ((List.range k).map f) := by
    have := h.own
    unfold OU
    simpa using this
  obtain ⟨a, c, hv, hu⟩ := RU_of_OU ho (by simp; omega)
  exact ⟨a, c, by simpa using hv, hu⟩
end Wt

/- Walks: wittingref17.One (printed by gen_r17c.py). -/
namespace Wt
open Go Go.RowKit Go.Maps Go.Proofs Fm

def Ret1 (v : BitVec 64) (e : Ending) (w w' : World) : Prop := e = .returned (.int .u64 (un v)) ∧ Ext w w'
end Wt
