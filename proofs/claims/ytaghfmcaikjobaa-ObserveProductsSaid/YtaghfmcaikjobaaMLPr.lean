/- The walk of ObserveProducts. -/
import Derived.Test.YtaghfmcaikjobaaMOfC
import Derived.Test.YtaghfmcaikjobaaMOeE
import Derived.Test.YtaghfmcaikjobaaMCkC
namespace Wt
open Go Go.RowKit Go.Maps Go.Proofs Fm

set_option maxRecDepth 20000 in
set_option maxHeartbeats 4000000 in
theorem observeProducts_any (A B : Mo) (va ra vb rb : Option Addr) (vc rc vd rd : Nat) (w : World) (hA : RM w va ra A) (hB : RM w vb rb B) :
    Calls Try.prog 5 #[.agg #[.int .i64 A.worlds, .slice va A.val.length vc, .slice ra A.rel.length rc], .agg #[.int .i64 B.worlds, .slice vb B.val.length vd, .slice rb B.rel.length rd]] w fun e w' => e = .returned (.bool true) ∧ Ext w w' := by
  have hE0 : Ext w ((w.alloc (.cells #[.int .i64 A.worlds, .slice va A.val.length vc, .slice ra A.rel.length rc] 29)).alloc (.cells #[.int .i64 B.worlds, .slice vb B.val.length vd, .slice rb B.rel.length rd] 29)) := ((Ext.refl w).alloc _).alloc _
  have hb1 := (MoBox.new w A.worlds A.val A.rel va vc ra rc 29).ext ((Ext.refl _).alloc (.cells #[.int .i64 B.worlds, .slice vb B.val.length vd, .slice rb B.rel.length rd] 29))
  have hb2 := MoBox.new (w.alloc (.cells #[.int .i64 A.worlds, .slice va A.val.length vc, .slice ra A.rel.length rc] 29)) B.worlds B.val B.rel vb vd rb rd 29
  rw [show (w.alloc (.cells #[.int .i64 A.worlds, .slice va A.val.length vc, .slice ra A.rel.length rc] 29)).heap.size = w.heap.size + 1 by simp] at hb2
  have HA := Lib.hid (hA.ext hE0)
  have HB := Lib.hid (hB.ext hE0)
  have HE := Lib.hid hE0
  have HBX := Lib.hid hb1
  have HBY := Lib.hid hb2
  have H1 : Hid (∀ w, RM w va ra A → RM w vb rb B → Calls Try.prog 22 #[.agg #[.int .i64 A.worlds, .slice va A.val.length vc, .slice ra A.rel.length rc], .agg #[.int .i64 B.worlds, .slice vb B.val.length vd, .slice rb B.rel.length rd]] w fun e w' => RetPr (prM A B) (prL A B) (prErr A B) e w w') := Lib.hid fun w h h2 => oproduct_any A B va ra vb rb vc rc vd rd w h h2
  have H2 : Hid (∀ w, RM w va ra A → RM w vb rb B → Calls Try.prog 23 #[.agg #[.int .i64 A.worlds, .slice va A.val.length vc, .slice ra A.rel.length rc], .agg #[.int .i64 B.worlds, .slice vb B.val.length vd, .slice rb B.rel.length rd]] w fun e w' => RetPr (prM A B) (prL A B) (prErr A B) e w w') := Lib.hid fun w h h2 => r22product_any A B va ra vb rb vc rc vd rd w h h2
  generalize prM A B = M at *
  generalize prL A B = L at *
  generalize prErr A B = c at *
  have hcc : (c == c) = true := by simp
  clear hA hB hE0 hb1 hb2
  go_enter Try.func5, Try.ntmps5
  obtain ⟨m0, m1, m2⟩ := HBX.out
  dsimp only at m0 m1 m2
  have hl1 := World.block_lt_of_cell? _ _ m0
  dsimp only at hl1
  go_wp2_with fail
  clear m0 m1 m2 hl1
  generalize (w.alloc (.cells #[.int .i64 A.worlds, .slice va A.val.length vc, .slice ra A.rel.length rc] 29)).alloc (.cells #[.int .i64 B.worlds, .slice vb B.val.length vd, .slice rb B.rel.length rd] 29) = W0 at *
  refine (r13Few_any A va ra vc rc 12 _ HA.out).mono ?_
  rintro _ w1 ⟨b1, rfl, hE1⟩
  dsimp only
  cases b1
  · go_wp2_with fail
    refine (awake22_any _).mono ?_
    rintro _ w3 ⟨rfl, hE3⟩
    dsimp only
    go_wp2_with fail
    go_ret
    exact ⟨rfl, HE.out.trans (hE1.trans hE3)⟩
  obtain ⟨n0, n1, n2⟩ := HBY.out.ext hE1
  dsimp only at n0 n1 n2
  have hl2 := World.block_lt_of_cell? _ _ n0
  dsimp only at hl2
  go_wp2_with fail
  clear n0 n1 n2 hl2
  refine (r13Few_any B vb rb vd rd 12 _ (HB.out.ext4 hE1)).mono ?_
  rintro _ w2 ⟨b2, rfl, hE2⟩
  dsimp only
  have hX2 := hE1.trans hE2
  cases b2
  · go_wp2_with fail
    refine (awake22_any _).mono ?_
    rintro _ w3 ⟨rfl, hE3⟩
    dsimp only
    go_wp2_with fail
    go_ret
    exact ⟨rfl, HE.out.trans (hX2.trans hE3)⟩
  obtain ⟨m0, m1, m2⟩ := HBX.out.ext hX2
  obtain ⟨n0, n1, n2⟩ := HBY.out.ext hX2
  dsimp only at m0 m1 m2 n0 n1 n2
  have hl1 := World.block_lt_of_cell? _ _ m0
  have hl2 := World.block_lt_of_cell? _ _ n0
  dsimp only at hl1 hl2
  go_wp2_with fail
  clear m0 m1 m2 n0 n1 n2 hl1 hl2
  refine (H1.out _ (HA.out.ext4 hX2) (HB.out.ext4 hX2)).mono ?_
  rintro _ w3 ⟨va3, ra3, la3, vc3, rc3, lc3, rfl, hm3, hp3, hE3⟩
  dsimp only
  have hA3 : Ext w3 (w3.alloc (.cells #[.int .i64 M.worlds, .slice va3 M.val.length vc3, .slice ra3 M.rel.length rc3] 29)) := (Ext.refl _).alloc _
  have HB3 := Lib.hid (OutAt.new w3 (.int .i64 M.worlds) (.slice va3 M.val.length vc3) (.slice ra3 M.rel.length rc3) 29)
  have hX3 := hX2.trans (hE3.trans hA3)
  obtain ⟨m0, m1, m2⟩ := HBX.out.ext hX3
  obtain ⟨n0, n1, n2⟩ := HBY.out.ext hX3
  dsimp only at m0 m1 m2 n0 n1 n2
  have hl1 := World.block_lt_of_cell? _ _ m0
  have hl2 := World.block_lt_of_cell? _ _ n0
  dsimp only at hl1 hl2
  go_wp2_with fail
  clear m0 m1 m2 n0 n1 n2 hl1 hl2
  generalize w3.alloc (.cells #[.int .i64 M.worlds, .slice va3 M.val.length vc3, .slice ra3 M.rel.length rc3] 29) = w4 at *
  refine (H2.out _ (HA.out.ext4 hX3) (HB.out.ext4 hX3)).mono ?_
  rintro _ w5 ⟨va5, ra5, la5, vc5, rc5, lc5, rfl, hm5, hp5, hE5⟩
  dsimp only
  have hA5 : Ext w5 (w5.alloc (.cells #[.int .i64 M.worlds, .slice va5 M.val.length vc5, .slice ra5 M.rel.length rc5] 29)) := (Ext.refl _).alloc _
  have HB5 := Lib.hid (OutAt.new w5 (.int .i64 M.worlds) (.slice va5 M.val.length vc5) (.slice ra5 M.rel.length rc5) 29)
  have hX5 := hX3.trans (hE5.trans hA5)
  obtain ⟨m0, m1, m2, -⟩ := HB3.out.ext (hE5.trans hA5)
  obtain ⟨n0, n1, n2, -⟩ := HB5.out
  have hl1 := World.block_lt_of_cell? _ _ m0
  have hl2 := World.block_lt_of_cell? _ _ n0
  dsimp only at hl1 hl2
  go_wp2_with fail
  clear m0 m1 m2 n0 n1 n2 hl1 hl2
  generalize w5.alloc (.cells #[.int .i64 M.worlds, .slice va5 M.val.length vc5, .slice ra5 M.rel.length rc5] 29) = w6 at *
  refine (sameM_any M _ _ _ _ _ _ _ _ _ (hm3.ext4 (hA3.trans (hE5.trans hA5))) (hm5.ext4 hA5)).mono ?_
  rintro _ w7 ⟨rfl, hE7⟩
  dsimp only
  go_wp2_with fail
  refine (r22SamePairs_any la3 la5 lc3 lc5 L _ (hp3.ext (hA3.trans ((hE5.trans hA5).trans hE7))) (hp5.ext (hA5.trans hE7))).mono ?_
  rintro _ w8 ⟨rfl, hE8⟩
  dsimp only
  go_wp2_with fail
  refine (awake22_any _).mono ?_
  rintro _ w9 ⟨rfl, hE9⟩
  dsimp only
  go_wp2_with fail
  go_ret
  exact ⟨rfl, HE.out.trans (hX5.trans (hE7.trans (hE8.trans hE9)))⟩
end Wt
