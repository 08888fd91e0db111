/- The walk of ObserveReveals (printed by gen_rv.py). -/
import Derived.Test.YtaghfmcaikjobaaGreatMOfC
import Derived.Test.YtaghfmcaikjobaaGreatMOeF
import Derived.Test.YtaghfmcaikjobaaGreatMCkC
namespace Wt
open Go Go.RowKit Go.Maps Go.Proofs Fm

set_option maxRecDepth 20000 in
set_option maxHeartbeats 8000000 in
theorem observeReveals_any (M : Mo) (va ra : Option Addr) (vc rc : Nat) (fa : Option Addr) (fc : Nat) (f : List Nd) (q0 q1 q2 : Int) (w : World) (hm : RM w va ra M) (hf : RN w fa f) :
    Calls Tryz.prog 3 #[.agg #[.int .i64 M.worlds, .slice va M.val.length vc, .slice ra M.rel.length rc], .slice fa f.length fc, .agg #[.int .i64 q0, .int .i64 q1, .int .i64 q2]] w fun e w' => e = .returned (.bool true) ∧ Ext w w' := by
  have hE0 : Ext w ((w.alloc (.cells #[.int .i64 M.worlds, .slice va M.val.length vc, .slice ra M.rel.length rc] 25)).alloc (.cells #[.int .i64 q0, .int .i64 q1, .int .i64 q2] 27)) := ((Ext.refl w).alloc _).alloc _
  have HBX := Lib.hid ((MoBox.new w M.worlds M.val M.rel va vc ra rc 25).ext ((Ext.refl _).alloc (.cells #[.int .i64 q0, .int .i64 q1, .int .i64 q2] 27)))
  have hbq := OutAt.new (w.alloc (.cells #[.int .i64 M.worlds, .slice va M.val.length vc, .slice ra M.rel.length rc] 25)) (.int .i64 q0) (.int .i64 q1) (.int .i64 q2) 27
  rw [show (w.alloc (.cells #[.int .i64 M.worlds, .slice va M.val.length vc, .slice ra M.rel.length rc] 25)).heap.size = w.heap.size + 1 by simp] at hbq
  have HBQ := Lib.hid hbq
  have HF := Lib.hid (hf.ext hE0)
  have HM := Lib.hid (hm.ext hE0)
  have HE := Lib.hid hE0
  have hfl := hf.len
  have H1 : Hid (∀ w, RM w va ra M → RN w fa f → Calls Tryz.prog 6 #[.agg #[.int .i64 M.worlds, .slice va M.val.length vc, .slice ra M.rel.length rc], .int .i64 q0, .slice fa f.length fc] w fun e w' => RetW (revM M q0 f) (revErr M q0 f) e w w') := Lib.hid fun w h h2 => oreveal_any M va ra vc rc q0 fa fc f w h h2
  have H2 : Hid (∀ w, RM w va ra M → RN w fa f → Calls Tryz.prog 7 #[.agg #[.int .i64 M.worlds, .slice va M.val.length vc, .slice ra M.rel.length rc], .int .i64 q0, .slice fa f.length fc] w fun e w' => RetW (revM M q0 f) (revErr M q0 f) e w w') := Lib.hid fun w h h2 => r22reveal_any M va ra vc rc q0 fa fc f w h h2
  have H3 : Hid (∀ w, RM w va ra M → Calls Tryz.prog 8 #[.agg #[.int .i64 M.worlds, .slice va M.val.length vc, .slice ra M.rel.length rc], .int .i64 q1, .int .i64 q2] w fun e w' => RetP (.bool (infOf M q1 q2)) (infErr M q1 q2) e w w') := Lib.hid fun w h => informed_any M va ra vc rc q1 q2 w h
  have H4 : Hid (∀ w, RM w va ra M → Calls Tryz.prog 9 #[.agg #[.int .i64 M.worlds, .slice va M.val.length vc, .slice ra M.rel.length rc], .int .i64 q1, .int .i64 q2] w fun e w' => RetP (.bool (infOf M q1 q2)) (infErr M q1 q2) e w w') := Lib.hid fun w h => r22informed_any M va ra vc rc q1 q2 w h
  generalize revM M q0 f = R at *
  generalize revErr M q0 f = c at *
  generalize infOf M q1 q2 = b at *
  generalize infErr M q1 q2 = d at *
  have hcc : (c == c) = true := by simp
  have hbb : (b == b) = true := by simp
  have hdd : (d == d) = true := by simp
  clear hm hf hE0 hbq
  go_enter Tryz.func3, Tryz.ntmps3
  obtain ⟨m0, m1, m2⟩ := HBX.out.ext (Ext.refl _)
  obtain ⟨n0, n1, n2, -⟩ := HBQ.out.ext (Ext.refl _)
  dsimp only at m0 m1 m2
  have hlm := World.block_lt_of_cell? _ _ m0
  have hln := World.block_lt_of_cell? _ _ n0
  dsimp only at hlm hln
  go_wp2_with fail
  clear m0 m1 m2 n0 n1 n2 hlm hln
  generalize (w.alloc (.cells #[.int .i64 M.worlds, .slice va M.val.length vc, .slice ra M.rel.length rc] 25)).alloc (.cells #[.int .i64 q0, .int .i64 q1, .int .i64 q2] 27) = W0 at *
  refine (r13Few_any M va ra vc rc 12 _ HM.out).mono ?_
  rintro _ w1 ⟨b1, rfl, hE1⟩
  dsimp only
  cases b1
  · go_wp2_with fail
    refine (awake22_any _).mono ?_
    rintro _ wA ⟨rfl, hEA⟩
    dsimp only
    go_wp2_with fail
    go_ret
    exact ⟨rfl, HE.out.trans (hE1.trans hEA)⟩
  by_cases h30 : f.length ≤ 30
  rotate_left
  · have hd : decide ((30 : Int) < f.length) = true := decide_eq_true (by omega)
    clear h30
    go_wp2_with fail
    refine (awake22_any _).mono ?_
    rintro _ wA ⟨rfl, hEA⟩
    dsimp only
    go_wp2_with fail
    go_ret
    exact ⟨rfl, HE.out.trans (hE1.trans hEA)⟩
  have hd : decide ((30 : Int) < f.length) = false := decide_eq_false (by omega)
  clear h30
  obtain ⟨m0, m1, m2⟩ := HBX.out.ext hE1
  obtain ⟨n0, n1, n2, -⟩ := HBQ.out.ext hE1
  dsimp only at m0 m1 m2
  have hlm := World.block_lt_of_cell? _ _ m0
  have hln := World.block_lt_of_cell? _ _ n0
  dsimp only at hlm hln
  go_wp2_with fail
  clear m0 m1 m2 n0 n1 n2 hlm hln
  clear hd
  refine (H1.out _ (HM.out.ext4 hE1) (HF.out.ext hE1)).mono ?_
  rintro _ w3 ⟨va3, ra3, vc3, rc3, rfl, hm3, hE3⟩
  dsimp only
  have hA3 : Ext w3 (w3.alloc (.cells #[.int .i64 R.worlds, .slice va3 R.val.length vc3, .slice ra3 R.rel.length rc3] 25)) := (Ext.refl _).alloc _
  have HB3 := Lib.hid (OutAt.new w3 (.int .i64 R.worlds) (.slice va3 R.val.length vc3) (.slice ra3 R.rel.length rc3) 25)
  have HM3 := Lib.hid ((hm3 w3 (fun _ _ _ => rfl)).ext4 hA3)
  have hX3 := (hE1.trans hE3).trans hA3
  clear hm3
  obtain ⟨m0, m1, m2⟩ := HBX.out.ext hX3
  obtain ⟨n0, n1, n2, -⟩ := HBQ.out.ext hX3
  dsimp only at m0 m1 m2
  have hlm := World.block_lt_of_cell? _ _ m0
  have hln := World.block_lt_of_cell? _ _ n0
  dsimp only at hlm hln
  go_wp2_with fail
  clear m0 m1 m2 n0 n1 n2 hlm hln
  generalize w3.alloc (.cells #[.int .i64 R.worlds, .slice va3 R.val.length vc3, .slice ra3 R.rel.length rc3] 25) = w4 at *
  refine (H2.out _ (HM.out.ext4 hX3) (HF.out.ext hX3)).mono ?_
  rintro _ w5 ⟨va5, ra5, vc5, rc5, rfl, hm5, hE5⟩
  dsimp only
  have hA5 : Ext w5 (w5.alloc (.cells #[.int .i64 R.worlds, .slice va5 R.val.length vc5, .slice ra5 R.rel.length rc5] 25)) := (Ext.refl _).alloc _
  have HB5 := Lib.hid (OutAt.new w5 (.int .i64 R.worlds) (.slice va5 R.val.length vc5) (.slice ra5 R.rel.length rc5) 25)
  have HM5 := Lib.hid ((hm5 w5 (fun _ _ _ => rfl)).ext4 hA5)
  have hX5 := (hX3.trans hE5).trans hA5
  clear hm5
  obtain ⟨m0, m1, m2⟩ := HBX.out.ext hX5
  obtain ⟨n0, n1, n2, -⟩ := HBQ.out.ext hX5
  dsimp only at m0 m1 m2
  have hlm := World.block_lt_of_cell? _ _ m0
  have hln := World.block_lt_of_cell? _ _ n0
  dsimp only at hlm hln
  go_wp2_with fail
  clear m0 m1 m2 n0 n1 n2 hlm hln
  generalize w5.alloc (.cells #[.int .i64 R.worlds, .slice va5 R.val.length vc5, .slice ra5 R.rel.length rc5] 25) = w6 at *
  refine (H3.out _ (HM.out.ext4 hX5)).mono ?_
  rintro _ w7 ⟨rfl, hE7⟩
  dsimp only
  have hX7 := hX5.trans hE7
  obtain ⟨m0, m1, m2⟩ := HBX.out.ext hX7
  obtain ⟨n0, n1, n2, -⟩ := HBQ.out.ext hX7
  dsimp only at m0 m1 m2
  have hlm := World.block_lt_of_cell? _ _ m0
  have hln := World.block_lt_of_cell? _ _ n0
  dsimp only at hlm hln
  go_wp2_with fail
  clear m0 m1 m2 n0 n1 n2 hlm hln
  refine (H4.out _ (HM.out.ext4 hX7)).mono ?_
  rintro _ w8 ⟨rfl, hE8⟩
  dsimp only
  have h78 := hE7.trans hE8
  obtain ⟨m0, m1, m2, -⟩ := HB3.out.ext ((hE5.trans hA5).trans h78)
  obtain ⟨n0, n1, n2, -⟩ := HB5.out.ext h78
  have hlm := World.block_lt_of_cell? _ _ m0
  have hln := World.block_lt_of_cell? _ _ n0
  dsimp only at hlm hln
  go_wp2_with fail
  clear m0 m1 m2 n0 n1 n2 hlm hln
  refine (sameM_any R _ _ _ _ _ _ _ _ _ (HM3.out.ext4 ((hE5.trans hA5).trans h78)) (HM5.out.ext4 h78)).mono ?_
  rintro _ w9 ⟨rfl, hE9⟩
  dsimp only
  go_wp2_with fail
  refine (awake22_any _).mono ?_
  rintro _ wA ⟨rfl, hEA⟩
  dsimp only
  go_wp2_with fail
  go_ret
  exact ⟨rfl, HE.out.trans ((hX7.trans hE8).trans (hE9.trans hEA))⟩
end Wt
