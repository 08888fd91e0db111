/- The walk of AnnounceUpdates. -/
import Derived.Test.YticoljmflljghaaGreatDoorMAwk
import Derived.Test.YticoljmflljghaaGreatDoorMWhR
import Derived.Test.YticoljmflljghaaGreatDoorMRepR
import Derived.Test.YticoljmflljghaaGreatDoorRows
import Derived.Test.YticoljmflljghaaGreatDoorCards
import Derived.Test.YticoljmflljghaaGreatDoorTie
import Derived.Test.YticoljmflljghaaGreatDoorMCkC
import Derived.Test.YticoljmflljghaaGreatDoorMTz
import Derived.ProofKit
import Derived.LaidMore
import Derived.SizedLaws
import Derived.SevenTiedAt
namespace Wt
open Go Go.RowKit Go.Maps Go.Proofs Fm

set_option maxRecDepth 20000 in
set_option maxHeartbeats 8000000 in
theorem announceUpdates_any (M : Mo) (va ra : Option Addr) (vc rc : Nat) (fa : Option Addr) (fc : Nat) (f : List Nd) (w : World) (hm : RM w va ra M) (hf : RN w fa f) (hT : Tab w) :
    Calls Tryz.prog 3 #[.agg #[.int .i64 M.worlds, .slice va M.val.length vc, .slice ra M.rel.length rc], .slice fa f.length fc] w fun e w' => e = .returned (.bool true) ∧ Ext w w' := by
  have hE0 := (Ext.refl w).alloc (.cells #[.int .i64 M.worlds, .slice va M.val.length vc, .slice ra M.rel.length rc] 25)
  have HBX := Lib.hid (MoBox.new w M.worlds M.val M.rel va vc ra rc 25)
  have HF := Lib.hid (hf.ext hE0)
  have HT := Lib.hid (hT.ext hE0)
  have HM := Lib.hid (hm.ext hE0)
  have HE := Lib.hid hE0
  clear hm hf hT hE0
  go_enter Tryz.func3, Tryz.ntmps3
  go_wp2_with fail
  generalize w.alloc (.cells #[.int .i64 M.worlds, .slice va M.val.length vc, .slice ra M.rel.length rc] 25) = W0 at *
  refine (awake25_any _ HT.out).mono ?_
  rintro _ w1 ⟨rfl, hX1⟩
  dsimp only
  obtain ⟨m0, m1, m2⟩ := HBX.out.ext hX1
  dsimp only at m0 m1 m2
  go_wp2_with fail
  refine (few25_any M va ra vc rc _ 1 [f] _ (HM.out.ext (hX1.alloc _)) (RNN.one _ fa fc f 26 (HF.out.ext hX1))).mono ?_
  rintro _ w2 ⟨b, rfl, hE2, hsm⟩
  dsimp only
  have hX2 := (hX1.alloc (.cells #[.slice fa f.length fc] 26)).trans hE2
  cases b
  · go_wp2_with fail
    refine (awake25_any _ (HT.out.ext hX2)).mono ?_
    rintro _ w3 ⟨rfl, hE3⟩
    dsimp only
    go_wp2_with fail
    go_ret
    exact ⟨rfl, HE.out.trans (hX2.trans hE3)⟩
  clear hsm m0 m1 m2
  obtain ⟨m0, m1, m2⟩ := HBX.out.ext hX2
  dsimp only at m0 m1 m2
  go_wp2_with fail
  refine ((update_any M va ra vc rc fa fc f _ (HM.out.ext hX2) (HF.out.ext hX2) (HT.out.ext hX2)).mono fun _ _ h => h.r).mono ?_
  rintro _ w3 ⟨va3, ra3, la3, vc3, rc3, lc3, rfl, hm3, hE3⟩
  rw [natI_len]
  dsimp only
  have hr3 := hm3 w3 (fun _ _ _ => rfl)
  have hX3 := hX2.trans hE3
  have hA3 : Ext w3 (w3.alloc (.cells #[.int .i64 (upM M f).worlds, .slice va3 (upM M f).val.length vc3, .slice ra3 (upM M f).rel.length rc3] 25)) := (Ext.refl _).alloc _
  have hbx3 := MoBox.new w3 (upM M f).worlds (upM M f).val (upM M f).rel va3 vc3 ra3 rc3 25
  clear m0 m1 m2
  obtain ⟨m0, m1, m2⟩ := HBX.out.ext hX3
  dsimp only at m0 m1 m2
  have hbm := World.block_lt_of_cell? w3 _ m0
  go_wp2_with fail
  generalize w3.alloc (.cells #[.int .i64 (upM M f).worlds, .slice va3 (upM M f).val.length vc3, .slice ra3 (upM M f).rel.length rc3] 25) = w4 at *
  have hX4 := hX3.trans hA3
  refine ((r25Update_any M va ra vc rc fa fc f _ (HM.out.ext hX4) (HF.out.ext hX4)).mono fun _ _ h => h.r).mono ?_
  rintro _ w5 ⟨va5, ra5, la5, vc5, rc5, lc5, rfl, hm5, hE5⟩
  rw [natI_len]
  dsimp only
  have hr5 := hm5 w5 (fun _ _ _ => rfl)
  have hX5 := hX4.trans hE5
  have hA5 : Ext w5 (w5.alloc (.cells #[.int .i64 (upM M f).worlds, .slice va5 (upM M f).val.length vc5, .slice ra5 (upM M f).rel.length rc5] 25)) := (Ext.refl _).alloc _
  have hbx5 := MoBox.new w5 (upM M f).worlds (upM M f).val (upM M f).rel va5 vc5 ra5 rc5 25
  clear m0 m1 m2 hbm
  obtain ⟨m0, m1, m2⟩ := HBX.out.ext hX5
  dsimp only at m0 m1 m2
  have hbm := World.block_lt_of_cell? w5 _ m0
  go_wp2_with fail
  generalize w5.alloc (.cells #[.int .i64 (upM M f).worlds, .slice va5 (upM M f).val.length vc5, .slice ra5 (upM M f).rel.length rc5] 25) = w6 at *
  have hX6 := hX5.trans hA5
  refine (whether_any M va ra vc rc fa fc f _ (HM.out.ext hX6) (HF.out.ext hX6) (HT.out.ext hX6)).mono ?_
  rintro _ w7 ⟨va7, ra7, vc7, rc7, rfl, hm7, hE7⟩
  dsimp only
  have hr7 := hm7 w7 (fun _ _ _ => rfl)
  have hX7 := hX6.trans hE7
  have hA7 : Ext w7 (w7.alloc (.cells #[.int .i64 (whM M f).worlds, .slice va7 (whM M f).val.length vc7, .slice ra7 (whM M f).rel.length rc7] 25)) := (Ext.refl _).alloc _
  have hbx7 := MoBox.new w7 (whM M f).worlds (whM M f).val (whM M f).rel va7 vc7 ra7 rc7 25
  clear m0 m1 m2 hbm
  obtain ⟨m0, m1, m2⟩ := HBX.out.ext hX7
  dsimp only at m0 m1 m2
  have hbm := World.block_lt_of_cell? w7 _ m0
  go_wp2_with fail
  generalize w7.alloc (.cells #[.int .i64 (whM M f).worlds, .slice va7 (whM M f).val.length vc7, .slice ra7 (whM M f).rel.length rc7] 25) = w8 at *
  have hX8 := hX7.trans hA7
  refine (r25Whether_any M va ra vc rc fa fc f _ (HM.out.ext hX8) (HF.out.ext hX8)).mono ?_
  rintro _ w9 ⟨va9, ra9, vc9, rc9, rfl, hm9, hE9⟩
  dsimp only
  have hr9 := hm9 w9 (fun _ _ _ => rfl)
  have hX9 := hX8.trans hE9
  have hA9 : Ext w9 (w9.alloc (.cells #[.int .i64 (whM M f).worlds, .slice va9 (whM M f).val.length vc9, .slice ra9 (whM M f).rel.length rc9] 25)) := (Ext.refl _).alloc _
  have hbx9 := MoBox.new w9 (whM M f).worlds (whM M f).val (whM M f).rel va9 vc9 ra9 rc9 25
  have hn1 : (upErr M f == upErr M f) = true := by simp
  have hn2 : (reqErr M f == reqErr M f) = true := by simp
  obtain ⟨a0, a1, a2⟩ := hbx3.ext (hE5.trans (hA5.trans (hE7.trans (hA7.trans hE9))))
  obtain ⟨b0, b1, b2⟩ := hbx5.ext (hE7.trans (hA7.trans hE9))
  obtain ⟨c0, c1, c2⟩ := hbx7.ext hE9
  dsimp only at a0 a1 a2 b0 b1 b2 c0 c1 c2
  have hba := World.block_lt_of_cell? w9 _ a0
  have hbb := World.block_lt_of_cell? w9 _ b0
  have hbc := World.block_lt_of_cell? w9 _ c0
  clear m0 m1 m2 hbm
  go_wp2_with fail
  generalize w9.alloc (.cells #[.int .i64 (whM M f).worlds, .slice va9 (whM M f).val.length vc9, .slice ra9 (whM M f).rel.length rc9] 25) = w10 at *
  have hX10 := hX9.trans hA9
  refine (sameM_any (upM M f) va3 ra3 va5 ra5 vc3 rc3 vc5 rc5 _ (hr3.1.ext2 (hA3.trans (hE5.trans (hA5.trans (hE7.trans (hA7.trans (hE9.trans hA9))))))) (hr5.1.ext2 (hA5.trans (hE7.trans (hA7.trans (hE9.trans hA9)))))).mono ?_
  rintro _ w11 ⟨rfl, hE11⟩
  dsimp only
  have hX11 := hX10.trans hE11
  obtain ⟨c0', c1', c2'⟩ := hbx7.ext (hE9.trans (hA9.trans hE11))
  obtain ⟨d0', d1', d2'⟩ := hbx9.ext hE11
  dsimp only at c0' c1' c2' d0' d1' d2'
  clear a0 a1 a2 b0 b1 b2 c0 c1 c2
  go_wp2_with fail
  refine (sameM_any (whM M f) va7 ra7 va9 ra9 vc7 rc7 vc9 rc9 _ (hr7.ext2 (hA7.trans (hE9.trans (hA9.trans hE11)))) (hr9.ext2 (hA9.trans hE11))).mono ?_
  rintro _ w12 ⟨rfl, hE12⟩
  dsimp only
  have hX12 := hX11.trans hE12
  go_wp2_with fail
  have hs := same25_any (natI (upL M f)) la3 la5 lc3 lc5 w12 (hr3.2.ext (hA3.trans (hE5.trans (hA5.trans (hE7.trans (hA7.trans (hE9.trans (hA9.trans (hE11.trans hE12))))))))) (hr5.2.ext (hA5.trans (hE7.trans (hA7.trans (hE9.trans (hA9.trans (hE11.trans hE12)))))))
  rw [natI_len] at hs
  refine hs.mono ?_
  rintro _ w13 ⟨rfl, hE13⟩
  dsimp only
  go_wp2_with fail
  go_ret
  exact ⟨rfl, HE.out.trans (hX12.trans hE13)⟩
end Wt

/- The law AnnounceUpdates returns true at every input, and its arguments read behind the call as they did before; the library's table of TrailingZeros64 lies as the program's text lays it: the tied card. No other condition. -/
namespace Go.Proofs.YticoljmflljghaaGreatDoor
open Go.ChangeShapes Go.WideShapes Go.ChangeAt Go.WideMaps Go.WideElems Go.RowKit

theorem own : ownKnob Tryz.prog.godebug = none := by kernel_rfl
theorem laidOut : laidOutB Tryz.prog = true := by kernel_rfl
theorem door_met (os : Os) (args : Array Value) : laidMetH Tryz.prog [("math/bits.deBruijn64tab", Rows.laid_math_bits_deBruijn64tab)] ((World.doorLaid Tryz.prog 400 os).forCall (fun _ _ => 0) ⟨#[], args, []⟩).memory := by
  rw [MakeChecks.laidMetH_plain _ _ _ (by kernel_rfl)]
  exact laidMet_of_run' 8 (by kernel_rfl) (by kernel_rfl)
set_option maxRecDepth 100000 in
set_option maxHeartbeats 1000000 in
theorem law_lifted (os : Os) (started : os.Started) (H : Type) (enc : TypeId × Value → H) :
    ReturnsInHanded {} Tryz.checked os 3 .any (fun w args => (Rows.announceUpdatesSpec.pre enc Tryz.prog Tryz.f3 Rows.announceUpdatesRow.domain false w args ∧ laidMetH Tryz.prog [("math/bits.deBruijn64tab", Rows.laid_math_bits_deBruijn64tab)] w) ∧ sizedMet enc Tryz.prog Tryz.f3 (OpenSpec.ofChange Rows.announceUpdatesSpec) false w args)
      (Rows.announceUpdatesSpec.post enc Tryz.prog Tryz.f3 false true false false) := by
  refine returnsInHanded_of_change_and (C := Tryz.checked) (X := fun w _ => laidMetH Tryz.prog [("math/bits.deBruijn64tab", Rows.laid_math_bits_deBruijn64tab)] w) (fun _ _ _ hh h => h.of_heap hh) own started (by kernel_rfl) Tryz.func3
    (ChangeSpec.witness_shaped (enc := enc) (C := Tryz.checked) (os := os) (X := fun w _ => laidMetH Tryz.prog [("math/bits.deBruijn64tab", Rows.laid_math_bits_deBruijn64tab)] w) false (World.doorLaid Tryz.prog 400 os) #[.agg #[.int .i64 0, .slice none 0 0, .slice none 0 0], .slice none 0 0] 8 rfl (World.shaped_of_RefB (by kernel_rfl) (by kernel_rfl)) (by kernel_rfl) (by kernel_rfl) (by kernel_rfl) (door_met os _)) ?_
  intro W base args ds gs before hval0 hW _ hsz0 hL _
  have hT := of_laid hL
  have hval : ∀ (j : Nat) t v, Tryz.f3.params[j]? = some t → args[j]? = some v → Value.okWide Tryz.prog W .any base t v := hval0
  have hsz : (DataW.weightsEach Tryz.prog (Tryz.f3.params.toList ++ Rows.announceUpdatesSpec.plain.varTypes Tryz.prog) (ds ++ gs)).all (· ≤ reachBytes) = true := hsz0
  have hW' := hW
  obtain ⟨p, q, hA0, hV, rfl, hfz, hnd⟩ := hW
  have hA : DataW.TrodAll enc Tryz.prog W 0 (fun _ => true) true Tryz.f3.params.toList args.toList ds p := hA0
  rw [Tryz.params3] at hA hval hsz
  obtain ⟨v0, v1, d0, d1, p0, p1, rfl, rfl, rfl, h0, h1⟩ := trodAll_two hA
  obtain ⟨rfl, rfl⟩ := trodVars_none hV
  have hv0 : Rows.announceUpdatesSpec.plain.varTypes Tryz.prog = [] := rfl
  rw [hv0] at hsz
  have hz : ∀ n ∈ DataW.weightsEach Tryz.prog [25, 26] [d0, d1], n ≤ reachBytes := fun n hn => by
    have := List.all_eq_true.1 hsz n (by simpa using hn)
    simpa using this
  have k0 := h0
  have k1 := h1
  obtain ⟨M, va, ra, vc, rc, rfl, hm⟩ := Wt.open_mo rfl (hval 0 25 v0 rfl rfl) h0 (fun n hn => hz n (DataW.weights_mem_each (j := 0) rfl rfl n hn))
  obtain ⟨oa, ol, oc, rfl⟩ := okWide_slice Tryz.underlying26 (hval 1 26 v1 rfl rfl)
  obtain ⟨fu, h1'⟩ := h1
  obtain ⟨oa', l, oc', he1, hff⟩ := Wt.open_rn h1' (fun n hn => hz n (DataW.weights_mem_each (j := 1) rfl rfl n hn))
  simp [Value.cells] at he1
  obtain ⟨rfl, rfl, rfl⟩ := he1
  have hl0 : ∀ y ∈ p0, y.block < W.heap.size := fun y hy => by simpa using hW'.lt y (by simp [hy])
  have hl1 : ∀ y ∈ p1, y.block < W.heap.size := fun y hy => by simpa using hW'.lt y (by simp [hy])
  refine (Wt.announceUpdates_any M va ra vc rc oa oc l W hm hff hT).mono fun e W' he => ?_
  obtain ⟨rfl, hE⟩ := he
  have bel : Below W.heap.size W W' := hE
  refine ⟨_, rfl, ⟨_, _, _, [], p0 ++ p1, [], hW', trodAll_mk1 (shut_bool Tryz.underlying4 true), trodAll_mk2 (Below.trod laidOut (by kernel_rfl) (of_decide_eq_true (by kernel_rfl)) k0 bel hl0) (Below.trod laidOut (by kernel_rfl) (of_decide_eq_true (by kernel_rfl)) k1 bel hl1), rfl, bel.frame _, fun h => by cases h⟩⟩
theorem announceUpdates_holds : Rows.AnnounceUpdatesSaid :=
  OpenClaim.holds_of_wide 3 Tryz.f3 rfl rfl rfl rfl rfl rfl rfl ⟨rfl, rfl, rfl, rfl, rfl⟩ rfl rfl rfl rfl rfl (by kernel_rfl) Tryz.func3 (by kernel_rfl)
    (of_decide_eq_true (by kernel_rfl)) (by unfold Func.isWrapper; first | (rw [if_pos (by decide +kernel)]; kernel_rfl) | (rw [if_neg (by decide +kernel)]; exact ⟨rfl, rfl⟩))
    (fun os started H enc _ => law_lifted os started H enc)
theorem announceUpdates_card_holds : Rows.AnnounceUpdatesCardSaid :=
  Claim7.holds_tied_plain_at .later [] [.data] true (true, "1c4e3cbb28375c243f6a9416d12932460cef2151406b3da433218e692a49cb41") false
    announceUpdates_holds (fun _ h => by cases h) (by kernel_rfl) (fun _ h => by cases h) announceUpdates_row_tie rfl ⟨rfl, rfl⟩ (by kernel_rfl) rfl
    (fun f fn hf hfn => by
      obtain rfl : f = 3 := Option.some.inj ((show Tryz.prog.funcNamed "witting/wittinglaw25.AnnounceUpdates" = some 3 by kernel_rfl).symm.trans hf) |>.symm
      obtain rfl : fn = Tryz.f3 := (Option.some.inj (Tryz.func3.symm.trans hfn)).symm
      exact ⟨by kernel_rfl, fun j t ht => by
        rw [Tryz.params3] at ht
        have hm : t ∈ [25, 26] := by simpa using Array.mem_of_getElem? ht
        have hall : ([25, 26].all fun u => !Tryz.prog.wantsStandIn u) = true := by kernel_rfl
        exact (show Tryz.prog.wantsStandIn t = false by simpa using List.all_eq_true.1 hall t hm)⟩)
    (by kernel_rfl)
#print axioms announceUpdates_card_holds
end Go.Proofs.YticoljmflljghaaGreatDoor
