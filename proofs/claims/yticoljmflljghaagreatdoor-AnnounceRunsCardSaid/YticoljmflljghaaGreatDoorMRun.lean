/- The walk of AnnounceRuns. -/
import Derived.Test.YticoljmflljghaaGreatDoorMAwk
import Derived.Test.YticoljmflljghaaGreatDoorMSeqR
import Derived.Test.YticoljmflljghaaGreatDoorMRepR
import Derived.Test.YticoljmflljghaaGreatDoorRows
import Derived.Test.YticoljmflljghaaGreatDoorCards
import Derived.Test.YticoljmflljghaaGreatDoorTie
import Derived.Test.YticoljmflljghaaGreatDoorMCkC
import Derived.Test.YticoljmflljghaaGreatDoorMTz
import Derived.ProofKit
import Derived.LaidMore
import Derived.SizedLaws
import Derived.SevenTiedAt
namespace Wt
open Go Go.RowKit Go.Maps Go.Proofs Fm

set_option maxRecDepth 20000 in
set_option maxHeartbeats 8000000 in
theorem announceRuns_any (M : Mo) (va ra : Option Addr) (vc rc : Nat) (oa : Option Addr) (oc : Nat) (l : List (List Nd)) (w : World) (hm : RM w va ra M) (hl : RNN w oa l) (hT : Tab w) :
    Calls Tryz.prog 4 #[.agg #[.int .i64 M.worlds, .slice va M.val.length vc, .slice ra M.rel.length rc], .slice oa l.length oc] w fun e w' => e = .returned (.bool true) ∧ Ext w w' := by
  have hE0 := (Ext.refl w).alloc (.cells #[.int .i64 M.worlds, .slice va M.val.length vc, .slice ra M.rel.length rc] 25)
  have HBX := Lib.hid (MoBox.new w M.worlds M.val M.rel va vc ra rc 25)
  have HL := Lib.hid (hl.ext hE0)
  have HT := Lib.hid (hT.ext hE0)
  have HM := Lib.hid (hm.ext hE0)
  have HE := Lib.hid hE0
  have hll := hl.len
  clear hm hl hT hE0
  go_enter Tryz.func4, Tryz.ntmps4
  go_wp2_with fail
  generalize w.alloc (.cells #[.int .i64 M.worlds, .slice va M.val.length vc, .slice ra M.rel.length rc] 25) = W0 at *
  refine (awake25_any _ HT.out).mono ?_
  rintro _ w1 ⟨rfl, hX1⟩
  dsimp only
  obtain ⟨m0, m1, m2⟩ := HBX.out.ext hX1
  dsimp only at m0 m1 m2
  go_wp2_with fail
  refine (few25_any M va ra vc rc oa oc l _ (HM.out.ext hX1) (HL.out.ext hX1)).mono ?_
  rintro _ w2 ⟨b, rfl, hE2, hsm⟩
  dsimp only
  have hX2 := hX1.trans hE2
  cases b
  · go_wp2_with fail
    refine (awake25_any _ (HT.out.ext hX2)).mono ?_
    rintro _ w3 ⟨rfl, hE3⟩
    dsimp only
    go_wp2_with fail
    go_ret
    exact ⟨rfl, HE.out.trans (hX2.trans hE3)⟩
  clear hsm m0 m1 m2
  obtain ⟨m0, m1, m2⟩ := HBX.out.ext hX2
  dsimp only at m0 m1 m2
  go_wp2_with fail
  refine (sequence_any M va ra vc rc oa oc l _ (HM.out.ext hX2) (HL.out.ext hX2) (HT.out.ext hX2)).mono ?_
  rintro _ w3 ⟨va3, ra3, la3, vc3, rc3, lc3, rfl, hm3, hE3⟩
  dsimp only
  have hr3 := hm3 w3 (fun _ _ _ => rfl)
  have hX3 := hX2.trans hE3
  have hA3 : Ext w3 (w3.alloc (.cells #[.int .i64 (seqOf M l).1.worlds, .slice va3 (seqOf M l).1.val.length vc3, .slice ra3 (seqOf M l).1.rel.length rc3] 25)) := (Ext.refl _).alloc _
  have hbx3 := MoBox.new w3 (seqOf M l).1.worlds (seqOf M l).1.val (seqOf M l).1.rel va3 vc3 ra3 rc3 25
  obtain ⟨m0, m1, m2⟩ := HBX.out.ext hX3
  dsimp only at m0 m1 m2
  have hbm := World.block_lt_of_cell? w3 _ m0
  go_wp2_with fail
  generalize w3.alloc (.cells #[.int .i64 (seqOf M l).1.worlds, .slice va3 (seqOf M l).1.val.length vc3, .slice ra3 (seqOf M l).1.rel.length rc3] 25) = w4 at *
  have hX4 := hX3.trans hA3
  refine (r25Sequence_any M va ra vc rc oa oc l _ (HM.out.ext hX4) (HL.out.ext hX4)).mono ?_
  rintro _ w5 ⟨va5, ra5, la5, vc5, rc5, lc5, rfl, hm5, hE5⟩
  dsimp only
  have hr5 := hm5 w5 (fun _ _ _ => rfl)
  have hX5 := hX4.trans hE5
  have hA5 : Ext w5 (w5.alloc (.cells #[.int .i64 (seqOf M l).1.worlds, .slice va5 (seqOf M l).1.val.length vc5, .slice ra5 (seqOf M l).1.rel.length rc5] 25)) := (Ext.refl _).alloc _
  have hbx5 := MoBox.new w5 (seqOf M l).1.worlds (seqOf M l).1.val (seqOf M l).1.rel va5 vc5 ra5 rc5 25
  have hn1 : (((seqOf M l).2.2.1 : Int) != ((seqOf M l).2.2.1 : Int)) = false := by simp
  have hn2 : ((seqOf M l).2.2.2 != (seqOf M l).2.2.2) = false := by simp
  obtain ⟨a0, a1, a2⟩ := hbx3.ext hE5
  dsimp only at a0 a1 a2
  have hba := World.block_lt_of_cell? w5 _ a0
  clear m0 m1 m2
  go_wp2_with fail
  generalize w5.alloc (.cells #[.int .i64 (seqOf M l).1.worlds, .slice va5 (seqOf M l).1.val.length vc5, .slice ra5 (seqOf M l).1.rel.length rc5] 25) = w6 at *
  have hX6 := hX5.trans hA5
  refine (sameM_any (seqOf M l).1 va3 ra3 va5 ra5 vc3 rc3 vc5 rc5 _ (hr3.1.ext2 (hA3.trans (hE5.trans hA5))) (hr5.1.ext2 hA5)).mono ?_
  rintro _ w7 ⟨rfl, hE7⟩
  dsimp only
  have hX7 := hX6.trans hE7
  go_wp2_with fail
  have hs := same25_any (natI (seqOf M l).2.1) la3 la5 lc3 lc5 w7 (hr3.2.ext (hA3.trans (hE5.trans (hA5.trans hE7)))) (hr5.2.ext (hA5.trans hE7))
  rw [natI_len] at hs
  refine hs.mono ?_
  rintro _ w8 ⟨rfl, hE8⟩
  dsimp only
  have hX8 := hX7.trans hE8
  have HX8 := Lib.hid hX8
  clear hr3 hr5 hm3 hm5 hbx3 hbx5 a0 a1 a2 hba hbm hn1 hn2 hs
  go_wp2_with fail
  go_loopw [70] (fun i wr => ∃ k : Nat, k ≤ l.length ∧ i = .int .i64 (k : Int) ∧ Ext W0 wr) (fun i _ => l.length - (intOf i).toNat)
  case atStart => exact ⟨0, Nat.zero_le _, rfl, HX8.out⟩
  case round =>
    obtain ⟨k, hk, rfl, hXr⟩ := hrel
    by_cases hkl : k < l.length
    rotate_left
    · have HXr := Lib.hid hXr
      clear hXr
      go_wp2
      go_ret
      exact ⟨rfl, HE.out.trans HXr.out⟩
    obtain ⟨bl, ol, fa, fc, rfl, hbl, hcl, hf⟩ := (HL.out.ext hXr).get k hkl
    have hfl := hf.len
    have HF := Lib.hid hf
    obtain ⟨m0z, m1z, m2z⟩ := HBX.out.ext hXr
    dsimp only at m0z m1z m2z
    generalize nth l k = f at *
    clear hf
    go_wp2_with fail
    refine (repeat_any M va ra vc rc fa fc f _ (HM.out.ext hXr) HF.out (HT.out.ext hXr)).mono ?_
    rintro _ y3 ⟨va3y, ra3y, la3y, vc3y, rc3y, lc3y, rfl, hm3y, hK3⟩
    dsimp only
    have hX2y := hXr
    clear m0z m1z m2z
    have hr3y := hm3y y3 (fun _ _ _ => rfl)
    have hZ3 := hX2y.trans hK3
    have hA3y : Ext y3 (y3.alloc (.cells #[.int .i64 (repQ M f).1.worlds, .slice va3y (repQ M f).1.val.length vc3y, .slice ra3y (repQ M f).1.rel.length rc3y] 25)) := (Ext.refl _).alloc _
    have hbx3y := MoBox.new y3 (repQ M f).1.worlds (repQ M f).1.val (repQ M f).1.rel va3y vc3y ra3y rc3y 25
    obtain ⟨m0y, m1y, m2y⟩ := HBX.out.ext hZ3
    dsimp only at m0y m1y m2y
    have hbmy := World.block_lt_of_cell? y3 _ m0y
    go_wp2_with fail
    generalize y3.alloc (.cells #[.int .i64 (repQ M f).1.worlds, .slice va3y (repQ M f).1.val.length vc3y, .slice ra3y (repQ M f).1.rel.length rc3y] 25) = y4 at *
    have hZ4 := hZ3.trans hA3y
    refine (r25Repeat_any M va ra vc rc fa fc f _ (HM.out.ext hZ4) (HF.out.ext (hK3.trans hA3y))).mono ?_
    rintro _ y5 ⟨va5y, ra5y, la5y, vc5y, rc5y, lc5y, rfl, hm5y, hK5⟩
    dsimp only
    have hr5y := hm5y y5 (fun _ _ _ => rfl)
    have hZ5 := hZ4.trans hK5
    have hA5y : Ext y5 (y5.alloc (.cells #[.int .i64 (repQ M f).1.worlds, .slice va5y (repQ M f).1.val.length vc5y, .slice ra5y (repQ M f).1.rel.length rc5y] 25)) := (Ext.refl _).alloc _
    have hbx5y := MoBox.new y5 (repQ M f).1.worlds (repQ M f).1.val (repQ M f).1.rel va5y vc5y ra5y rc5y 25
    have hn1y : (((repQ M f).2.2.1 : Int) != ((repQ M f).2.2.1 : Int)) = false := by simp
    have hn2y : ((repQ M f).2.2.2 != (repQ M f).2.2.2) = false := by simp
    obtain ⟨a0y, a1y, a2y⟩ := hbx3y.ext hK5
    dsimp only at a0y a1y a2y
    have hbay := World.block_lt_of_cell? y5 _ a0y
    clear m0y m1y m2y
    go_wp2_with fail
    generalize y5.alloc (.cells #[.int .i64 (repQ M f).1.worlds, .slice va5y (repQ M f).1.val.length vc5y, .slice ra5y (repQ M f).1.rel.length rc5y] 25) = y6 at *
    have hZ6 := hZ5.trans hA5y
    refine (sameM_any (repQ M f).1 va3y ra3y va5y ra5y vc3y rc3y vc5y rc5y _ (hr3y.1.ext2 (hA3y.trans (hK5.trans hA5y))) (hr5y.1.ext2 hA5y)).mono ?_
    rintro _ y7 ⟨rfl, hK7⟩
    dsimp only
    have hZ7 := hZ6.trans hK7
    go_wp2_with fail
    have hsy := same25_any (natI (repQ M f).2.1) la3y la5y lc3y lc5y y7 (hr3y.2.ext (hA3y.trans (hK5.trans (hA5y.trans hK7)))) (hr5y.2.ext (hA5y.trans hK7))
    rw [natI_len] at hsy
    refine hsy.mono ?_
    rintro _ y8 ⟨rfl, hK8⟩
    dsimp only
    have hZ8 := hZ7.trans hK8
    have HZ8 := Lib.hid hZ8
    clear hr3y hr5y hm3y hm5y hbx3y hbx5y a0y a1y a2y hbay hbmy hn1y hn2y hsy
    go_wp2
    go_roundw
    case rel => exact ⟨k + 1, hkl, by go_num, HZ8.out⟩
    case measure => simp [intOf]; omega
end Wt

/- The law AnnounceRuns returns true at every input, and its arguments read behind the call as they did before; the library's table of TrailingZeros64 lies as the program's text lays it: the tied card. No other condition. -/
namespace Go.Proofs.YticoljmflljghaaGreatDoor
open Go.ChangeShapes Go.WideShapes Go.ChangeAt Go.WideMaps Go.WideElems Go.RowKit

theorem own : ownKnob Tryz.prog.godebug = none := by kernel_rfl
theorem laidOut : laidOutB Tryz.prog = true := by kernel_rfl
theorem door_met (os : Os) (args : Array Value) : laidMetH Tryz.prog [("math/bits.deBruijn64tab", Rows.laid_math_bits_deBruijn64tab)] ((World.doorLaid Tryz.prog 400 os).forCall (fun _ _ => 0) ⟨#[], args, []⟩).memory := by
  rw [MakeChecks.laidMetH_plain _ _ _ (by kernel_rfl)]
  exact laidMet_of_run' 8 (by kernel_rfl) (by kernel_rfl)
set_option maxRecDepth 100000 in
set_option maxHeartbeats 1000000 in
theorem law_lifted (os : Os) (started : os.Started) (H : Type) (enc : TypeId × Value → H) :
    ReturnsInHanded {} Tryz.checked os 4 .any (fun w args => (Rows.announceRunsSpec.pre enc Tryz.prog Tryz.f4 Rows.announceRunsRow.domain false w args ∧ laidMetH Tryz.prog [("math/bits.deBruijn64tab", Rows.laid_math_bits_deBruijn64tab)] w) ∧ sizedMet enc Tryz.prog Tryz.f4 (OpenSpec.ofChange Rows.announceRunsSpec) false w args)
      (Rows.announceRunsSpec.post enc Tryz.prog Tryz.f4 false true false false) := by
  refine returnsInHanded_of_change_and (C := Tryz.checked) (X := fun w _ => laidMetH Tryz.prog [("math/bits.deBruijn64tab", Rows.laid_math_bits_deBruijn64tab)] w) (fun _ _ _ hh h => h.of_heap hh) own started (by kernel_rfl) Tryz.func4
    (ChangeSpec.witness_shaped (enc := enc) (C := Tryz.checked) (os := os) (X := fun w _ => laidMetH Tryz.prog [("math/bits.deBruijn64tab", Rows.laid_math_bits_deBruijn64tab)] w) false (World.doorLaid Tryz.prog 400 os) #[.agg #[.int .i64 0, .slice none 0 0, .slice none 0 0], .slice none 0 0] 8 rfl (World.shaped_of_RefB (by kernel_rfl) (by kernel_rfl)) (by kernel_rfl) (by kernel_rfl) (by kernel_rfl) (door_met os _)) ?_
  intro W base args ds gs before hval0 hW _ hsz0 hL _
  have hT := of_laid hL
  have hval : ∀ (j : Nat) t v, Tryz.f4.params[j]? = some t → args[j]? = some v → Value.okWide Tryz.prog W .any base t v := hval0
  have hsz : (DataW.weightsEach Tryz.prog (Tryz.f4.params.toList ++ Rows.announceRunsSpec.plain.varTypes Tryz.prog) (ds ++ gs)).all (· ≤ reachBytes) = true := hsz0
  have hW' := hW
  obtain ⟨p, q, hA0, hV, rfl, hfz, hnd⟩ := hW
  have hA : DataW.TrodAll enc Tryz.prog W 0 (fun _ => true) true Tryz.f4.params.toList args.toList ds p := hA0
  rw [Tryz.params4] at hA hval hsz
  obtain ⟨v0, v1, d0, d1, p0, p1, rfl, rfl, rfl, h0, h1⟩ := trodAll_two hA
  obtain ⟨rfl, rfl⟩ := trodVars_none hV
  have hv0 : Rows.announceRunsSpec.plain.varTypes Tryz.prog = [] := rfl
  rw [hv0] at hsz
  have hz : ∀ n ∈ DataW.weightsEach Tryz.prog [25, 37] [d0, d1], n ≤ reachBytes := fun n hn => by
    have := List.all_eq_true.1 hsz n (by simpa using hn)
    simpa using this
  have k0 := h0
  have k1 := h1
  obtain ⟨M, va, ra, vc, rc, rfl, hm⟩ := Wt.open_mo rfl (hval 0 25 v0 rfl rfl) h0 (fun n hn => hz n (DataW.weights_mem_each (j := 0) rfl rfl n hn))
  obtain ⟨oa, ol, oc, rfl⟩ := okWide_slice Tryz.underlying37 (hval 1 37 v1 rfl rfl)
  obtain ⟨fu, h1'⟩ := h1
  obtain ⟨oa', l, oc', he1, hff⟩ := Wt.open_rnn h1' (fun n hn => hz n (DataW.weights_mem_each (j := 1) rfl rfl n hn))
  simp [Value.cells] at he1
  obtain ⟨rfl, rfl, rfl⟩ := he1
  have hl0 : ∀ y ∈ p0, y.block < W.heap.size := fun y hy => by simpa using hW'.lt y (by simp [hy])
  have hl1 : ∀ y ∈ p1, y.block < W.heap.size := fun y hy => by simpa using hW'.lt y (by simp [hy])
  refine (Wt.announceRuns_any M va ra vc rc oa oc l W hm hff hT).mono fun e W' he => ?_
  obtain ⟨rfl, hE⟩ := he
  have bel : Below W.heap.size W W' := hE
  refine ⟨_, rfl, ⟨_, _, _, [], p0 ++ p1, [], hW', trodAll_mk1 (shut_bool Tryz.underlying4 true), trodAll_mk2 (Below.trod laidOut (by kernel_rfl) (of_decide_eq_true (by kernel_rfl)) k0 bel hl0) (Below.trod laidOut (by kernel_rfl) (of_decide_eq_true (by kernel_rfl)) k1 bel hl1), rfl, bel.frame _, fun h => by cases h⟩⟩
theorem announceRuns_holds : Rows.AnnounceRunsSaid :=
  OpenClaim.holds_of_wide 4 Tryz.f4 rfl rfl rfl rfl rfl rfl rfl ⟨rfl, rfl, rfl, rfl, rfl⟩ rfl rfl rfl rfl rfl (by kernel_rfl) Tryz.func4 (by kernel_rfl)
    (of_decide_eq_true (by kernel_rfl)) (by unfold Func.isWrapper; first | (rw [if_pos (by decide +kernel)]; kernel_rfl) | (rw [if_neg (by decide +kernel)]; exact ⟨rfl, rfl⟩))
    (fun os started H enc _ => law_lifted os started H enc)
theorem announceRuns_card_holds : Rows.AnnounceRunsCardSaid :=
  Claim7.holds_tied_plain_at .later [] [.data] true (true, "1c4e3cbb28375c243f6a9416d12932460cef2151406b3da433218e692a49cb41") false
    announceRuns_holds (fun _ h => by cases h) (by kernel_rfl) (fun _ h => by cases h) announceRuns_row_tie rfl ⟨rfl, rfl⟩ (by kernel_rfl) rfl
    (fun f fn hf hfn => by
      obtain rfl : f = 4 := Option.some.inj ((show Tryz.prog.funcNamed "witting/wittinglaw25.AnnounceRuns" = some 4 by kernel_rfl).symm.trans hf) |>.symm
      obtain rfl : fn = Tryz.f4 := (Option.some.inj (Tryz.func4.symm.trans hfn)).symm
      exact ⟨by kernel_rfl, fun j t ht => by
        rw [Tryz.params4] at ht
        have hm : t ∈ [25, 37] := by simpa using Array.mem_of_getElem? ht
        have hall : ([25, 37].all fun u => !Tryz.prog.wantsStandIn u) = true := by kernel_rfl
        exact (show Tryz.prog.wantsStandIn t = false by simpa using List.all_eq_true.1 hall t hm)⟩)
    (by kernel_rfl)
#print axioms announceRuns_card_holds
end Go.Proofs.YticoljmflljghaaGreatDoor
