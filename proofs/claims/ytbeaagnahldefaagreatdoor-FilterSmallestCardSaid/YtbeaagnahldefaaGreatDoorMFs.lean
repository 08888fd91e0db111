/- The walk of FilterSmallest (printed by gen_law23.py). -/
import Derived.Test.YtbeaagnahldefaaGreatDoorM9Bp
import Derived.Test.YtbeaagnahldefaaGreatDoorM9Bn
import Derived.Test.YtbeaagnahldefaaGreatDoorM9Bq
import Derived.Test.YtbeaagnahldefaaGreatDoorRows
import Derived.Test.YtbeaagnahldefaaGreatDoorCards
import Derived.Test.YtbeaagnahldefaaGreatDoorTie
import Derived.Test.YtbeaagnahldefaaGreatDoorM9Ap
import Derived.ProofKit
import Derived.LaidMore
import Derived.SizedLaws
import Derived.SevenTiedAt
namespace Wt
open Go Go.RowKit Go.Maps Go.Proofs Fm

set_option maxRecDepth 20000 in
set_option maxHeartbeats 8000000 in
theorem filterSmallest_any (M : Mo) (va ra : Option Addr) (vc rc : Nat) (fa : Option Addr) (fc : Nat) (f : List Nd) (w : World) (hT : Tab w) (hm : RM w va ra M) (hf : RN w fa f) :
    Calls Tryz.prog 4 #[.agg #[.int .i64 M.worlds, .slice va M.val.length vc, .slice ra M.rel.length rc], .slice fa f.length fc] w fun e w' => e = .returned (.bool true) ∧ Ext w w' := by
  have hE0 : Ext w (w.alloc (.cells #[.int .i64 M.worlds, .slice va M.val.length vc, .slice ra M.rel.length rc] 25)) := (Ext.refl w).alloc _
  have hbx := MoBox.new w M.worlds M.val M.rel va vc ra rc 25
  have HE := Lib.hid hE0
  have HT := Lib.hid (hT.ext hE0)
  have HM := Lib.hid (hm.ext hE0)
  have HF := Lib.hid (hf.ext hE0)
  have HB := Lib.hid hbx
  have HSW : Hid ((w.alloc (.cells #[.int .i64 M.worlds, .slice va M.val.length vc, .slice ra M.rel.length rc] 25)).heap.size = w.heap.size + 1) := Lib.hid (by simp)
  obtain ⟨m0, m1, m2⟩ := hbx
  dsimp only at m0 m1 m2
  clear hE0 hT hm hf
  go_enter Tryz.func4, Tryz.ntmps4
  go_wp2_with fail
  generalize w.alloc (.cells #[.int .i64 M.worlds, .slice va M.val.length vc, .slice ra M.rel.length rc] 25) = w0 at *
  refine (few23_any M va ra vc rc fa fc f _ HM.out).mono ?_
  rintro _ w1 ⟨b, rfl, hE1⟩
  have HE1 := Lib.hid hE1
  obtain ⟨p0, p1, p2⟩ := HB.out.ext hE1
  clear hE1 m0 m1 m2
  dsimp only at p0 p1 p2 ⊢
  cases b
  · go_wp2_with (go_at_call 8; refine (awake23_any _ (HT.out.ext HE1.out)).mono ?_; rintro _ w9 ⟨rfl, hE9⟩)
    go_ret
    exact ⟨rfl, (HE.out.trans HE1.out).trans hE9⟩
  · have hq : (lookErr M f == lookErr M f) = true := by simp
    have hq2 : (lookErr M f != lookErr M f) = false := by simp
    have HPG : Hid (∀ W, Tab W → RM W va ra M → RN W fa f → Calls Tryz.prog 12 #[.agg #[.int .i64 M.worlds, .slice va M.val.length vc, .slice ra M.rel.length rc], .slice fa f.length fc] W fun e w' => RetR (filSm M f) (natI (filN M f)) (lookErr M f) e W w') := Lib.hid fun W hT h1 h2 => smallest_any M va ra vc rc fa fc f W h1 h2
    have HRF : Hid (∀ W, RM W va ra M → RN W fa f → Calls Tryz.prog 13 #[.agg #[.int .i64 M.worlds, .slice va M.val.length vc, .slice ra M.rel.length rc], .slice fa f.length fc] W fun e w' => RetR (filSm M f) (natI (filN M f)) (lookErr M f) e W w') := Lib.hid fun W h1 h2 => r23Smallest_any M va ra vc rc fa fc f W h1 h2
    generalize filSm M f = A at *
    generalize filN M f = ll at *
    have pl := World.block_lt_of_cell? _ _ p0
    dsimp only at pl
    go_wp2_with fail
    refine (HPG.out _ (HT.out.ext HE1.out) (HM.out.ext HE1.out) (HF.out.ext HE1.out)).mono ?_
    rintro _ w2 ⟨va1, ra1, la1, vc1, rc1, lc1, rfl, hk, hE2⟩
    rw [natI_ln]
    have hA2 : Ext w2 (w2.alloc (.cells #[.int .i64 A.worlds, .slice va1 A.val.length vc1, .slice ra1 A.rel.length rc1] 25)) := (Ext.refl w2).alloc _
    have HK1 := Lib.hid (hk _ (agree_of_ext hA2))
    have HO1 := Lib.hid (OutAt.new w2 (.int .i64 A.worlds) (.slice va1 A.val.length vc1) (.slice ra1 A.rel.length rc1) 25)
    have HSB : Hid (w.heap.size + 1 ≤ w2.heap.size) := Lib.hid (by rw [← HSW.out]; exact (HE1.out.trans hE2).size)
    have HE2 := Lib.hid (HE1.out.trans (hE2.trans hA2))
    clear hk hE2 hA2 p0 p1 p2 pl
    obtain ⟨q0, q1, q2⟩ := HB.out.ext HE2.out
    dsimp only at q0 q1 q2
    have ql := World.block_lt_of_cell? _ _ q0
    dsimp only at ql ⊢
    go_wp2_with fail
    generalize w2.alloc (.cells #[.int .i64 A.worlds, .slice va1 A.val.length vc1, .slice ra1 A.rel.length rc1] 25) = w3 at *
    clear q0 q1 q2 ql
    refine (HRF.out _ (HM.out.ext HE2.out) (HF.out.ext HE2.out)).mono ?_
    rintro _ w4 ⟨va2, ra2, la2, vc2, rc2, lc2, rfl, hk, hE4⟩
    rw [natI_ln]
    have hA4 : Ext w4 (w4.alloc (.cells #[.int .i64 A.worlds, .slice va2 A.val.length vc2, .slice ra2 A.rel.length rc2] 25)) := (Ext.refl w4).alloc _
    have HK2 := Lib.hid (hk _ (agree_of_ext hA4))
    have HO2 := Lib.hid (OutAt.new w4 (.int .i64 A.worlds) (.slice va2 A.val.length vc2) (.slice ra2 A.rel.length rc2) 25)
    have HS24 : Hid (w2.heap.size < w4.heap.size) := Lib.hid (HO1.out.ext hE4).lt
    have HX4 := Lib.hid (hE4.trans hA4)
    have HE4 := Lib.hid (HE2.out.trans (hE4.trans hA4))
    clear hk hE4 hA4
    obtain ⟨a0, a1, a2, -⟩ := HO1.out.ext HX4.out
    obtain ⟨b0, b1, b2, -⟩ := HO2.out
    have al := World.block_lt_of_cell? _ _ a0
    have bl := World.block_lt_of_cell? _ _ b0
    dsimp only at al bl ⊢
    have HSM := Lib.hid (sameM_any A va1 ra1 va2 ra2 vc1 rc1 vc2 rc2 _ (HK1.out.1.ext HX4.out) HK2.out.1)
    have HSL : Hid (∀ W, Ext (w4.alloc (.cells #[.int .i64 A.worlds, .slice va2 A.val.length vc2, .slice ra2 A.rel.length rc2] 25)) W → Calls Tryz.prog 11 #[.slice la1 ll.length lc1, .slice la2 ll.length lc2] W fun e w' => e = .returned (.bool true) ∧ Ext W w') := Lib.hid fun W e => r23Same_any ll la1 la2 lc1 lc2 W ((HK1.out.2.ext HX4.out).ext e) (HK2.out.2.ext e)
    go_wp2_with (first | (go_at_call 14; refine HSM.out.mono ?_; rintro _ w5 ⟨rfl, hE5⟩) | (go_at_call 11; refine (HSL.out _ hE5).mono ?_; rintro _ w6 ⟨rfl, hE6⟩) | (go_at_call 8; refine (awake23_any _ (HT.out.ext ((HE4.out.trans hE5).trans hE6))).mono ?_; rintro _ w9 ⟨rfl, hE9⟩))
    go_ret
    exact ⟨rfl, HE.out.trans (((HE4.out.trans hE5).trans hE6).trans hE9)⟩
end Wt

/- The law FilterSmallest returns true at every input, and its arguments read behind the call as they did before. the tied card: the library's table of TrailingZeros64 lies as the program's text lays it. -/
namespace Go.Proofs.YtbeaagnahldefaaGreatDoor
open Go.ChangeShapes Go.WideShapes Go.ChangeAt Go.WideMaps Go.WideElems Go.RowKit

theorem own : ownKnob Tryz.prog.godebug = none := by kernel_rfl
theorem laidOut : laidOutB Tryz.prog = true := by kernel_rfl
theorem door_met (os : Os) (args : Array Value) : laidMetH Tryz.prog [("math/bits.deBruijn64tab", Rows.laid_math_bits_deBruijn64tab)] ((World.doorLaid Tryz.prog 400 os).forCall (fun _ _ => 0) ⟨#[], args, []⟩).memory := by
  rw [MakeChecks.laidMetH_plain _ _ _ (by kernel_rfl)]
  exact laidMet_of_run' 8 (by kernel_rfl) (by kernel_rfl)
set_option maxRecDepth 100000 in
set_option maxHeartbeats 1000000 in
theorem law_lifted (os : Os) (started : os.Started) (H : Type) (enc : TypeId × Value → H) :
    ReturnsInHanded {} Tryz.checked os 4 .any (fun w args => (Rows.filterSmallestSpec.pre enc Tryz.prog Tryz.f4 Rows.filterSmallestRow.domain false w args ∧ laidMetH Tryz.prog [("math/bits.deBruijn64tab", Rows.laid_math_bits_deBruijn64tab)] w) ∧ sizedMet enc Tryz.prog Tryz.f4 (OpenSpec.ofChange Rows.filterSmallestSpec) false w args)
      (Rows.filterSmallestSpec.post enc Tryz.prog Tryz.f4 false true false false) := by
  refine returnsInHanded_of_change_and (C := Tryz.checked) (X := fun w _ => laidMetH Tryz.prog [("math/bits.deBruijn64tab", Rows.laid_math_bits_deBruijn64tab)] w) (fun _ _ _ hh h => h.of_heap hh) own started (by kernel_rfl) Tryz.func4
    (ChangeSpec.witness_shaped (enc := enc) (C := Tryz.checked) (os := os) (X := fun w _ => laidMetH Tryz.prog [("math/bits.deBruijn64tab", Rows.laid_math_bits_deBruijn64tab)] w) false (World.doorLaid Tryz.prog 400 os) #[.agg #[.int .i64 0, .slice none 0 0, .slice none 0 0], .slice none 0 0] 8 rfl (World.shaped_of_RefB (by kernel_rfl) (by kernel_rfl)) (by kernel_rfl) (by kernel_rfl) (by kernel_rfl) (door_met os _)) ?_
  intro W base args ds gs before hval0 hW _ hsz0 hL _
  have hT := of_laid hL
  have hval : ∀ (j : Nat) t v, Tryz.f4.params[j]? = some t → args[j]? = some v → Value.okWide Tryz.prog W .any base t v := hval0
  have hsz : (DataW.weightsEach Tryz.prog (Tryz.f4.params.toList ++ Rows.filterSmallestSpec.plain.varTypes Tryz.prog) (ds ++ gs)).all (· ≤ reachBytes) = true := hsz0
  have hW' := hW
  obtain ⟨p, q, hA0, hV, rfl, hfz, hnd⟩ := hW
  have hA : DataW.TrodAll enc Tryz.prog W 0 (fun _ => true) true Tryz.f4.params.toList args.toList ds p := hA0
  rw [Tryz.params4] at hA hval hsz
  obtain ⟨v0, v1, d0, d1, p0, p1, rfl, rfl, rfl, h0, h1⟩ := trodAll_two hA
  obtain ⟨rfl, rfl⟩ := trodVars_none hV
  have hv0 : Rows.filterSmallestSpec.plain.varTypes Tryz.prog = [] := rfl
  rw [hv0] at hsz
  have hz : ∀ n ∈ DataW.weightsEach Tryz.prog [25, 26] [d0, d1], n ≤ reachBytes := fun n hn => by
    have := List.all_eq_true.1 hsz n (by simpa using hn)
    simpa using this
  have k0 := h0
  have k1 := h1
  obtain ⟨m, mv, mr, mvc, mrc, rfl, hmm⟩ := Wt.open_mo rfl (hval 0 25 v0 rfl rfl) h0 (fun n hn => hz n (DataW.weights_mem_each (j := 0) rfl rfl n hn))
  obtain ⟨fa, fl, fc, rfl⟩ := okWide_slice Tryz.underlying26 (hval 1 26 v1 rfl rfl)
  obtain ⟨fu, h1'⟩ := h1
  obtain ⟨fa', f, fc', he1, hff⟩ := Wt.open_rn h1' (fun n hn => hz n (DataW.weights_mem_each (j := 1) rfl rfl n hn))
  simp [Value.cells] at he1
  obtain ⟨rfl, rfl, rfl⟩ := he1
  have hl0 : ∀ y ∈ p0, y.block < W.heap.size := fun y hy => by simpa using hW'.lt y (by simp [hy])
  have hl1 : ∀ y ∈ p1, y.block < W.heap.size := fun y hy => by simpa using hW'.lt y (by simp [hy])
  refine (Wt.filterSmallest_any m mv mr mvc mrc fa fc f W hT hmm hff).mono fun e W' he => ?_
  obtain ⟨rfl, hE⟩ := he
  have bel : Below W.heap.size W W' := hE
  refine ⟨_, rfl, ⟨_, _, _, [], p0 ++ (p1), [], hW', trodAll_mk1 (shut_bool Tryz.underlying4 true), trodAll_mk2 (Below.trod laidOut (by kernel_rfl) (of_decide_eq_true (by kernel_rfl)) k0 bel hl0) (Below.trod laidOut (by kernel_rfl) (of_decide_eq_true (by kernel_rfl)) k1 bel (fun y hy => hl1 y (by simpa using hy))), rfl, bel.frame _, fun h => by cases h⟩⟩
theorem filterSmallest_holds : Rows.FilterSmallestSaid :=
  OpenClaim.holds_of_wide 4 Tryz.f4 rfl rfl rfl rfl rfl rfl rfl ⟨rfl, rfl, rfl, rfl, rfl⟩ rfl rfl rfl rfl rfl (by kernel_rfl) Tryz.func4 (by kernel_rfl)
    (of_decide_eq_true (by kernel_rfl)) (by unfold Func.isWrapper; first | (rw [if_pos (by decide +kernel)]; kernel_rfl) | (rw [if_neg (by decide +kernel)]; exact ⟨rfl, rfl⟩))
    (fun os started H enc _ => law_lifted os started H enc)
theorem filterSmallest_card_holds : Rows.FilterSmallestCardSaid :=
  Claim7.holds_tied_plain_at .later [] [.data] true Rows.filterSmallestCard.stood.harness false
    filterSmallest_holds (fun _ h => by cases h) (by kernel_rfl) (fun _ h => by cases h) filterSmallest_row_tie rfl ⟨rfl, rfl⟩ (by kernel_rfl) rfl
    (fun f fn hf hfn => by
      obtain rfl : f = 4 := Option.some.inj ((show Tryz.prog.funcNamed "witting/wittinglaw23.FilterSmallest" = some 4 by kernel_rfl).symm.trans hf) |>.symm
      obtain rfl : fn = Tryz.f4 := (Option.some.inj (Tryz.func4.symm.trans hfn)).symm
      exact ⟨by kernel_rfl, fun j t ht => by
        rw [Tryz.params4] at ht
        have hm : t ∈ [25, 26] := by simpa using Array.mem_of_getElem? ht
        have hall : ([25, 26].all fun u => !Tryz.prog.wantsStandIn u) = true := by kernel_rfl
        exact (show Tryz.prog.wantsStandIn t = false by simpa using List.all_eq_true.1 hall t hm)⟩)
    (by kernel_rfl)
#print axioms filterSmallest_card_holds
end Go.Proofs.YtbeaagnahldefaaGreatDoor
