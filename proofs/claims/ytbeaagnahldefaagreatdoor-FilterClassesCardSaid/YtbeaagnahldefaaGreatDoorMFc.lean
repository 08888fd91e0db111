/- The walk of FilterClasses (printed by gen_law23.py). -/
import Derived.Test.YtbeaagnahldefaaGreatDoorM9Bp
import Derived.Test.YtbeaagnahldefaaGreatDoorM9Bi
import Derived.Test.YtbeaagnahldefaaGreatDoorRows
import Derived.Test.YtbeaagnahldefaaGreatDoorCards
import Derived.Test.YtbeaagnahldefaaGreatDoorTie
import Derived.Test.YtbeaagnahldefaaGreatDoorM9Ap
import Derived.ProofKit
import Derived.LaidMore
import Derived.SizedLaws
import Derived.SevenTiedAt
namespace Wt
open Go Go.RowKit Go.Maps Go.Proofs Fm

set_option maxRecDepth 20000 in
set_option maxHeartbeats 8000000 in
theorem filterClasses_any (M : Mo) (va ra : Option Addr) (vc rc : Nat) (fa : Option Addr) (fc : Nat) (f : List Nd) (w : World) (hT : Tab w) (hm : RM w va ra M) (hf : RN w fa f) :
    Calls Tryz.prog 3 #[.agg #[.int .i64 M.worlds, .slice va M.val.length vc, .slice ra M.rel.length rc], .slice fa f.length fc] w fun e w' => e = .returned (.bool true) ∧ Ext w w' := by
  have hE0 : Ext w (w.alloc (.cells #[.int .i64 M.worlds, .slice va M.val.length vc, .slice ra M.rel.length rc] 25)) := (Ext.refl w).alloc _
  have hbx := MoBox.new w M.worlds M.val M.rel va vc ra rc 25
  have HE := Lib.hid hE0
  have HT := Lib.hid (hT.ext hE0)
  have HM := Lib.hid (hm.ext hE0)
  have HF := Lib.hid (hf.ext hE0)
  have HB := Lib.hid hbx
  have HSW : Hid ((w.alloc (.cells #[.int .i64 M.worlds, .slice va M.val.length vc, .slice ra M.rel.length rc] 25)).heap.size = w.heap.size + 1) := Lib.hid (by simp)
  obtain ⟨m0, m1, m2⟩ := hbx
  dsimp only at m0 m1 m2
  clear hE0 hT hm hf
  go_enter Tryz.func3, Tryz.ntmps3
  go_wp2_with fail
  generalize w.alloc (.cells #[.int .i64 M.worlds, .slice va M.val.length vc, .slice ra M.rel.length rc] 25) = w0 at *
  refine (few23_any M va ra vc rc fa fc f _ HM.out).mono ?_
  rintro _ w1 ⟨b, rfl, hE1⟩
  have HE1 := Lib.hid hE1
  obtain ⟨p0, p1, p2⟩ := HB.out.ext hE1
  clear hE1 m0 m1 m2
  dsimp only at p0 p1 p2 ⊢
  cases b
  · go_wp2_with (go_at_call 8; refine (awake23_any _ (HT.out.ext HE1.out)).mono ?_; rintro _ w9 ⟨rfl, hE9⟩)
    go_ret
    exact ⟨rfl, (HE.out.trans HE1.out).trans hE9⟩
  · have hq : (lookErr M f == lookErr M f) = true := by simp
    have pl := World.block_lt_of_cell? _ _ p0
    dsimp only at pl
    go_wp2_with fail
    refine (fClasses_any M va ra vc rc fa fc f _ (HM.out.ext HE1.out) (HF.out.ext HE1.out)).mono ?_
    rintro _ w2 ⟨la, lc, rfl, hl, hE2⟩
    have HL := Lib.hid hl
    have HE2 := Lib.hid (HE1.out.trans hE2)
    clear hl hE2 p0 p1 p2 pl
    obtain ⟨q0, q1, q2⟩ := HB.out.ext HE2.out
    dsimp only at q0 q1 q2
    have ql := World.block_lt_of_cell? _ _ q0
    dsimp only at ql
    dsimp only
    go_wp2_with fail
    refine (r23Classes_any M va ra vc rc fa fc f _ (HM.out.ext HE2.out) (HF.out.ext HE2.out)).mono ?_
    rintro _ w3 ⟨ka, kc, rfl, hk, hE3⟩
    have HSA := Lib.hid (r23Same_any (filC M f) la ka lc kc w3 (HL.out.ext hE3) hk)
    have HE3 := Lib.hid (HE2.out.trans hE3)
    clear hk hE3 q0 q1 q2 ql
    dsimp only
    go_wp2_with (first | (go_at_call 11; refine HSA.out.mono ?_; rintro _ w4 ⟨rfl, hE4⟩) | (go_at_call 8; refine (awake23_any _ (HT.out.ext (HE3.out.trans hE4))).mono ?_; rintro _ w9 ⟨rfl, hE9⟩))
    go_ret
    exact ⟨rfl, HE.out.trans ((HE3.out.trans hE4).trans hE9)⟩
end Wt

/- The law FilterClasses returns true at every input, and its arguments read behind the call as they did before. the tied card: the library's table of TrailingZeros64 lies as the program's text lays it. -/
namespace Go.Proofs.YtbeaagnahldefaaGreatDoor
open Go.ChangeShapes Go.WideShapes Go.ChangeAt Go.WideMaps Go.WideElems Go.RowKit

theorem own : ownKnob Tryz.prog.godebug = none := by kernel_rfl
theorem laidOut : laidOutB Tryz.prog = true := by kernel_rfl
theorem door_met (os : Os) (args : Array Value) : laidMetH Tryz.prog [("math/bits.deBruijn64tab", Rows.laid_math_bits_deBruijn64tab)] ((World.doorLaid Tryz.prog 400 os).forCall (fun _ _ => 0) ⟨#[], args, []⟩).memory := by
  rw [MakeChecks.laidMetH_plain _ _ _ (by kernel_rfl)]
  exact laidMet_of_run' 8 (by kernel_rfl) (by kernel_rfl)
set_option maxRecDepth 100000 in
set_option maxHeartbeats 1000000 in
theorem law_lifted (os : Os) (started : os.Started) (H : Type) (enc : TypeId × Value → H) :
    ReturnsInHanded {} Tryz.checked os 3 .any (fun w args => (Rows.filterClassesSpec.pre enc Tryz.prog Tryz.f3 Rows.filterClassesRow.domain false w args ∧ laidMetH Tryz.prog [("math/bits.deBruijn64tab", Rows.laid_math_bits_deBruijn64tab)] w) ∧ sizedMet enc Tryz.prog Tryz.f3 (OpenSpec.ofChange Rows.filterClassesSpec) false w args)
      (Rows.filterClassesSpec.post enc Tryz.prog Tryz.f3 false true false false) := by
  refine returnsInHanded_of_change_and (C := Tryz.checked) (X := fun w _ => laidMetH Tryz.prog [("math/bits.deBruijn64tab", Rows.laid_math_bits_deBruijn64tab)] w) (fun _ _ _ hh h => h.of_heap hh) own started (by kernel_rfl) Tryz.func3
    (ChangeSpec.witness_shaped (enc := enc) (C := Tryz.checked) (os := os) (X := fun w _ => laidMetH Tryz.prog [("math/bits.deBruijn64tab", Rows.laid_math_bits_deBruijn64tab)] w) false (World.doorLaid Tryz.prog 400 os) #[.agg #[.int .i64 0, .slice none 0 0, .slice none 0 0], .slice none 0 0] 8 rfl (World.shaped_of_RefB (by kernel_rfl) (by kernel_rfl)) (by kernel_rfl) (by kernel_rfl) (by kernel_rfl) (door_met os _)) ?_
  intro W base args ds gs before hval0 hW _ hsz0 hL _
  have hT := of_laid hL
  have hval : ∀ (j : Nat) t v, Tryz.f3.params[j]? = some t → args[j]? = some v → Value.okWide Tryz.prog W .any base t v := hval0
  have hsz : (DataW.weightsEach Tryz.prog (Tryz.f3.params.toList ++ Rows.filterClassesSpec.plain.varTypes Tryz.prog) (ds ++ gs)).all (· ≤ reachBytes) = true := hsz0
  have hW' := hW
  obtain ⟨p, q, hA0, hV, rfl, hfz, hnd⟩ := hW
  have hA : DataW.TrodAll enc Tryz.prog W 0 (fun _ => true) true Tryz.f3.params.toList args.toList ds p := hA0
  rw [Tryz.params3] at hA hval hsz
  obtain ⟨v0, v1, d0, d1, p0, p1, rfl, rfl, rfl, h0, h1⟩ := trodAll_two hA
  obtain ⟨rfl, rfl⟩ := trodVars_none hV
  have hv0 : Rows.filterClassesSpec.plain.varTypes Tryz.prog = [] := rfl
  rw [hv0] at hsz
  have hz : ∀ n ∈ DataW.weightsEach Tryz.prog [25, 26] [d0, d1], n ≤ reachBytes := fun n hn => by
    have := List.all_eq_true.1 hsz n (by simpa using hn)
    simpa using this
  have k0 := h0
  have k1 := h1
  obtain ⟨m, mv, mr, mvc, mrc, rfl, hmm⟩ := Wt.open_mo rfl (hval 0 25 v0 rfl rfl) h0 (fun n hn => hz n (DataW.weights_mem_each (j := 0) rfl rfl n hn))
  obtain ⟨fa, fl, fc, rfl⟩ := okWide_slice Tryz.underlying26 (hval 1 26 v1 rfl rfl)
  obtain ⟨fu, h1'⟩ := h1
  obtain ⟨fa', f, fc', he1, hff⟩ := Wt.open_rn h1' (fun n hn => hz n (DataW.weights_mem_each (j := 1) rfl rfl n hn))
  simp [Value.cells] at he1
  obtain ⟨rfl, rfl, rfl⟩ := he1
  have hl0 : ∀ y ∈ p0, y.block < W.heap.size := fun y hy => by simpa using hW'.lt y (by simp [hy])
  have hl1 : ∀ y ∈ p1, y.block < W.heap.size := fun y hy => by simpa using hW'.lt y (by simp [hy])
  refine (Wt.filterClasses_any m mv mr mvc mrc fa fc f W hT hmm hff).mono fun e W' he => ?_
  obtain ⟨rfl, hE⟩ := he
  have bel : Below W.heap.size W W' := hE
  refine ⟨_, rfl, ⟨_, _, _, [], p0 ++ (p1), [], hW', trodAll_mk1 (shut_bool Tryz.underlying4 true), trodAll_mk2 (Below.trod laidOut (by kernel_rfl) (of_decide_eq_true (by kernel_rfl)) k0 bel hl0) (Below.trod laidOut (by kernel_rfl) (of_decide_eq_true (by kernel_rfl)) k1 bel (fun y hy => hl1 y (by simpa using hy))), rfl, bel.frame _, fun h => by cases h⟩⟩
theorem filterClasses_holds : Rows.FilterClassesSaid :=
  OpenClaim.holds_of_wide 3 Tryz.f3 rfl rfl rfl rfl rfl rfl rfl ⟨rfl, rfl, rfl, rfl, rfl⟩ rfl rfl rfl rfl rfl (by kernel_rfl) Tryz.func3 (by kernel_rfl)
    (of_decide_eq_true (by kernel_rfl)) (by unfold Func.isWrapper; first | (rw [if_pos (by decide +kernel)]; kernel_rfl) | (rw [if_neg (by decide +kernel)]; exact ⟨rfl, rfl⟩))
    (fun os started H enc _ => law_lifted os started H enc)
theorem filterClasses_card_holds : Rows.FilterClassesCardSaid :=
  Claim7.holds_tied_plain_at .later [] [.data] true Rows.filterClassesCard.stood.harness false
    filterClasses_holds (fun _ h => by cases h) (by kernel_rfl) (fun _ h => by cases h) filterClasses_row_tie rfl ⟨rfl, rfl⟩ (by kernel_rfl) rfl
    (fun f fn hf hfn => by
      obtain rfl : f = 3 := Option.some.inj ((show Tryz.prog.funcNamed "witting/wittinglaw23.FilterClasses" = some 3 by kernel_rfl).symm.trans hf) |>.symm
      obtain rfl : fn = Tryz.f3 := (Option.some.inj (Tryz.func3.symm.trans hfn)).symm
      exact ⟨by kernel_rfl, fun j t ht => by
        rw [Tryz.params3] at ht
        have hm : t ∈ [25, 26] := by simpa using Array.mem_of_getElem? ht
        have hall : ([25, 26].all fun u => !Tryz.prog.wantsStandIn u) = true := by kernel_rfl
        exact (show Tryz.prog.wantsStandIn t = false by simpa using List.all_eq_true.1 hall t hm)⟩)
    (by kernel_rfl)
#print axioms filterClasses_card_holds
end Go.Proofs.YtbeaagnahldefaaGreatDoor
