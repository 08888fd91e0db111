/- The walk of TopProductLogics. -/
import Derived.Test.YtbeaagnahldefaaDoorM8Bd
import Derived.Test.YtbeaagnahldefaaDoorRows
import Derived.Test.YtbeaagnahldefaaDoorCards
import Derived.Test.YtbeaagnahldefaaDoorTie
import Derived.Test.YtbeaagnahldefaaDoorM8Az
import Derived.Test.YtbeaagnahldefaaDoorM8Ba
import Derived.ProofKit
import Derived.LaidMore
import Derived.SizedLaws
import Derived.SevenTiedAt
namespace Wt
open Go Go.RowKit Go.Maps Go.Proofs Fm

theorem frIn_check {M : Mo} {g : Int} (h : frIn M g = true) : moCheck M = 0 := by
  unfold frIn at h
  simp only [Bool.and_eq_true, beq_iff_eq] at h
  exact h.1.2
set_option maxRecDepth 20000 in
set_option maxHeartbeats 16000000 in
theorem topProductLogics_any (M : Mo) (A : Acn) (g : Int) (va ra pa qa sa : Option Addr) (vc rc pc qc sc : Nat) (w : World) (hT : Tab w) (hm : RM w va ra M) (ha : RAc w pa qa sa A) :
    Calls Tryd.prog 7 #[.agg #[.int .i64 M.worlds, .slice va M.val.length vc, .slice ra M.rel.length rc], .agg #[.slice pa A.pre.length pc, .slice qa A.post.length qc, .slice sa A.rel.length sc], .int .i64 g] w fun e w' => e = .returned (.bool true) ∧ Ext w w' := by
  have hE1 : Ext w (w.alloc (.cells #[.int .i64 M.worlds, .slice va M.val.length vc, .slice ra M.rel.length rc] 25)) := (Ext.refl w).alloc _
  have hE2 : Ext (w.alloc (.cells #[.int .i64 M.worlds, .slice va M.val.length vc, .slice ra M.rel.length rc] 25)) ((w.alloc (.cells #[.int .i64 M.worlds, .slice va M.val.length vc, .slice ra M.rel.length rc] 25)).alloc (.cells #[.slice pa A.pre.length pc, .slice qa A.post.length qc, .slice sa A.rel.length sc] 45)) := (Ext.refl _).alloc _
  have HOM := Lib.hid ((OutAt.new w (.int .i64 M.worlds) (.slice va M.val.length vc) (.slice ra M.rel.length rc) 25).ext hE2)
  have HOA := Lib.hid (OutAt.new1 w (.cells #[.int .i64 M.worlds, .slice va M.val.length vc, .slice ra M.rel.length rc] 25) (.slice pa A.pre.length pc) (.slice qa A.post.length qc) (.slice sa A.rel.length sc) 45)
  have HE := Lib.hid (hE1.trans hE2)
  have HM := Lib.hid (hm.ext (hE1.trans hE2))
  have HA := Lib.hid (ha.ext (hE1.trans hE2))
  have HT := Lib.hid (hT.ext (hE1.trans hE2))
  have hvl := hm.val.len
  have hrl := hm.rel.len
  have hpl := ha.pre.len
  clear hm ha hT hE1 hE2
  obtain ⟨m0, m1, m2, -⟩ := HOM.out
  have ml := World.block_lt_of_cell? _ _ m0
  dsimp only at ml
  go_enter Tryd.func7, Tryd.ntmps7
  go_wp2_with fail
  generalize (w.alloc (.cells #[.int .i64 M.worlds, .slice va M.val.length vc, .slice ra M.rel.length rc] 25)).alloc (.cells #[.slice pa A.pre.length pc, .slice qa A.post.length qc, .slice sa A.rel.length sc] 45) = w0 at *
  refine (r13FewN_any M va ra vc rc 8 _ HM.out).mono ?_
  rintro _ w1 ⟨b, rfl, hb, hX⟩
  have HX1 := Lib.hid hX
  have HFB := Lib.hid hb
  clear hX hb m0 m1 m2 ml
  dsimp only
  cases b
  · go_wp2_with (go_at_call 19; refine (awake14_any _ (HT.out.ext HX1.out)).mono ?_; rintro _ w9 ⟨rfl, hE9⟩)
    go_ret
    exact ⟨rfl, (HE.out.trans HX1.out).trans hE9⟩
  have hfb := HFB.out rfl
  obtain ⟨a0, a1, a2, -⟩ := HOA.out.ext HX1.out
  have al := World.block_lt_of_cell? _ _ a0
  dsimp only at al
  by_cases h4 : 4 < A.pre.length
  · have e4 : decide ((4 : Int) < (A.pre.length : Int)) = true := decide_eq_true (by omega)
    clear h4 hfb
    go_wp2_with (go_at_call 19; refine (awake14_any _ (HT.out.ext HX1.out)).mono ?_; rintro _ w9 ⟨rfl, hE9⟩)
    go_ret
    exact ⟨rfl, (HE.out.trans HX1.out).trans hE9⟩
  have e4 : decide ((4 : Int) < (A.pre.length : Int)) = false := decide_eq_false (by omega)
  have H4 := Lib.hid h4
  have HFB2 := Lib.hid hfb
  clear h4 hfb
  go_wp2_with fail
  refine (dKept_any g _).mono ?_
  rintro _ _ ⟨rfl, rfl⟩
  dsimp only
  cases hk : keptB g
  · clear hk
    go_wp2_with (go_at_call 19; refine (awake14_any _ (HT.out.ext HX1.out)).mono ?_; rintro _ w9 ⟨rfl, hE9⟩)
    go_ret
    exact ⟨rfl, (HE.out.trans HX1.out).trans hE9⟩
  have HKG := Lib.hid (keptB_iff.1 hk)
  obtain ⟨m0, m1, m2, -⟩ := HOM.out.ext HX1.out
  have ml := World.block_lt_of_cell? _ _ m0
  dsimp only at ml
  clear hk a0 a1 a2 al e4
  go_wp2_with fail
  refine (frInA_any g M va ra vc rc _ (HT.out.ext HX1.out) (HM.out.ext HX1.out)).mono ?_
  rintro _ w2 ⟨rfl, hX⟩
  have HX2 := Lib.hid (HX1.out.trans hX)
  clear hX m0 m1 m2 ml
  dsimp only
  cases hfi : frIn M g
  · clear hfi
    go_wp2_with (go_at_call 19; refine (awake14_any _ (HT.out.ext HX2.out)).mono ?_; rintro _ w9 ⟨rfl, hE9⟩)
    go_ret
    exact ⟨rfl, (HE.out.trans HX2.out).trans hE9⟩
  have HFI := Lib.hid hfi
  clear hfi
  obtain ⟨m0, m1, m2, -⟩ := HOM.out.ext HX2.out
  have ml := World.block_lt_of_cell? _ _ m0
  obtain ⟨a0, a1, a2, -⟩ := HOA.out.ext HX2.out
  have al := World.block_lt_of_cell? _ _ a0
  dsimp only at ml al
  go_wp2_with fail
  refine (acheck_any A pa qa sa pc qc sc M.rel.length M.val.length _ (HA.out.ext HX2.out)).mono ?_
  rintro _ w3 ⟨rfl, hX⟩
  have HX3 := Lib.hid (HX2.out.trans hX)
  clear hX m0 m1 m2 ml a0 a1 a2 al
  dsimp only
  by_cases hac : acErr A M.rel.length M.val.length = 0
  rotate_left
  · have hq : (acErr A M.rel.length M.val.length != 0) = true := by simpa using hac
    clear hac
    generalize acErr A M.rel.length M.val.length = er at *
    go_wp2_with (go_at_call 19; refine (awake14_any _ (HT.out.ext HX3.out)).mono ?_; rintro _ w9 ⟨rfl, hE9⟩)
    go_ret
    exact ⟨rfl, (HE.out.trans HX3.out).trans hE9⟩
  have HAC := Lib.hid hac
  rw [hac]
  clear hac
  obtain ⟨a0, a1, a2, -⟩ := HOA.out.ext HX3.out
  have al := World.block_lt_of_cell? _ _ a0
  dsimp only at al
  go_wp2_with fail
  refine (ain_any A pa qa sa pc qc sc g _ (HA.out.ext HX3.out)).mono ?_
  rintro _ w4 ⟨rfl, hX⟩
  have HX4 := Lib.hid (HX3.out.trans hX)
  clear hX a0 a1 a2 al
  dsimp only
  cases hai : acIn A g
  · clear hai
    go_wp2_with (go_at_call 19; refine (awake14_any _ (HT.out.ext HX4.out)).mono ?_; rintro _ w9 ⟨rfl, hE9⟩)
    go_ret
    exact ⟨rfl, (HE.out.trans HX4.out).trans hE9⟩
  have hmc := frIn_check HFI.out
  obtain ⟨N, ok⟩ := moCheck_ok hmc
  have hN8 : N ≤ 8 := by
    have h1 := HFB2.out
    have h2 := ok.most
    rw [ok.worlds] at h1
    omega
  have hp4 : A.pre.length ≤ 4 := by have := H4.out; omega
  have hL64 : (prK M A N).length ≤ 64 := by
    have h1 := prK_len M A N
    have h2 : N * A.pre.length ≤ 8 * 4 := Nat.mul_le_mul hN8 hp4
    omega
  have hpe : prErr M A = 0 := by unfold prErr; rw [if_neg (by simp [hmc])]; exact HAC.out
  have hnt : M.worlds.toNat = N := by rw [ok.worlds]; simp
  have hpu := pupdate_any M A va ra pa qa sa vc rc pc qc sc _ (HM.out.ext HX4.out) (HA.out.ext HX4.out) hpe (by rw [hnt]; exact hL64)
  rw [hnt] at hpu
  have HPU := Lib.hid hpu
  have HIN : Hid (prK M A N ≠ [] → frIn (prM M A (prK M A N)) g = true) := Lib.hid fun h => pr_in HKG.out ok (acErr_ok HAC.out) HFI.out hai h hL64
  clear hai hmc ok hN8 hp4 hpe hnt hpu
  generalize prK M A N = L at *
  obtain ⟨m0, m1, m2, -⟩ := HOM.out.ext HX4.out
  have ml := World.block_lt_of_cell? _ _ m0
  obtain ⟨a0, a1, a2, -⟩ := HOA.out.ext HX4.out
  have al := World.block_lt_of_cell? _ _ a0
  dsimp only at ml al
  go_wp2_with fail
  refine HPU.out.mono ?_
  rintro _ w5 ⟨hcs, hX⟩
  have HX5 := Lib.hid (HX4.out.trans hX)
  clear hX HPU m0 m1 m2 ml a0 a1 a2 al
  rcases hcs with ⟨hL0, rfl⟩ | ⟨hL0, vb, rb, la, vd, rd, lc, rfl, hm5⟩
  · have hX6 := HX5.out.alloc (.cells #[.int .i64 0, .slice none 0 0, .slice none 0 0] 25)
    have HX6 := Lib.hid hX6
    clear hX6 hL0
    dsimp only
    go_wp2_with (go_at_call 19; refine (awake14_any _ (HT.out.ext HX6.out)).mono ?_; rintro _ w9 ⟨rfl, hE9⟩)
    go_ret
    exact ⟨rfl, (HE.out.trans HX6.out).trans hE9⟩
  · have hy : Ext w5 (w5.alloc (.cells #[.int .i64 (L.length : Int), .slice vb M.val.length vd, .slice rb M.rel.length rd] 25)) := (Ext.refl _).alloc _
    have HX6 := Lib.hid (HX5.out.trans hy)
    have hfr := HIN.out hL0
    have hpr := frInA_any g (prM M A L) vb rb vd rd _ (HT.out.ext (HX5.out.trans hy)) (hm5.ext hy)
    rw [hfr] at hpr
    have hln1 : (prM M A L).val.length = M.val.length := by simp [prM]
    have hln2 : (prM M A L).rel.length = M.rel.length := by simp [prM]
    rw [hln1, hln2] at hpr
    have HPR : Hid (Calls Tryd.prog 18 #[.agg #[.int .i64 (L.length : Int), .slice vb M.val.length vd, .slice rb M.rel.length rd], .int .i64 g] (w5.alloc (.cells #[.int .i64 (L.length : Int), .slice vb M.val.length vd, .slice rb M.rel.length rd] 25)) fun e w' => e = .returned (.bool true) ∧ Ext (w5.alloc (.cells #[.int .i64 (L.length : Int), .slice vb M.val.length vd, .slice rb M.rel.length rd] 25)) w') := Lib.hid hpr
    obtain ⟨n0, n1, n2, -⟩ := OutAt.new w5 (.int .i64 (L.length : Int)) (.slice vb M.val.length vd) (.slice rb M.rel.length rd) 25
    have nl := World.block_lt_of_cell? _ _ n0
    have hq : ((L.length : Int) == (L.length : Int)) = true := by simp
    dsimp only at nl
    clear hfr hpr hln1 hln2 hL0 hm5 hy
    dsimp only
    go_wp2_with (go_at_call 18; refine HPR.out.mono ?_; rintro _ w8 ⟨rfl, hE8⟩; have HX8 := Lib.hid (HX6.out.trans hE8))
    refine (awake14_any _ (HT.out.ext HX8.out)).mono ?_
    rintro _ w9 ⟨rfl, hE9⟩
    dsimp only
    go_wp2_with fail
    go_ret
    exact ⟨rfl, (HE.out.trans HX8.out).trans hE9⟩
end Wt

/- The law TopProductLogics returns true at every input, and its arguments read behind the call as they did before. the tied card: the library's table of TrailingZeros64 lies as the program's text lays it. -/
namespace Go.Proofs.YtbeaagnahldefaaDoor
open Go.ChangeShapes Go.WideShapes Go.ChangeAt Go.WideMaps Go.WideElems Go.RowKit

theorem own : ownKnob Tryd.prog.godebug = none := by kernel_rfl
theorem laidOut : laidOutB Tryd.prog = true := by kernel_rfl
theorem door_met (os : Os) (args : Array Value) : laidMetH Tryd.prog [("math/bits.deBruijn64tab", Rows.laid_math_bits_deBruijn64tab)] ((World.doorLaid Tryd.prog 400 os).forCall (fun _ _ => 0) ⟨#[], args, []⟩).memory := by
  rw [MakeChecks.laidMetH_plain _ _ _ (by kernel_rfl)]
  exact laidMet_of_run' 8 (by kernel_rfl) (by kernel_rfl)
set_option maxRecDepth 100000 in
set_option maxHeartbeats 1000000 in
theorem law_lifted (os : Os) (started : os.Started) (H : Type) (enc : TypeId × Value → H) :
    ReturnsInHanded {} Tryd.checked os 7 .any (fun w args => (Rows.topProductLogicsSpec.pre enc Tryd.prog Tryd.f7 Rows.topProductLogicsRow.domain false w args ∧ laidMetH Tryd.prog [("math/bits.deBruijn64tab", Rows.laid_math_bits_deBruijn64tab)] w) ∧ sizedMet enc Tryd.prog Tryd.f7 (OpenSpec.ofChange Rows.topProductLogicsSpec) false w args)
      (Rows.topProductLogicsSpec.post enc Tryd.prog Tryd.f7 false true false false) := by
  refine returnsInHanded_of_change_and (C := Tryd.checked) (X := fun w _ => laidMetH Tryd.prog [("math/bits.deBruijn64tab", Rows.laid_math_bits_deBruijn64tab)] w) (fun _ _ _ hh h => h.of_heap hh) own started (by kernel_rfl) Tryd.func7
    (ChangeSpec.witness_shaped (enc := enc) (C := Tryd.checked) (os := os) (X := fun w _ => laidMetH Tryd.prog [("math/bits.deBruijn64tab", Rows.laid_math_bits_deBruijn64tab)] w) false (World.doorLaid Tryd.prog 400 os) #[.agg #[.int .i64 0, .slice none 0 0, .slice none 0 0], .agg #[.slice none 0 0, .slice none 0 0, .slice none 0 0], .int .i64 0] 8 rfl (World.shaped_of_RefB (by kernel_rfl) (by kernel_rfl)) (by kernel_rfl) (by kernel_rfl) (by kernel_rfl) (door_met os _)) ?_
  intro W base args ds gs before hval0 hW _ hsz0 hL _
  have hT := of_laid hL
  have hval : ∀ (j : Nat) t v, Tryd.f7.params[j]? = some t → args[j]? = some v → Value.okWide Tryd.prog W .any base t v := hval0
  have hsz : (DataW.weightsEach Tryd.prog (Tryd.f7.params.toList ++ Rows.topProductLogicsSpec.plain.varTypes Tryd.prog) (ds ++ gs)).all (· ≤ reachBytes) = true := hsz0
  have hW' := hW
  obtain ⟨p, q, hA0, hV, rfl, hfz, hnd⟩ := hW
  have hA : DataW.TrodAll enc Tryd.prog W 0 (fun _ => true) true Tryd.f7.params.toList args.toList ds p := hA0
  rw [Tryd.params7] at hA hval hsz
  obtain ⟨v0, v1, v2, d0, d1, d2, p0, p1, p2, rfl, rfl, rfl, h0, h1, h2⟩ := trodAll_three hA
  obtain ⟨rfl, rfl⟩ := trodVars_none hV
  have hv0 : Rows.topProductLogicsSpec.plain.varTypes Tryd.prog = [] := rfl
  rw [hv0] at hsz
  have hz : ∀ n ∈ DataW.weightsEach Tryd.prog [25, 45, 3] [d0, d1, d2], n ≤ reachBytes := fun n hn => by
    have := List.all_eq_true.1 hsz n (by simpa using hn)
    simpa using this
  have k0 := h0
  have k1 := h1
  have k2 := h2
  obtain ⟨m, mv, mr, mvc, mrc, rfl, hmm⟩ := Wt.open_mo rfl (hval 0 25 v0 rfl rfl) h0 (fun n hn => hz n (DataW.weights_mem_each (j := 0) rfl rfl n hn))
  obtain ⟨a, ap, aq, ar, apc, aqc, arc, rfl, hma⟩ := Wt.open_ac rfl (hval 1 45 v1 rfl rfl) h1 (fun n hn => hz n (DataW.weights_mem_each (j := 1) rfl rfl n hn))
  obtain ⟨g, rfl, rfl, rfl, wg⟩ := open_int Tryd.underlying3 (hval 2 3 v2 rfl rfl) h2
  have hl0 : ∀ y ∈ p0, y.block < W.heap.size := fun y hy => by simpa using hW'.lt y (by simp [hy])
  have hl1 : ∀ y ∈ p1, y.block < W.heap.size := fun y hy => by simpa using hW'.lt y (by simp [hy])
  refine (Wt.topProductLogics_any m a g mv mr ap aq ar mvc mrc apc aqc arc W hT hmm hma).mono fun e W' he => ?_
  obtain ⟨rfl, hE⟩ := he
  have bel : Below W.heap.size W W' := hE
  refine ⟨_, rfl, ⟨_, _, _, [], p0 ++ (p1 ++ ([])), [], hW', trodAll_mk1 (shut_bool Tryd.underlying4 true), trodAll_mk3 (Below.trod laidOut (by kernel_rfl) (of_decide_eq_true (by kernel_rfl)) k0 bel hl0) (Below.trod laidOut (by kernel_rfl) (of_decide_eq_true (by kernel_rfl)) k1 bel hl1) (shut_int Tryd.underlying3 wg), rfl, bel.frame _, fun h => by cases h⟩⟩
theorem topProductLogics_holds : Rows.TopProductLogicsSaid :=
  OpenClaim.holds_of_wide 7 Tryd.f7 rfl rfl rfl rfl rfl rfl rfl ⟨rfl, rfl, rfl, rfl, rfl⟩ rfl rfl rfl rfl rfl (by kernel_rfl) Tryd.func7 (by kernel_rfl)
    (of_decide_eq_true (by kernel_rfl)) (by unfold Func.isWrapper; first | (rw [if_pos (by decide +kernel)]; kernel_rfl) | (rw [if_neg (by decide +kernel)]; exact ⟨rfl, rfl⟩))
    (fun os started H enc _ => law_lifted os started H enc)
theorem topProductLogics_card_holds : Rows.TopProductLogicsCardSaid :=
  Claim7.holds_tied_plain_at .later [] [.data] true Rows.topProductLogicsCard.stood.harness false
    topProductLogics_holds (fun _ h => by cases h) (by kernel_rfl) (fun _ h => by cases h) topProductLogics_row_tie rfl ⟨rfl, rfl⟩ (by kernel_rfl) rfl
    (fun f fn hf hfn => by
      obtain rfl : f = 7 := Option.some.inj ((show Tryd.prog.funcNamed "witting/wittingtop.TopProductLogics" = some 7 by kernel_rfl).symm.trans hf) |>.symm
      obtain rfl : fn = Tryd.f7 := (Option.some.inj (Tryd.func7.symm.trans hfn)).symm
      exact ⟨by kernel_rfl, fun j t ht => by
        rw [Tryd.params7] at ht
        have hm : t ∈ [25, 45, 3] := by simpa using Array.mem_of_getElem? ht
        have hall : ([25, 45, 3].all fun u => !Tryd.prog.wantsStandIn u) = true := by kernel_rfl
        exact (show Tryd.prog.wantsStandIn t = false by simpa using List.all_eq_true.1 hall t hm)⟩)
    (by kernel_rfl)
#print axioms topProductLogics_card_holds
end Go.Proofs.YtbeaagnahldefaaDoor
