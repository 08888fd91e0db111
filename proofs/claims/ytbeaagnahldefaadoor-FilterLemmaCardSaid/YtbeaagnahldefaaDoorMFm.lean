/- The walk of FilterLemma (printed by gen_law23.py). -/
import Derived.Test.YtbeaagnahldefaaDoorM7Bc
import Derived.Test.YtbeaagnahldefaaDoorM7Be
import Derived.Test.YtbeaagnahldefaaDoorRows
import Derived.Test.YtbeaagnahldefaaDoorCards
import Derived.Test.YtbeaagnahldefaaDoorTie
import Derived.Test.YtbeaagnahldefaaDoorM7Ap
import Derived.ProofKit
import Derived.LaidMore
import Derived.SizedLaws
import Derived.SevenTiedAt
namespace Wt
open Go Go.RowKit Go.Maps Go.Proofs Fm

set_option maxRecDepth 20000 in
set_option maxHeartbeats 8000000 in
theorem filterLemma_any (M : Mo) (va ra : Option Addr) (vc rc : Nat) (fa : Option Addr) (fc : Nat) (f : List Nd) (w : World) (hT : Tab w) (hm : RM w va ra M) (hf : RN w fa f) :
    Calls Tryd.prog 3 #[.agg #[.int .i64 M.worlds, .slice va M.val.length vc, .slice ra M.rel.length rc], .slice fa f.length fc] w fun e w' => e = .returned (.bool true) ∧ Ext w w' := by
  have hE0 : Ext w (w.alloc (.cells #[.int .i64 M.worlds, .slice va M.val.length vc, .slice ra M.rel.length rc] 25)) := (Ext.refl w).alloc _
  have hbx := MoBox.new w M.worlds M.val M.rel va vc ra rc 25
  have HE := Lib.hid hE0
  have HT := Lib.hid (hT.ext hE0)
  have HM := Lib.hid (hm.ext hE0)
  have HF := Lib.hid (hf.ext hE0)
  have HB := Lib.hid hbx
  have HSW : Hid ((w.alloc (.cells #[.int .i64 M.worlds, .slice va M.val.length vc, .slice ra M.rel.length rc] 25)).heap.size = w.heap.size + 1) := Lib.hid (by simp)
  obtain ⟨m0, m1, m2⟩ := hbx
  dsimp only at m0 m1 m2
  clear hE0 hT hm hf
  go_enter Tryd.func3, Tryd.ntmps3
  go_wp2_with fail
  generalize w.alloc (.cells #[.int .i64 M.worlds, .slice va M.val.length vc, .slice ra M.rel.length rc] 25) = w0 at *
  refine (few23_any M va ra vc rc fa fc f _ HM.out).mono ?_
  rintro _ w1 ⟨b, rfl, hE1⟩
  have HE1 := Lib.hid hE1
  obtain ⟨p0, p1, p2⟩ := HB.out.ext hE1
  clear hE1 m0 m1 m2
  dsimp only at p0 p1 p2 ⊢
  cases b
  · go_wp2_with (go_at_call 9; refine (awake23_any _ (HT.out.ext HE1.out)).mono ?_; rintro _ w9 ⟨rfl, hE9⟩)
    go_ret
    exact ⟨rfl, (HE.out.trans HE1.out).trans hE9⟩
  by_cases hl : lookErr M f = 0
  rotate_left
  · have hq : (lookErr M f == lookErr M f) = true := by simp
    have hq2 : (lookErr M f != 0) = true := by simpa using hl
    have HPG : Hid (∀ W, Tab W → RM W va ra M → RN W fa f → Calls Tryd.prog 10 #[.agg #[.int .i64 M.worlds, .slice va M.val.length vc, .slice ra M.rel.length rc], .slice fa f.length fc] W fun e w' => RetR1 ⟨0, [], []⟩ 0 0 0 ([] : List Nat).length (natI ([] : List Nat)) (lookErr M f) e W w') := Lib.hid fun W hT h1 h2 => by
      have h := (smallest_any M va ra vc rc fa fc f W h1 h2).mono fun _ _ hr => hr.r1
      rw [show filSm M f = ⟨0, [], []⟩ from if_neg hl, show filN M f = [] from if_neg hl] at h
      exact h
    have HPL : Hid (∀ W, Tab W → RM W va ra M → RN W fa f → Calls Tryd.prog 11 #[.agg #[.int .i64 M.worlds, .slice va M.val.length vc, .slice ra M.rel.length rc], .slice fa f.length fc] W fun e w' => RetR1 ⟨0, [], []⟩ 0 0 0 ([] : List Nat).length (natI ([] : List Nat)) (lookErr M f) e W w') := Lib.hid fun W hT h1 h2 => by
      have h := (largest_any M va ra vc rc fa fc f W h1 h2).mono fun _ _ hr => hr.r1
      rw [show filLa M f false = ⟨0, [], []⟩ from if_neg hl, show filN M f = [] from if_neg hl] at h
      exact h
    clear hl
    generalize lookErr M f = er at *
    have pl := World.block_lt_of_cell? _ _ p0
    dsimp only at pl
    go_wp2_with fail
    clear p0 p1 p2 pl
    refine (HPG.out _ (HT.out.ext HE1.out) (HM.out.ext HE1.out) (HF.out.ext HE1.out)).mono ?_
    rintro _ w2 ⟨va1, ra1, la1, vc1, rc1, lc1, rfl, hm, hl, hE⟩
    have hA : Ext w2 (w2.alloc (.cells #[.int .i64 0, .slice va1 0 vc1, .slice ra1 0 rc1] 25)) := (Ext.refl _).alloc _
    have HM1 := Lib.hid (hm.ext hA)
    have HO1 := Lib.hid (OutAt.new w2 (.int .i64 0) (.slice va1 0 vc1) (.slice ra1 0 rc1) 25)
    have HX1 := Lib.hid (hE.trans hA)
    have HEa := Lib.hid (HE1.out.trans (hE.trans hA))
    clear hm hl hE hA
    obtain ⟨q0, q1, q2⟩ := HB.out.ext HEa.out
    dsimp only at q0 q1 q2
    have ql := World.block_lt_of_cell? _ _ q0
    dsimp only at ql ⊢
    go_wp2_with fail
    clear q0 q1 q2 ql
    refine (HPL.out _ (HT.out.ext HEa.out) (HM.out.ext HEa.out) (HF.out.ext HEa.out)).mono ?_
    rintro _ w3 ⟨va2, ra2, la2, vc2, rc2, lc2, rfl, hm, hl, hE⟩
    have hA : Ext w3 (w3.alloc (.cells #[.int .i64 0, .slice va2 0 vc2, .slice ra2 0 rc2] 25)) := (Ext.refl _).alloc _
    have HM2 := Lib.hid (hm.ext hA)
    have HO2 := Lib.hid (OutAt.new w3 (.int .i64 0) (.slice va2 0 vc2) (.slice ra2 0 rc2) 25)
    have HX2 := Lib.hid (hE.trans hA)
    have HE2 := Lib.hid (HEa.out.trans (hE.trans hA))
    clear hm hl hE hA
    obtain ⟨q0, q1, q2⟩ := HB.out.ext HE2.out
    dsimp only at q0 q1 q2
    have ql := World.block_lt_of_cell? _ _ q0
    dsimp only at ql ⊢
    go_wp2_with (go_at_call 9; refine (awake23_any _ (HT.out.ext HE2.out)).mono ?_; rintro _ w9 ⟨rfl, hE9⟩)
    go_ret
    exact ⟨rfl, HE.out.trans (HE2.out.trans hE9)⟩
  · obtain ⟨N, vk⟩ := vok_of hl
    have k1 := kp_ok hl vk (filS vk.vw)
    have k2 := kp_ok hl vk (filP vk.vw false (fun h => by cases h))
    have HK3 : Hid (M.rel.all traB = true → KpOk M (filLa M f true) f N (repL (subL M (rt f)) N).length (filN M f)) := Lib.hid fun ht => by
      have k3 := kp_ok hl vk (filP vk.vw true (fun _ a ha => TransR.of vk.vw ha (List.all_eq_true.1 ht _ (nth_mem ha))))
      rw [show filLa M f true = filM M (fFacts f) (repL (subL M (rt f)) N) (permL (subL M (rt f)) (canon (rt f)) true) by unfold filLa; rw [if_pos hl, vk.nn]]
      exact k3
    rw [show filM M (fFacts f) (repL (subL M (rt f)) N) (relS M (subL M (rt f)) N) = filSm M f by unfold filSm; rw [if_pos hl, vk.nn]] at k1
    rw [show filM M (fFacts f) (repL (subL M (rt f)) N) (permL (subL M (rt f)) (canon (rt f)) false) = filLa M f false by unfold filLa; rw [if_pos hl, vk.nn]] at k2
    obtain ⟨-, hck, -, -⟩ := lookErr_ok hl
    have HL := Lib.hid hl
    generalize (repL (subL M (rt f)) N).length = K at *
    have hln : (filN M f).length = N := k1.cl
    have HPG : Hid (∀ W, Tab W → RM W va ra M → RN W fa f → Calls Tryd.prog 10 #[.agg #[.int .i64 M.worlds, .slice va M.val.length vc, .slice ra M.rel.length rc], .slice fa f.length fc] W fun e w' => RetR1 (filSm M f) (filSm M f).worlds (filSm M f).val.length (filSm M f).rel.length N (natI (filN M f)) 0 e W w') := Lib.hid fun W hT h1 h2 => by
      have h := (smallest_any M va ra vc rc fa fc f W h1 h2).mono fun _ _ hr => hr.r1
      rw [hl, natI_ln, hln] at h
      exact h
    have HPL : Hid (∀ W, Tab W → RM W va ra M → RN W fa f → Calls Tryd.prog 11 #[.agg #[.int .i64 M.worlds, .slice va M.val.length vc, .slice ra M.rel.length rc], .slice fa f.length fc] W fun e w' => RetR1 (filLa M f false) (filLa M f false).worlds (filLa M f false).val.length (filLa M f false).rel.length N (natI (filN M f)) 0 e W w') := Lib.hid fun W hT h1 h2 => by
      have h := (largest_any M va ra vc rc fa fc f W h1 h2).mono fun _ _ hr => hr.r1
      rw [hl, natI_ln, hln] at h
      exact h
    have HKA : ∀ (x : Mo), KpOk M x f N K (filN M f) → Hid (∀ W vb rb lb vd rd ld, RM W va ra M → RM W vb rb x → RI W lb (natI (filN M f)) → RN W fa f → Calls Tryd.prog 12 #[.agg #[.int .i64 M.worlds, .slice va M.val.length vc, .slice ra M.rel.length rc], .agg #[.int .i64 x.worlds, .slice vb x.val.length vd, .slice rb x.rel.length rd], .slice lb N ld, .slice fa f.length fc] W fun e w' => e = .returned (.bool true) ∧ Ext W w') := fun x hx => Lib.hid fun W vb rb lb vd rd ld h1 h2 h3 h4 =>
      keeps_any M x f N K (filN M f) va ra vb rb lb fa vc rc vd rd ld fc W hx hck h1 h2 h3 h4
    have HQ1 := HKA _ k1
    have HQ2 := HKA _ k2
    have HHK := Lib.hid HKA
    have HLN := Lib.hid hln
    clear k1 k2 hl vk hck HKA hln
    generalize hA1 : filSm M f = A1 at *
    generalize hA2 : filLa M f false = A2 at *
    clear hA1 hA2
    have pl := World.block_lt_of_cell? _ _ p0
    dsimp only at pl
    go_wp2_with fail
    clear p0 p1 p2 pl
    refine (HPG.out _ (HT.out.ext HE1.out) (HM.out.ext HE1.out) (HF.out.ext HE1.out)).mono ?_
    rintro _ w2 ⟨va1, ra1, la1, vc1, rc1, lc1, rfl, hm, hl, hE⟩
    have hA : Ext w2 (w2.alloc (.cells #[.int .i64 A1.worlds, .slice va1 A1.val.length vc1, .slice ra1 A1.rel.length rc1] 25)) := (Ext.refl _).alloc _
    have HM1 := Lib.hid (hm.ext hA)
    have HO1 := Lib.hid (OutAt.new w2 (.int .i64 A1.worlds) (.slice va1 A1.val.length vc1) (.slice ra1 A1.rel.length rc1) 25)
    have HX1 := Lib.hid (hE.trans hA)
    have HEa := Lib.hid (HE1.out.trans (hE.trans hA))
    have HI1 := Lib.hid (hl.ext hA)
    clear hm hl hE hA
    obtain ⟨q0, q1, q2⟩ := HB.out.ext HEa.out
    dsimp only at q0 q1 q2
    have ql := World.block_lt_of_cell? _ _ q0
    dsimp only at ql ⊢
    go_wp2_with fail
    clear q0 q1 q2 ql
    refine (HPL.out _ (HT.out.ext HEa.out) (HM.out.ext HEa.out) (HF.out.ext HEa.out)).mono ?_
    rintro _ w3 ⟨va2, ra2, la2, vc2, rc2, lc2, rfl, hm, hl, hE⟩
    have hA : Ext w3 (w3.alloc (.cells #[.int .i64 A2.worlds, .slice va2 A2.val.length vc2, .slice ra2 A2.rel.length rc2] 25)) := (Ext.refl _).alloc _
    have HM2 := Lib.hid (hm.ext hA)
    have HO2 := Lib.hid (OutAt.new w3 (.int .i64 A2.worlds) (.slice va2 A2.val.length vc2) (.slice ra2 A2.rel.length rc2) 25)
    have HX2 := Lib.hid (hE.trans hA)
    have HE2 := Lib.hid (HEa.out.trans (hE.trans hA))
    have HI2 := Lib.hid (hl.ext hA)
    clear hm hl hE hA
    obtain ⟨q0, q1, q2⟩ := HB.out.ext HE2.out
    dsimp only at q0 q1 q2
    have ql := World.block_lt_of_cell? _ _ q0
    dsimp only at ql ⊢
    obtain ⟨a0, a1, a2, -⟩ := HO1.out.ext HX2.out
    have al := World.block_lt_of_cell? _ _ a0
    dsimp only at al
    go_wp2_with fail
    refine (HQ1.out _ _ _ _ _ _ _ (HM.out.ext HE2.out) (HM1.out.ext HX2.out) (HI1.out.ext HX2.out) (HF.out.ext HE2.out)).mono ?_
    rintro _ w4 ⟨rfl, hE4⟩
    obtain ⟨c0, c1, c2⟩ := HB.out.ext (HE2.out.trans hE4)
    obtain ⟨d0, d1, d2, -⟩ := HO2.out.ext hE4
    have cl := World.block_lt_of_cell? _ _ c0
    have dl := World.block_lt_of_cell? _ _ d0
    dsimp only at c0 c1 c2 cl dl ⊢
    go_wp2_with fail
    clear q0 q1 q2 ql a0 a1 a2 al c0 c1 c2 d0 d1 d2 cl dl
    refine (HQ2.out _ _ _ _ _ _ _ (HM.out.ext (HE2.out.trans hE4)) (HM2.out.ext hE4) (HI2.out.ext hE4) (HF.out.ext (HE2.out.trans hE4))).mono ?_
    rintro _ w5 ⟨rfl, hE5⟩
    have HX5 := Lib.hid (hE4.trans hE5)
    have HE5 := Lib.hid (HE2.out.trans (hE4.trans hE5))
    clear hE4 hE5
    obtain ⟨c0, c1, c2⟩ := HB.out.ext HE5.out
    have cl := World.block_lt_of_cell? _ _ c0
    dsimp only at c0 c1 c2 cl ⊢
    cases ht : M.rel.all traB
    · obtain ⟨t1, t2, t3⟩ := tr_no HL.out ht
      have HPT : Hid (∀ W, Tab W → RM W va ra M → RN W fa f → Calls Tryd.prog 13 #[.agg #[.int .i64 M.worlds, .slice va M.val.length vc, .slice ra M.rel.length rc], .slice fa f.length fc] W fun e w' => RetR1 ⟨0, [], []⟩ 0 0 0 ([] : List Nat).length (natI ([] : List Nat)) 12 e W w') := Lib.hid fun W hT h1 h2 => by
        have h := (ftrans_any M va ra vc rc fa fc f W hT h1 h2).mono fun _ _ hr => hr.r1
        rw [t1, t2, t3] at h
        exact h
      clear t1 t2 t3 ht
      go_wp2_with fail
      clear c0 c1 c2 cl
      refine (HPT.out _ (HT.out.ext HE5.out) (HM.out.ext HE5.out) (HF.out.ext HE5.out)).mono ?_
      rintro _ w6 ⟨va3, ra3, la3, vc3, rc3, lc3, rfl, hm, hl, hE⟩
      have hA : Ext w6 (w6.alloc (.cells #[.int .i64 0, .slice va3 0 vc3, .slice ra3 0 rc3] 25)) := (Ext.refl _).alloc _
      have HM3 := Lib.hid (hm.ext hA)
      have HO3 := Lib.hid (OutAt.new w6 (.int .i64 0) (.slice va3 0 vc3) (.slice ra3 0 rc3) 25)
      have HX3 := Lib.hid (hE.trans hA)
      have HE3 := Lib.hid (HE5.out.trans (hE.trans hA))
      clear hm hl hE hA
      obtain ⟨q0, q1, q2⟩ := HB.out.ext HE3.out
      dsimp only at q0 q1 q2
      have ql := World.block_lt_of_cell? _ _ q0
      dsimp only at ql ⊢
      go_wp2_with (go_at_call 9; refine (awake23_any _ (HT.out.ext HE3.out)).mono ?_; rintro _ w9 ⟨rfl, hE9⟩)
      go_ret
      exact ⟨rfl, HE.out.trans (HE3.out.trans hE9)⟩
    · obtain ⟨t1, t2, t3⟩ := tr_yes HL.out ht
      have HPT : Hid (∀ W, Tab W → RM W va ra M → RN W fa f → Calls Tryd.prog 13 #[.agg #[.int .i64 M.worlds, .slice va M.val.length vc, .slice ra M.rel.length rc], .slice fa f.length fc] W fun e w' => RetR1 (filLa M f true) (filLa M f true).worlds (filLa M f true).val.length (filLa M f true).rel.length N (natI (filN M f)) 0 e W w') := Lib.hid fun W hT h1 h2 => by
        have h := (ftrans_any M va ra vc rc fa fc f W hT h1 h2).mono fun _ _ hr => hr.r1
        rw [t1, t2, t3, natI_ln, HLN.out] at h
        exact h
      have HQ3 := HHK.out _ (HK3.out ht)
      clear t1 t2 t3 ht HHK HK3
      generalize filLa M f true = A3 at *
      go_wp2_with fail
      clear c0 c1 c2 cl
      refine (HPT.out _ (HT.out.ext HE5.out) (HM.out.ext HE5.out) (HF.out.ext HE5.out)).mono ?_
      rintro _ w6 ⟨va3, ra3, la3, vc3, rc3, lc3, rfl, hm, hl, hE⟩
      have hA : Ext w6 (w6.alloc (.cells #[.int .i64 A3.worlds, .slice va3 A3.val.length vc3, .slice ra3 A3.rel.length rc3] 25)) := (Ext.refl _).alloc _
      have HM3 := Lib.hid (hm.ext hA)
      have HO3 := Lib.hid (OutAt.new w6 (.int .i64 A3.worlds) (.slice va3 A3.val.length vc3) (.slice ra3 A3.rel.length rc3) 25)
      have HX3 := Lib.hid (hE.trans hA)
      have HE3 := Lib.hid (HE5.out.trans (hE.trans hA))
      have HI3 := Lib.hid (hl.ext hA)
      clear hm hl hE hA
      obtain ⟨q0, q1, q2⟩ := HB.out.ext HE3.out
      dsimp only at q0 q1 q2
      have ql := World.block_lt_of_cell? _ _ q0
      dsimp only at ql ⊢
      go_wp2_with fail
      refine (HQ3.out _ _ _ _ _ _ _ (HM.out.ext HE3.out) HM3.out HI3.out (HF.out.ext HE3.out)).mono ?_
      rintro _ w7 ⟨rfl, hE7⟩
      dsimp only
      go_wp2_with (go_at_call 9; refine (awake23_any _ (HT.out.ext (HE3.out.trans hE7))).mono ?_; rintro _ w9 ⟨rfl, hE9⟩)
      go_ret
      exact ⟨rfl, HE.out.trans ((HE3.out.trans hE7).trans hE9)⟩
end Wt

/- The law FilterLemma returns true at every input, and its arguments read behind the call as they did before. the tied card: the library's table of TrailingZeros64 lies as the program's text lays it. -/
namespace Go.Proofs.YtbeaagnahldefaaDoor
open Go.ChangeShapes Go.WideShapes Go.ChangeAt Go.WideMaps Go.WideElems Go.RowKit

theorem own : ownKnob Tryd.prog.godebug = none := by kernel_rfl
theorem laidOut : laidOutB Tryd.prog = true := by kernel_rfl
theorem door_met (os : Os) (args : Array Value) : laidMetH Tryd.prog [("math/bits.deBruijn64tab", Rows.laid_math_bits_deBruijn64tab)] ((World.doorLaid Tryd.prog 400 os).forCall (fun _ _ => 0) ⟨#[], args, []⟩).memory := by
  rw [MakeChecks.laidMetH_plain _ _ _ (by kernel_rfl)]
  exact laidMet_of_run' 8 (by kernel_rfl) (by kernel_rfl)
set_option maxRecDepth 100000 in
set_option maxHeartbeats 1000000 in
theorem law_lifted (os : Os) (started : os.Started) (H : Type) (enc : TypeId × Value → H) :
    ReturnsInHanded {} Tryd.checked os 3 .any (fun w args => (Rows.filterLemmaSpec.pre enc Tryd.prog Tryd.f3 Rows.filterLemmaRow.domain false w args ∧ laidMetH Tryd.prog [("math/bits.deBruijn64tab", Rows.laid_math_bits_deBruijn64tab)] w) ∧ sizedMet enc Tryd.prog Tryd.f3 (OpenSpec.ofChange Rows.filterLemmaSpec) false w args)
      (Rows.filterLemmaSpec.post enc Tryd.prog Tryd.f3 false true false false) := by
  refine returnsInHanded_of_change_and (C := Tryd.checked) (X := fun w _ => laidMetH Tryd.prog [("math/bits.deBruijn64tab", Rows.laid_math_bits_deBruijn64tab)] w) (fun _ _ _ hh h => h.of_heap hh) own started (by kernel_rfl) Tryd.func3
    (ChangeSpec.witness_shaped (enc := enc) (C := Tryd.checked) (os := os) (X := fun w _ => laidMetH Tryd.prog [("math/bits.deBruijn64tab", Rows.laid_math_bits_deBruijn64tab)] w) false (World.doorLaid Tryd.prog 400 os) #[.agg #[.int .i64 0, .slice none 0 0, .slice none 0 0], .slice none 0 0] 8 rfl (World.shaped_of_RefB (by kernel_rfl) (by kernel_rfl)) (by kernel_rfl) (by kernel_rfl) (by kernel_rfl) (door_met os _)) ?_
  intro W base args ds gs before hval0 hW _ hsz0 hL _
  have hT := of_laid hL
  have hval : ∀ (j : Nat) t v, Tryd.f3.params[j]? = some t → args[j]? = some v → Value.okWide Tryd.prog W .any base t v := hval0
  have hsz : (DataW.weightsEach Tryd.prog (Tryd.f3.params.toList ++ Rows.filterLemmaSpec.plain.varTypes Tryd.prog) (ds ++ gs)).all (· ≤ reachBytes) = true := hsz0
  have hW' := hW
  obtain ⟨p, q, hA0, hV, rfl, hfz, hnd⟩ := hW
  have hA : DataW.TrodAll enc Tryd.prog W 0 (fun _ => true) true Tryd.f3.params.toList args.toList ds p := hA0
  rw [Tryd.params3] at hA hval hsz
  obtain ⟨v0, v1, d0, d1, p0, p1, rfl, rfl, rfl, h0, h1⟩ := trodAll_two hA
  obtain ⟨rfl, rfl⟩ := trodVars_none hV
  have hv0 : Rows.filterLemmaSpec.plain.varTypes Tryd.prog = [] := rfl
  rw [hv0] at hsz
  have hz : ∀ n ∈ DataW.weightsEach Tryd.prog [25, 26] [d0, d1], n ≤ reachBytes := fun n hn => by
    have := List.all_eq_true.1 hsz n (by simpa using hn)
    simpa using this
  have k0 := h0
  have k1 := h1
  obtain ⟨m, mv, mr, mvc, mrc, rfl, hmm⟩ := Wt.open_mo rfl (hval 0 25 v0 rfl rfl) h0 (fun n hn => hz n (DataW.weights_mem_each (j := 0) rfl rfl n hn))
  obtain ⟨fa, fl, fc, rfl⟩ := okWide_slice Tryd.underlying26 (hval 1 26 v1 rfl rfl)
  obtain ⟨fu, h1'⟩ := h1
  obtain ⟨fa', f, fc', he1, hff⟩ := Wt.open_rn h1' (fun n hn => hz n (DataW.weights_mem_each (j := 1) rfl rfl n hn))
  simp [Value.cells] at he1
  obtain ⟨rfl, rfl, rfl⟩ := he1
  have hl0 : ∀ y ∈ p0, y.block < W.heap.size := fun y hy => by simpa using hW'.lt y (by simp [hy])
  have hl1 : ∀ y ∈ p1, y.block < W.heap.size := fun y hy => by simpa using hW'.lt y (by simp [hy])
  refine (Wt.filterLemma_any m mv mr mvc mrc fa fc f W hT hmm hff).mono fun e W' he => ?_
  obtain ⟨rfl, hE⟩ := he
  have bel : Below W.heap.size W W' := hE
  refine ⟨_, rfl, ⟨_, _, _, [], p0 ++ (p1), [], hW', trodAll_mk1 (shut_bool Tryd.underlying4 true), trodAll_mk2 (Below.trod laidOut (by kernel_rfl) (of_decide_eq_true (by kernel_rfl)) k0 bel hl0) (Below.trod laidOut (by kernel_rfl) (of_decide_eq_true (by kernel_rfl)) k1 bel (fun y hy => hl1 y (by simpa using hy))), rfl, bel.frame _, fun h => by cases h⟩⟩
theorem filterLemma_holds : Rows.FilterLemmaSaid :=
  OpenClaim.holds_of_wide 3 Tryd.f3 rfl rfl rfl rfl rfl rfl rfl ⟨rfl, rfl, rfl, rfl, rfl⟩ rfl rfl rfl rfl rfl (by kernel_rfl) Tryd.func3 (by kernel_rfl)
    (of_decide_eq_true (by kernel_rfl)) (by unfold Func.isWrapper; first | (rw [if_pos (by decide +kernel)]; kernel_rfl) | (rw [if_neg (by decide +kernel)]; exact ⟨rfl, rfl⟩))
    (fun os started H enc _ => law_lifted os started H enc)
theorem filterLemma_card_holds : Rows.FilterLemmaCardSaid :=
  Claim7.holds_tied_plain_at .later [] [.data] true Rows.filterLemmaCard.stood.harness false
    filterLemma_holds (fun _ h => by cases h) (by kernel_rfl) (fun _ h => by cases h) filterLemma_row_tie rfl ⟨rfl, rfl⟩ (by kernel_rfl) rfl
    (fun f fn hf hfn => by
      obtain rfl : f = 3 := Option.some.inj ((show Tryd.prog.funcNamed "witting/wittinglaw23.FilterLemma" = some 3 by kernel_rfl).symm.trans hf) |>.symm
      obtain rfl : fn = Tryd.f3 := (Option.some.inj (Tryd.func3.symm.trans hfn)).symm
      exact ⟨by kernel_rfl, fun j t ht => by
        rw [Tryd.params3] at ht
        have hm : t ∈ [25, 26] := by simpa using Array.mem_of_getElem? ht
        have hall : ([25, 26].all fun u => !Tryd.prog.wantsStandIn u) = true := by kernel_rfl
        exact (show Tryd.prog.wantsStandIn t = false by simpa using List.all_eq_true.1 hall t hm)⟩)
    (by kernel_rfl)
#print axioms filterLemma_card_holds
end Go.Proofs.YtbeaagnahldefaaDoor
