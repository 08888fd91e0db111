/- The walk of FilterFrames (printed by gen_law23.py). -/
import Derived.Test.YtbeaagnahldefaaDoorM7Bc
import Derived.Test.YtbeaagnahldefaaDoorM7Be
import Derived.Test.YtbeaagnahldefaaDoorRows
import Derived.Test.YtbeaagnahldefaaDoorCards
import Derived.Test.YtbeaagnahldefaaDoorTie
import Derived.Test.YtbeaagnahldefaaDoorM7Ap
import Derived.ProofKit
import Derived.LaidMore
import Derived.SizedLaws
import Derived.SevenTiedAt
namespace Wt
open Go Go.RowKit Go.Maps Go.Proofs Fm

set_option maxRecDepth 20000 in
set_option maxHeartbeats 8000000 in
theorem filterFrames_any (M : Mo) (va ra : Option Addr) (vc rc : Nat) (fa : Option Addr) (fc : Nat) (f : List Nd) (w : World) (hT : Tab w) (hm : RM w va ra M) (hf : RN w fa f) :
    Calls Tryd.prog 4 #[.agg #[.int .i64 M.worlds, .slice va M.val.length vc, .slice ra M.rel.length rc], .slice fa f.length fc] w fun e w' => e = .returned (.bool true) ∧ Ext w w' := by
  have hE0 : Ext w (w.alloc (.cells #[.int .i64 M.worlds, .slice va M.val.length vc, .slice ra M.rel.length rc] 25)) := (Ext.refl w).alloc _
  have hbx := MoBox.new w M.worlds M.val M.rel va vc ra rc 25
  have HE := Lib.hid hE0
  have HT := Lib.hid (hT.ext hE0)
  have HM := Lib.hid (hm.ext hE0)
  have HF := Lib.hid (hf.ext hE0)
  have HB := Lib.hid hbx
  have HSW : Hid ((w.alloc (.cells #[.int .i64 M.worlds, .slice va M.val.length vc, .slice ra M.rel.length rc] 25)).heap.size = w.heap.size + 1) := Lib.hid (by simp)
  obtain ⟨m0, m1, m2⟩ := hbx
  dsimp only at m0 m1 m2
  clear hE0 hT hm hf
  go_enter Tryd.func4, Tryd.ntmps4
  go_wp2_with fail
  generalize w.alloc (.cells #[.int .i64 M.worlds, .slice va M.val.length vc, .slice ra M.rel.length rc] 25) = w0 at *
  refine (few23_any M va ra vc rc fa fc f _ HM.out).mono ?_
  rintro _ w1 ⟨b, rfl, hE1⟩
  have HE1 := Lib.hid hE1
  obtain ⟨p0, p1, p2⟩ := HB.out.ext hE1
  clear hE1 m0 m1 m2
  dsimp only at p0 p1 p2 ⊢
  cases b
  · go_wp2_with (go_at_call 9; refine (awake23_any _ (HT.out.ext HE1.out)).mono ?_; rintro _ w9 ⟨rfl, hE9⟩)
    go_ret
    exact ⟨rfl, (HE.out.trans HE1.out).trans hE9⟩
  by_cases hl : lookErr M f = 0
  rotate_left
  · have hq : (lookErr M f == lookErr M f) = true := by simp
    have hq2 : (lookErr M f != 0) = true := by simpa using hl
    have HPG : Hid (∀ W, Tab W → RM W va ra M → RN W fa f → Calls Tryd.prog 10 #[.agg #[.int .i64 M.worlds, .slice va M.val.length vc, .slice ra M.rel.length rc], .slice fa f.length fc] W fun e w' => RetR1 ⟨0, [], []⟩ 0 0 0 ([] : List Nat).length (natI ([] : List Nat)) (lookErr M f) e W w') := Lib.hid fun W hT h1 h2 => by
      have h := (smallest_any M va ra vc rc fa fc f W h1 h2).mono fun _ _ hr => hr.r1
      rw [show filSm M f = ⟨0, [], []⟩ from if_neg hl, show filN M f = [] from if_neg hl] at h
      exact h
    have HPL : Hid (∀ W, Tab W → RM W va ra M → RN W fa f → Calls Tryd.prog 11 #[.agg #[.int .i64 M.worlds, .slice va M.val.length vc, .slice ra M.rel.length rc], .slice fa f.length fc] W fun e w' => RetR1 ⟨0, [], []⟩ 0 0 0 ([] : List Nat).length (natI ([] : List Nat)) (lookErr M f) e W w') := Lib.hid fun W hT h1 h2 => by
      have h := (largest_any M va ra vc rc fa fc f W h1 h2).mono fun _ _ hr => hr.r1
      rw [show filLa M f false = ⟨0, [], []⟩ from if_neg hl, show filN M f = [] from if_neg hl] at h
      exact h
    clear hl
    generalize lookErr M f = er at *
    have pl := World.block_lt_of_cell? _ _ p0
    dsimp only at pl
    go_wp2_with fail
    clear p0 p1 p2 pl
    refine (HPG.out _ (HT.out.ext HE1.out) (HM.out.ext HE1.out) (HF.out.ext HE1.out)).mono ?_
    rintro _ w2 ⟨va1, ra1, la1, vc1, rc1, lc1, rfl, hm, hl, hE⟩
    have hA : Ext w2 (w2.alloc (.cells #[.int .i64 0, .slice va1 0 vc1, .slice ra1 0 rc1] 25)) := (Ext.refl _).alloc _
    have HM1 := Lib.hid (hm.ext hA)
    have HO1 := Lib.hid (OutAt.new w2 (.int .i64 0) (.slice va1 0 vc1) (.slice ra1 0 rc1) 25)
    have HX1 := Lib.hid (hE.trans hA)
    have HEa := Lib.hid (HE1.out.trans (hE.trans hA))
    clear hm hl hE hA
    obtain ⟨q0, q1, q2⟩ := HB.out.ext HEa.out
    dsimp only at q0 q1 q2
    have ql := World.block_lt_of_cell? _ _ q0
    dsimp only at ql ⊢
    go_wp2_with fail
    clear q0 q1 q2 ql
    refine (HPL.out _ (HT.out.ext HEa.out) (HM.out.ext HEa.out) (HF.out.ext HEa.out)).mono ?_
    rintro _ w3 ⟨va2, ra2, la2, vc2, rc2, lc2, rfl, hm, hl, hE⟩
    have hA : Ext w3 (w3.alloc (.cells #[.int .i64 0, .slice va2 0 vc2, .slice ra2 0 rc2] 25)) := (Ext.refl _).alloc _
    have HM2 := Lib.hid (hm.ext hA)
    have HO2 := Lib.hid (OutAt.new w3 (.int .i64 0) (.slice va2 0 vc2) (.slice ra2 0 rc2) 25)
    have HX2 := Lib.hid (hE.trans hA)
    have HE2 := Lib.hid (HEa.out.trans (hE.trans hA))
    clear hm hl hE hA
    obtain ⟨q0, q1, q2⟩ := HB.out.ext HE2.out
    dsimp only at q0 q1 q2
    have ql := World.block_lt_of_cell? _ _ q0
    dsimp only at ql ⊢
    go_wp2_with (go_at_call 9; refine (awake23_any _ (HT.out.ext HE2.out)).mono ?_; rintro _ w9 ⟨rfl, hE9⟩)
    go_ret
    exact ⟨rfl, HE.out.trans (HE2.out.trans hE9)⟩
  · obtain ⟨K, n, V, RA, RB, fr⟩ := fr_ok hl
    obtain ⟨ll, hll⟩ : ∃ ll, filN M f = ll := ⟨_, rfl⟩
    have HFR := Lib.hid fr
    have hr4 := fr.r4
    have hml := fr.ml
    rw [hml] at p2
    have HML := Lib.hid hml
    have HPG : Hid (∀ W, Tab W → RM W va ra M → RN W fa f → Calls Tryd.prog 10 #[.agg #[.int .i64 M.worlds, .slice va M.val.length vc, .slice ra M.rel.length rc], .slice fa f.length fc] W fun e w' => RetR1 ⟨K, V, RA⟩ (K : Int) V.length n ll.length (natI ll) 0 e W w') := Lib.hid fun W hT h1 h2 => by
      have h := (smallest_any M va ra vc rc fa fc f W h1 h2).mono fun _ _ hr => hr.r1
      rw [fr.sm, hl, hll, natI_ln] at h
      have e1 := fr.la1
      dsimp only at h
      rw [e1] at h
      exact h
    have HPL : Hid (∀ W, Tab W → RM W va ra M → RN W fa f → Calls Tryd.prog 11 #[.agg #[.int .i64 M.worlds, .slice va M.val.length vc, .slice ra M.rel.length rc], .slice fa f.length fc] W fun e w' => RetR1 ⟨K, V, RB⟩ (K : Int) V.length n ll.length (natI ll) 0 e W w') := Lib.hid fun W hT h1 h2 => by
      have h := (largest_any M va ra vc rc fa fc f W h1 h2).mono fun _ _ hr => hr.r1
      rw [fr.la, hl, hll, natI_ln] at h
      have e1 := fr.lb1
      dsimp only at h
      rw [e1] at h
      exact h
    have hqn : ((n : Int) != (n : Int)) = false := by simp
    rw [hml] at HPG HPL ⊢
    clear fr hl hll hml
    have pl := World.block_lt_of_cell? _ _ p0
    dsimp only at pl
    go_wp2_with fail
    clear p0 p1 p2 pl
    refine (HPG.out _ (HT.out.ext HE1.out) (HM.out.ext HE1.out) (HF.out.ext HE1.out)).mono ?_
    rintro _ w2 ⟨va1, ra1, la1, vc1, rc1, lc1, rfl, hm, hl, hE⟩
    have hA : Ext w2 (w2.alloc (.cells #[.int .i64 (K : Int), .slice va1 V.length vc1, .slice ra1 n rc1] 25)) := (Ext.refl _).alloc _
    have HM1 := Lib.hid (hm.ext hA)
    have HO1 := Lib.hid (OutAt.new w2 (.int .i64 (K : Int)) (.slice va1 V.length vc1) (.slice ra1 n rc1) 25)
    have HX1 := Lib.hid (hE.trans hA)
    have HEa := Lib.hid (HE1.out.trans (hE.trans hA))
    clear hm hl hE hA
    obtain ⟨q0, q1, q2⟩ := HB.out.ext HEa.out
    dsimp only at q0 q1 q2
    rw [HML.out] at q2
    have ql := World.block_lt_of_cell? _ _ q0
    dsimp only at ql ⊢
    go_wp2_with fail
    clear q0 q1 q2 ql
    refine (HPL.out _ (HT.out.ext HEa.out) (HM.out.ext HEa.out) (HF.out.ext HEa.out)).mono ?_
    rintro _ w3 ⟨va2, ra2, la2, vc2, rc2, lc2, rfl, hm, hl, hE⟩
    have hA : Ext w3 (w3.alloc (.cells #[.int .i64 (K : Int), .slice va2 V.length vc2, .slice ra2 n rc2] 25)) := (Ext.refl _).alloc _
    have HM2 := Lib.hid (hm.ext hA)
    have HO2 := Lib.hid (OutAt.new w3 (.int .i64 (K : Int)) (.slice va2 V.length vc2) (.slice ra2 n rc2) 25)
    have HX2 := Lib.hid (hE.trans hA)
    have HE2 := Lib.hid (HEa.out.trans (hE.trans hA))
    clear hm hl hE hA
    obtain ⟨q0, q1, q2⟩ := HB.out.ext HE2.out
    dsimp only at q0 q1 q2
    rw [HML.out] at q2
    have ql := World.block_lt_of_cell? _ _ q0
    dsimp only at ql ⊢
    obtain ⟨a0, a1, a2, -⟩ := HO1.out.ext HX2.out
    obtain ⟨b0, b1, b2, -⟩ := HO2.out
    have al := World.block_lt_of_cell? _ _ a0
    have bl := World.block_lt_of_cell? _ _ b0
    dsimp only at al bl
    go_wp2_with fail
    obtain ⟨w4, hw4⟩ : ∃ w4, w3.alloc (.cells #[.int .i64 (K : Int), .slice va2 V.length vc2, .slice ra2 n rc2] 25) = w4 := ⟨_, rfl⟩
    rw [hw4]
    have HW4 := Lib.hid hw4
    clear q0 q1 q2 ql a0 a1 a2 b0 b1 b2 al bl hw4
    rw [HW4.out] at HX2 HE2 HM2 HO2
    clear HW4
    go_loopw [11] (fun i wr => ∃ k : Nat, k ≤ n ∧ i = .int .i64 (k : Int) ∧ Hid (Ext w4 wr)) (fun i _ => n - (RowKit.intOf i).toNat)
    case atStart => exact ⟨0, Nat.zero_le _, rfl, Lib.hid (Ext.refl _)⟩
    case round =>
      obtain ⟨k, hk, rfl, HX⟩ := hrel
      obtain ⟨q0, q1, q2⟩ := HB.out.ext (HE2.out.trans HX.out)
      dsimp only at q0 q1 q2
      rw [HML.out] at q2
      have ql := World.block_lt_of_cell? _ _ q0
      dsimp only at ql
      by_cases hkn : k < n
      · go_wp2_with fail
        clear q0 q1 q2 ql
        go_loopw [12] (fun i wz => ∃ p : Nat, 1 ≤ p ∧ p ≤ 3 ∧ i = .int .i64 (p : Int) ∧ Hid (Ext wr wz)) (fun i _ => 3 - (RowKit.intOf i).toNat)
        case atStart => exact ⟨1, Nat.le_refl _, by omega, rfl, Lib.hid (Ext.refl _)⟩
        case round =>
          rename World => wz
          obtain ⟨p, hp1, hp3, rfl, HZ⟩ := hrel
          have HXZ := Lib.hid (HX.out.trans HZ.out)
          obtain ⟨q0, q1, q2⟩ := HB.out.ext (HE2.out.trans HXZ.out)
          obtain ⟨a0, a1, a2, -⟩ := HO1.out.ext (HX2.out.trans HXZ.out)
          dsimp only at q0 q1 q2
          rw [HML.out] at q2
          have ql := World.block_lt_of_cell? _ _ q0
          have al := World.block_lt_of_cell? _ _ a0
          dsimp only at ql al
          obtain ⟨g1, o1, x1, y1, hra1, hg1, hc1, hr1⟩ := (HM.out.rel.ext (HE2.out.trans HXZ.out)).get (k := k) (by rw [HML.out]; exact hkn)
          have HAr := Lib.hid (HM1.out.rel.ext (HX2.out.trans HXZ.out))
          have HBr := Lib.hid (HM2.out.rel.ext HXZ.out)
          have HG1 := Lib.hid hc1
          have HRR := Lib.hid hr1
          by_cases hp2 : p ≤ 2
          · have hpI : decide ((p : Int) ≤ 2) = true := decide_eq_true (by omega)
            have HKP := Lib.hid (HFR.out.kp k (p : Int) hkn (by omega))
            have HH1 := Lib.hid (hasP_any p hp1 hp3 (nth M.rel k) x1 y1 wz (HT.out.ext (HE2.out.trans HXZ.out)) hr1)
            clear hr1
            subst hra1
            go_wp2_with fail
            refine HH1.out.mono ?_
            rintro _ w5 ⟨rfl, hE5⟩
            have HE5 := Lib.hid (HZ.out.trans hE5)
            have HY5 := Lib.hid hE5
            clear q0 q1 q2 ql a0 a1 a2 al hc1 hg1 hE5
            cases hb : hasB (nth M.rel k) (p : Int)
            · clear hb
              dsimp only
              go_wp2_with fail
              go_roundw
              case rel => exact ⟨p + 1, by omega, by omega, by go_num, HE5⟩
              case measure => simp [RowKit.intOf]; omega
            · obtain ⟨k1, k2⟩ := HKP.out hb
              have HK1 := Lib.hid k1
              have HK2 := Lib.hid k2
              clear hb k1 k2
              obtain ⟨g2, o2, x2, y2, hra2, hg2, hc2, hr2⟩ := (HAr.out.ext HY5.out).get (k := k) (by show k < RA.length; rw [HFR.out.la1]; exact hkn)
              have HH2 := hasP_any p hp1 hp3 (nth RA k) x2 y2 w5 (HT.out.ext (HE2.out.trans (HXZ.out.trans HY5.out))) hr2
              rw [HK1.out] at HH2
              have HH2' := Lib.hid HH2
              obtain ⟨a0, a1, a2, -⟩ := HO1.out.ext (HX2.out.trans (HXZ.out.trans HY5.out))
              subst hra2
              have al := World.block_lt_of_cell? _ _ a0
              dsimp only at al hc2 ⊢
              clear HH2 hr2
              go_wp2_with fail
              refine HH2'.out.mono ?_
              rintro _ w6 ⟨rfl, hE6⟩
              have HY6 := Lib.hid (HY5.out.trans hE6)
              have HE6 := Lib.hid (HE5.out.trans hE6)
              clear a0 a1 a2 al hc2 hg2 hE6
              obtain ⟨g3, o3, x3, y3, hra3, hg3, hc3, hr3⟩ := (HBr.out.ext HY6.out).get (k := k) (by show k < RB.length; rw [HFR.out.lb1]; exact hkn)
              have HH3 := hasP_any p hp1 hp3 (nth RB k) x3 y3 w6 (HT.out.ext (HE2.out.trans (HXZ.out.trans HY6.out))) hr3
              rw [HK2.out] at HH3
              have HH3' := Lib.hid HH3
              obtain ⟨b0, b1, b2, -⟩ := HO2.out.ext (HXZ.out.trans HY6.out)
              subst hra3
              have bl := World.block_lt_of_cell? _ _ b0
              dsimp only at bl hc3 ⊢
              clear HH3 hr3
              go_wp2_with fail
              refine HH3'.out.mono ?_
              rintro _ w7 ⟨rfl, hE7⟩
              have HE7 := Lib.hid (HE6.out.trans hE7)
              clear b0 b1 b2 bl hc3 hg3 hE7
              dsimp only
              go_wp2_with fail
              go_roundw
              case rel => exact ⟨p + 1, by omega, by omega, by go_num, HE7⟩
              case measure => simp [RowKit.intOf]; omega
          · obtain rfl : p = 3 := by omega
            have HKS := Lib.hid (HFR.out.sy k hkn)
            have HH1 := Lib.hid (hasP_any 3 (by omega) (by omega) (nth M.rel k) x1 y1 wz (HT.out.ext (HE2.out.trans HXZ.out)) hr1)
            clear hr1
            subst hra1
            go_wp2_with fail
            refine HH1.out.mono ?_
            rintro _ w5 ⟨rfl, hE5⟩
            have HE5 := Lib.hid (HZ.out.trans hE5)
            have HY5 := Lib.hid hE5
            clear q0 q1 q2 ql a0 a1 a2 al hc1 hg1 hE5
            cases hb : hasB (nth M.rel k) ((3 : Nat) : Int)
            · clear hb
              dsimp only
              go_wp2_with fail
              go_roundw
              case rel => exact ⟨k + 1, hkn, by go_num, Lib.hid (HX.out.trans HE5.out)⟩
              case measure => simp [RowKit.intOf]; omega
            · have k1 := HKS.out hb
              have HK1 := Lib.hid k1
              clear hb k1
              obtain ⟨g2, o2, x2, y2, hra2, hg2, hc2, hr2⟩ := (HAr.out.ext HY5.out).get (k := k) (by show k < RA.length; rw [HFR.out.la1]; exact hkn)
              have HH2 := hasP_any 3 (by omega) (by omega) (nth RA k) x2 y2 w5 (HT.out.ext (HE2.out.trans (HXZ.out.trans HY5.out))) hr2
              rw [show ((3 : Nat) : Int) = 3 from rfl, HK1.out] at HH2
              have HH2' := Lib.hid HH2
              obtain ⟨a0, a1, a2, -⟩ := HO1.out.ext (HX2.out.trans (HXZ.out.trans HY5.out))
              subst hra2
              have al := World.block_lt_of_cell? _ _ a0
              dsimp only at al hc2 ⊢
              clear HH2 hr2
              go_wp2_with fail
              refine HH2'.out.mono ?_
              rintro _ w6 ⟨rfl, hE6⟩
              have HE6 := Lib.hid (HE5.out.trans hE6)
              clear a0 a1 a2 al hc2 hg2 hE6
              dsimp only
              go_wp2_with fail
              go_roundw
              case rel => exact ⟨k + 1, hkn, by go_num, Lib.hid (HX.out.trans HE6.out)⟩
              case measure => simp [RowKit.intOf]; omega
      · go_wp2_with (go_at_call 9; refine (awake23_any _ (HT.out.ext (HE2.out.trans HX.out))).mono ?_; rintro _ w9 ⟨rfl, hE9⟩)
        go_ret
        exact ⟨rfl, HE.out.trans ((HE2.out.trans HX.out).trans hE9)⟩
end Wt

/- The law FilterFrames returns true at every input, and its arguments read behind the call as they did before. the tied card: the library's table of TrailingZeros64 lies as the program's text lays it. -/
namespace Go.Proofs.YtbeaagnahldefaaDoor
open Go.ChangeShapes Go.WideShapes Go.ChangeAt Go.WideMaps Go.WideElems Go.RowKit

theorem own : ownKnob Tryd.prog.godebug = none := by kernel_rfl
theorem laidOut : laidOutB Tryd.prog = true := by kernel_rfl
theorem door_met (os : Os) (args : Array Value) : laidMetH Tryd.prog [("math/bits.deBruijn64tab", Rows.laid_math_bits_deBruijn64tab)] ((World.doorLaid Tryd.prog 400 os).forCall (fun _ _ => 0) ⟨#[], args, []⟩).memory := by
  rw [MakeChecks.laidMetH_plain _ _ _ (by kernel_rfl)]
  exact laidMet_of_run' 8 (by kernel_rfl) (by kernel_rfl)
set_option maxRecDepth 100000 in
set_option maxHeartbeats 1000000 in
theorem law_lifted (os : Os) (started : os.Started) (H : Type) (enc : TypeId × Value → H) :
    ReturnsInHanded {} Tryd.checked os 4 .any (fun w args => (Rows.filterFramesSpec.pre enc Tryd.prog Tryd.f4 Rows.filterFramesRow.domain false w args ∧ laidMetH Tryd.prog [("math/bits.deBruijn64tab", Rows.laid_math_bits_deBruijn64tab)] w) ∧ sizedMet enc Tryd.prog Tryd.f4 (OpenSpec.ofChange Rows.filterFramesSpec) false w args)
      (Rows.filterFramesSpec.post enc Tryd.prog Tryd.f4 false true false false) := by
  refine returnsInHanded_of_change_and (C := Tryd.checked) (X := fun w _ => laidMetH Tryd.prog [("math/bits.deBruijn64tab", Rows.laid_math_bits_deBruijn64tab)] w) (fun _ _ _ hh h => h.of_heap hh) own started (by kernel_rfl) Tryd.func4
    (ChangeSpec.witness_shaped (enc := enc) (C := Tryd.checked) (os := os) (X := fun w _ => laidMetH Tryd.prog [("math/bits.deBruijn64tab", Rows.laid_math_bits_deBruijn64tab)] w) false (World.doorLaid Tryd.prog 400 os) #[.agg #[.int .i64 0, .slice none 0 0, .slice none 0 0], .slice none 0 0] 8 rfl (World.shaped_of_RefB (by kernel_rfl) (by kernel_rfl)) (by kernel_rfl) (by kernel_rfl) (by kernel_rfl) (door_met os _)) ?_
  intro W base args ds gs before hval0 hW _ hsz0 hL _
  have hT := of_laid hL
  have hval : ∀ (j : Nat) t v, Tryd.f4.params[j]? = some t → args[j]? = some v → Value.okWide Tryd.prog W .any base t v := hval0
  have hsz : (DataW.weightsEach Tryd.prog (Tryd.f4.params.toList ++ Rows.filterFramesSpec.plain.varTypes Tryd.prog) (ds ++ gs)).all (· ≤ reachBytes) = true := hsz0
  have hW' := hW
  obtain ⟨p, q, hA0, hV, rfl, hfz, hnd⟩ := hW
  have hA : DataW.TrodAll enc Tryd.prog W 0 (fun _ => true) true Tryd.f4.params.toList args.toList ds p := hA0
  rw [Tryd.params4] at hA hval hsz
  obtain ⟨v0, v1, d0, d1, p0, p1, rfl, rfl, rfl, h0, h1⟩ := trodAll_two hA
  obtain ⟨rfl, rfl⟩ := trodVars_none hV
  have hv0 : Rows.filterFramesSpec.plain.varTypes Tryd.prog = [] := rfl
  rw [hv0] at hsz
  have hz : ∀ n ∈ DataW.weightsEach Tryd.prog [25, 26] [d0, d1], n ≤ reachBytes := fun n hn => by
    have := List.all_eq_true.1 hsz n (by simpa using hn)
    simpa using this
  have k0 := h0
  have k1 := h1
  obtain ⟨m, mv, mr, mvc, mrc, rfl, hmm⟩ := Wt.open_mo rfl (hval 0 25 v0 rfl rfl) h0 (fun n hn => hz n (DataW.weights_mem_each (j := 0) rfl rfl n hn))
  obtain ⟨fa, fl, fc, rfl⟩ := okWide_slice Tryd.underlying26 (hval 1 26 v1 rfl rfl)
  obtain ⟨fu, h1'⟩ := h1
  obtain ⟨fa', f, fc', he1, hff⟩ := Wt.open_rn h1' (fun n hn => hz n (DataW.weights_mem_each (j := 1) rfl rfl n hn))
  simp [Value.cells] at he1
  obtain ⟨rfl, rfl, rfl⟩ := he1
  have hl0 : ∀ y ∈ p0, y.block < W.heap.size := fun y hy => by simpa using hW'.lt y (by simp [hy])
  have hl1 : ∀ y ∈ p1, y.block < W.heap.size := fun y hy => by simpa using hW'.lt y (by simp [hy])
  refine (Wt.filterFrames_any m mv mr mvc mrc fa fc f W hT hmm hff).mono fun e W' he => ?_
  obtain ⟨rfl, hE⟩ := he
  have bel : Below W.heap.size W W' := hE
  refine ⟨_, rfl, ⟨_, _, _, [], p0 ++ (p1), [], hW', trodAll_mk1 (shut_bool Tryd.underlying4 true), trodAll_mk2 (Below.trod laidOut (by kernel_rfl) (of_decide_eq_true (by kernel_rfl)) k0 bel hl0) (Below.trod laidOut (by kernel_rfl) (of_decide_eq_true (by kernel_rfl)) k1 bel (fun y hy => hl1 y (by simpa using hy))), rfl, bel.frame _, fun h => by cases h⟩⟩
theorem filterFrames_holds : Rows.FilterFramesSaid :=
  OpenClaim.holds_of_wide 4 Tryd.f4 rfl rfl rfl rfl rfl rfl rfl ⟨rfl, rfl, rfl, rfl, rfl⟩ rfl rfl rfl rfl rfl (by kernel_rfl) Tryd.func4 (by kernel_rfl)
    (of_decide_eq_true (by kernel_rfl)) (by unfold Func.isWrapper; first | (rw [if_pos (by decide +kernel)]; kernel_rfl) | (rw [if_neg (by decide +kernel)]; exact ⟨rfl, rfl⟩))
    (fun os started H enc _ => law_lifted os started H enc)
theorem filterFrames_card_holds : Rows.FilterFramesCardSaid :=
  Claim7.holds_tied_plain_at .later [] [.data] true Rows.filterFramesCard.stood.harness false
    filterFrames_holds (fun _ h => by cases h) (by kernel_rfl) (fun _ h => by cases h) filterFrames_row_tie rfl ⟨rfl, rfl⟩ (by kernel_rfl) rfl
    (fun f fn hf hfn => by
      obtain rfl : f = 4 := Option.some.inj ((show Tryd.prog.funcNamed "witting/wittinglaw23.FilterFrames" = some 4 by kernel_rfl).symm.trans hf) |>.symm
      obtain rfl : fn = Tryd.f4 := (Option.some.inj (Tryd.func4.symm.trans hfn)).symm
      exact ⟨by kernel_rfl, fun j t ht => by
        rw [Tryd.params4] at ht
        have hm : t ∈ [25, 26] := by simpa using Array.mem_of_getElem? ht
        have hall : ([25, 26].all fun u => !Tryd.prog.wantsStandIn u) = true := by kernel_rfl
        exact (show Tryd.prog.wantsStandIn t = false by simpa using List.all_eq_true.1 hall t hm)⟩)
    (by kernel_rfl)
#print axioms filterFrames_card_holds
end Go.Proofs.YtbeaagnahldefaaDoor
