/- The walk of FilterBetween (printed by gen_law23.py). -/
import Derived.Test.YtbeaagnahldefaaGreatDoorM9Bp
import Derived.Test.YtbeaagnahldefaaGreatDoorM9Br
import Derived.Test.YtbeaagnahldefaaGreatDoorRows
import Derived.Test.YtbeaagnahldefaaGreatDoorCards
import Derived.Test.YtbeaagnahldefaaGreatDoorTie
import Derived.Test.YtbeaagnahldefaaGreatDoorM9Ap
import Derived.ProofKit
import Derived.LaidMore
import Derived.SizedLaws
import Derived.SevenTiedAt
namespace Wt
open Go Go.RowKit Go.Maps Go.Proofs Fm

set_option maxRecDepth 20000 in
set_option maxHeartbeats 8000000 in
theorem filterBetween_any (M : Mo) (va ra : Option Addr) (vc rc : Nat) (fa : Option Addr) (fc : Nat) (f : List Nd) (w : World) (hT : Tab w) (hm : RM w va ra M) (hf : RN w fa f) :
    Calls Tryz.prog 6 #[.agg #[.int .i64 M.worlds, .slice va M.val.length vc, .slice ra M.rel.length rc], .slice fa f.length fc] w fun e w' => e = .returned (.bool true) ∧ Ext w w' := by
  have hE0 : Ext w (w.alloc (.cells #[.int .i64 M.worlds, .slice va M.val.length vc, .slice ra M.rel.length rc] 25)) := (Ext.refl w).alloc _
  have hbx := MoBox.new w M.worlds M.val M.rel va vc ra rc 25
  have HE := Lib.hid hE0
  have HT := Lib.hid (hT.ext hE0)
  have HM := Lib.hid (hm.ext hE0)
  have HF := Lib.hid (hf.ext hE0)
  have HB := Lib.hid hbx
  have HSW : Hid ((w.alloc (.cells #[.int .i64 M.worlds, .slice va M.val.length vc, .slice ra M.rel.length rc] 25)).heap.size = w.heap.size + 1) := Lib.hid (by simp)
  obtain ⟨m0, m1, m2⟩ := hbx
  dsimp only at m0 m1 m2
  clear hE0 hT hm hf
  go_enter Tryz.func6, Tryz.ntmps6
  go_wp2_with fail
  generalize w.alloc (.cells #[.int .i64 M.worlds, .slice va M.val.length vc, .slice ra M.rel.length rc] 25) = w0 at *
  refine (few23_any M va ra vc rc fa fc f _ HM.out).mono ?_
  rintro _ w1 ⟨b, rfl, hE1⟩
  have HE1 := Lib.hid hE1
  obtain ⟨p0, p1, p2⟩ := HB.out.ext hE1
  clear hE1 m0 m1 m2
  dsimp only at p0 p1 p2 ⊢
  cases b
  · go_wp2_with (go_at_call 8; refine (awake23_any _ (HT.out.ext HE1.out)).mono ?_; rintro _ w9 ⟨rfl, hE9⟩)
    go_ret
    exact ⟨rfl, (HE.out.trans HE1.out).trans hE9⟩
  by_cases hl : lookErr M f = 0
  rotate_left
  · have hq : (lookErr M f == lookErr M f) = true := by simp
    have hq2 : (lookErr M f != 0) = true := by simpa using hl
    have HPG : Hid (∀ W, Tab W → RM W va ra M → RN W fa f → Calls Tryz.prog 12 #[.agg #[.int .i64 M.worlds, .slice va M.val.length vc, .slice ra M.rel.length rc], .slice fa f.length fc] W fun e w' => RetR1 ⟨0, [], []⟩ 0 0 0 0 [] (lookErr M f) e W w') := Lib.hid fun W hT h1 h2 => by
      have h := (smallest_any M va ra vc rc fa fc f W h1 h2).mono fun _ _ hr => hr.r1
      rw [show filSm M f = ⟨0, [], []⟩ from if_neg hl, show filN M f = [] from if_neg hl] at h
      exact h
    have HPL : Hid (∀ W, Tab W → RM W va ra M → RN W fa f → Calls Tryz.prog 15 #[.agg #[.int .i64 M.worlds, .slice va M.val.length vc, .slice ra M.rel.length rc], .slice fa f.length fc] W fun e w' => RetR1 ⟨0, [], []⟩ 0 0 0 0 [] (lookErr M f) e W w') := Lib.hid fun W hT h1 h2 => by
      have h := (largest_any M va ra vc rc fa fc f W h1 h2).mono fun _ _ hr => hr.r1
      rw [show filLa M f false = ⟨0, [], []⟩ from if_neg hl, show filN M f = [] from if_neg hl] at h
      exact h
    clear hl
    generalize lookErr M f = er at *
    have pl := World.block_lt_of_cell? _ _ p0
    dsimp only at pl
    go_wp2_with fail
    clear p0 p1 p2 pl
    refine (HPG.out _ (HT.out.ext HE1.out) (HM.out.ext HE1.out) (HF.out.ext HE1.out)).mono ?_
    rintro _ w2 ⟨va1, ra1, la1, vc1, rc1, lc1, rfl, hm, hl, hE⟩
    have hA : Ext w2 (w2.alloc (.cells #[.int .i64 0, .slice va1 0 vc1, .slice ra1 0 rc1] 25)) := (Ext.refl _).alloc _
    have HM1 := Lib.hid (hm.ext hA)
    have HO1 := Lib.hid (OutAt.new w2 (.int .i64 0) (.slice va1 0 vc1) (.slice ra1 0 rc1) 25)
    have HX1 := Lib.hid (hE.trans hA)
    have HEa := Lib.hid (HE1.out.trans (hE.trans hA))
    clear hm hl hE hA
    obtain ⟨q0, q1, q2⟩ := HB.out.ext HEa.out
    dsimp only at q0 q1 q2
    have ql := World.block_lt_of_cell? _ _ q0
    dsimp only at ql ⊢
    go_wp2_with fail
    clear q0 q1 q2 ql
    refine (HPL.out _ (HT.out.ext HEa.out) (HM.out.ext HEa.out) (HF.out.ext HEa.out)).mono ?_
    rintro _ w3 ⟨va2, ra2, la2, vc2, rc2, lc2, rfl, hm, hl, hE⟩
    have hA : Ext w3 (w3.alloc (.cells #[.int .i64 0, .slice va2 0 vc2, .slice ra2 0 rc2] 25)) := (Ext.refl _).alloc _
    have HM2 := Lib.hid (hm.ext hA)
    have HO2 := Lib.hid (OutAt.new w3 (.int .i64 0) (.slice va2 0 vc2) (.slice ra2 0 rc2) 25)
    have HX2 := Lib.hid (hE.trans hA)
    have HE2 := Lib.hid (HEa.out.trans (hE.trans hA))
    clear hm hl hE hA
    obtain ⟨q0, q1, q2⟩ := HB.out.ext HE2.out
    dsimp only at q0 q1 q2
    have ql := World.block_lt_of_cell? _ _ q0
    dsimp only at ql ⊢
    go_wp2_with (go_at_call 8; refine (awake23_any _ (HT.out.ext HE2.out)).mono ?_; rintro _ w9 ⟨rfl, hE9⟩)
    go_ret
    exact ⟨rfl, HE.out.trans (HE2.out.trans hE9)⟩
  · obtain ⟨K, V, RA, RB, RC, bt⟩ := btw_ok hl
    have HBT := Lib.hid bt
    have h64 := bt.k64
    have hv8 := bt.v8
    have hr4 := bt.r4
    have hfl : fFacts f < 512 := unionL_lt factN factN_lt (fCompact f)
    obtain ⟨ll, hll⟩ : ∃ ll, filN M f = ll := ⟨_, rfl⟩
    have HPG : Hid (∀ W, Tab W → RM W va ra M → RN W fa f → Calls Tryz.prog 12 #[.agg #[.int .i64 M.worlds, .slice va M.val.length vc, .slice ra M.rel.length rc], .slice fa f.length fc] W fun e w' => RetR1 ⟨K, V, RA⟩ (K : Int) M.val.length M.rel.length ll.length (natI ll) 0 e W w') := Lib.hid fun W hT h1 h2 => by
      have h := (smallest_any M va ra vc rc fa fc f W h1 h2).mono fun _ _ hr => hr.r1
      rw [bt.sm, hl, hll, natI_ln] at h
      have e1 := bt.la1
      have e2 := bt.vl
      dsimp only at h
      rw [e1, e2] at h
      exact h
    have HPL : Hid (∀ W, Tab W → RM W va ra M → RN W fa f → Calls Tryz.prog 15 #[.agg #[.int .i64 M.worlds, .slice va M.val.length vc, .slice ra M.rel.length rc], .slice fa f.length fc] W fun e w' => RetR1 ⟨K, V, RB⟩ (K : Int) M.val.length M.rel.length ll.length (natI ll) 0 e W w') := Lib.hid fun W hT h1 h2 => by
      have h := (largest_any M va ra vc rc fa fc f W h1 h2).mono fun _ _ hr => hr.r1
      rw [bt.la, hl, hll, natI_ln] at h
      have e1 := bt.lb1
      have e2 := bt.vl
      dsimp only at h
      rw [e1, e2] at h
      exact h
    have HFC : Hid (∀ W, RN W fa f → Calls Tryz.prog 21 #[.slice fa f.length fc] W fun e w' => e = .returned (.int .i64 (fFacts f : Int)) ∧ Ext W w') := Lib.hid fun W h => facts_any fa fc f W h
    have hqv : ((M.val.length : Int) != (M.val.length : Int)) = false := by simp
    have HL := Lib.hid hl
    have HVL := Lib.hid bt.vl
    have hvm : M.val.length ≤ 8 := by rw [← bt.vl]; exact hv8
    clear bt
    have HLL := Lib.hid hll
    clear hll hl
    generalize hfx : fFacts f = fx at *
    have HFX := Lib.hid hfx
    clear hfx
    have pl := World.block_lt_of_cell? _ _ p0
    dsimp only at pl
    go_wp2_with fail
    clear p0 p1 p2 pl
    refine (HPG.out _ (HT.out.ext HE1.out) (HM.out.ext HE1.out) (HF.out.ext HE1.out)).mono ?_
    rintro _ w2 ⟨va1, ra1, la1, vc1, rc1, lc1, rfl, hm, hl, hE⟩
    have hA : Ext w2 (w2.alloc (.cells #[.int .i64 (K : Int), .slice va1 M.val.length vc1, .slice ra1 M.rel.length rc1] 25)) := (Ext.refl _).alloc _
    have HM1 := Lib.hid (hm.ext hA)
    have HO1 := Lib.hid (OutAt.new w2 (.int .i64 (K : Int)) (.slice va1 M.val.length vc1) (.slice ra1 M.rel.length rc1) 25)
    have HX1 := Lib.hid (hE.trans hA)
    have HEa := Lib.hid (HE1.out.trans (hE.trans hA))
    clear hm hl hE hA
    obtain ⟨q0, q1, q2⟩ := HB.out.ext HEa.out
    dsimp only at q0 q1 q2
    have ql := World.block_lt_of_cell? _ _ q0
    dsimp only at ql ⊢
    go_wp2_with fail
    clear q0 q1 q2 ql
    refine (HPL.out _ (HT.out.ext HEa.out) (HM.out.ext HEa.out) (HF.out.ext HEa.out)).mono ?_
    rintro _ w3 ⟨va2, ra2, la2, vc2, rc2, lc2, rfl, hm, hl, hE⟩
    have hA : Ext w3 (w3.alloc (.cells #[.int .i64 (K : Int), .slice va2 M.val.length vc2, .slice ra2 M.rel.length rc2] 25)) := (Ext.refl _).alloc _
    have HM2 := Lib.hid (hm.ext hA)
    have HO2 := Lib.hid (OutAt.new w3 (.int .i64 (K : Int)) (.slice va2 M.val.length vc2) (.slice ra2 M.rel.length rc2) 25)
    have HX2 := Lib.hid (hE.trans hA)
    have HE2 := Lib.hid (HEa.out.trans (hE.trans hA))
    clear hm hl hE hA
    obtain ⟨q0, q1, q2⟩ := HB.out.ext HE2.out
    dsimp only at q0 q1 q2
    have ql := World.block_lt_of_cell? _ _ q0
    dsimp only at ql ⊢
    have HIN : Hid (∀ W, Ext (w3.alloc (.cells #[.int .i64 (K : Int), .slice va2 M.val.length vc2, .slice ra2 M.rel.length rc2] 25)) W → Calls Tryz.prog 19 #[.agg #[.int .i64 (K : Int), .slice va1 M.val.length vc1, .slice ra1 M.rel.length rc1], .agg #[.int .i64 (K : Int), .slice va2 M.val.length vc2, .slice ra2 M.rel.length rc2]] W fun e w' => e = .returned (.bool true) ∧ Ext W w') := Lib.hid fun W e =>
      inside_any RA RB K M.rel.length M.val.length M.val.length va1 ra1 va2 ra2 vc1 rc1 vc2 rc2 W h64 hr4 HBT.out.la1 HBT.out.lb1 HBT.out.ra HBT.out.rb HBT.out.ab ((HM1.out.ext (HX2.out.trans e)).rel) ((HM2.out.ext e).rel)
    have HSA : Hid (∀ W, Ext (w3.alloc (.cells #[.int .i64 (K : Int), .slice va2 M.val.length vc2, .slice ra2 M.rel.length rc2] 25)) W → Calls Tryz.prog 20 #[.slice va1 M.val.length vc1, .slice va2 M.val.length vc2] W fun e w' => e = .returned (.bool true) ∧ Ext W w') := Lib.hid fun W e => by
      have h := r2Same_any V va1 va2 vc1 vc2 W (HM1.out.ext (HX2.out.trans e)).val (HM2.out.ext e).val
      rw [HVL.out] at h
      exact h
    obtain ⟨a0, a1, a2, -⟩ := HO1.out.ext HX2.out
    obtain ⟨b0, b1, b2, -⟩ := HO2.out
    have al := World.block_lt_of_cell? _ _ a0
    have bl := World.block_lt_of_cell? _ _ b0
    dsimp only at al bl
    go_wp2_with (first | (go_at_call 19; refine (HIN.out _ (Ext.refl _)).mono ?_; rintro _ w4 ⟨rfl, hE4⟩; obtain ⟨c0, c1, c2, -⟩ := HO1.out.ext (HX2.out.trans hE4); obtain ⟨d0, d1, d2, -⟩ := HO2.out.ext hE4; have cl := World.block_lt_of_cell? _ _ c0; have dl := World.block_lt_of_cell? _ _ d0; dsimp only at cl dl) | (go_at_call 20; refine (HSA.out _ hE4).mono ?_; rintro _ w5 ⟨rfl, hE5⟩; obtain ⟨e0, e1, e2, -⟩ := HO1.out.ext (HX2.out.trans (hE4.trans hE5)); obtain ⟨g0, g1, g2⟩ := HB.out.ext (HE2.out.trans (hE4.trans hE5)); have el := World.block_lt_of_cell? _ _ e0; have gl := World.block_lt_of_cell? _ _ g0; dsimp only at g0 g1 g2 el gl))
    have HX5 := Lib.hid (hE4.trans hE5)
    have HE5 := Lib.hid (HE2.out.trans (hE4.trans hE5))
    clear q0 q1 q2 ql a0 a1 a2 b0 b1 b2 al bl c0 c1 c2 d0 d1 d2 cl dl e0 e1 e2 g0 g1 g2 el gl hE4 hE5
    go_loopw [11] (fun i wr => ∃ k : Nat, k ≤ M.val.length ∧ i = .int .i64 (k : Int) ∧ Hid (Ext w5 wr)) (fun i _ => M.val.length - (RowKit.intOf i).toNat)
    case atStart => exact ⟨0, Nat.zero_le _, rfl, Lib.hid (Ext.refl _)⟩
    case round =>
      obtain ⟨k, hk, rfl, HX⟩ := hrel
      obtain ⟨e0, e1, e2, -⟩ := HO1.out.ext (HX2.out.trans (HX5.out.trans HX.out))
      have el := World.block_lt_of_cell? _ _ e0
      dsimp only at el
      by_cases hkl : k < M.val.length
      · obtain ⟨b9, o9, hva, hb9, hc9⟩ := (HM1.out.val.ext (HX2.out.trans (HX5.out.trans HX.out))).get (k := k) (show k < V.length by rw [HVL.out]; exact hkl)
        subst hva
        have hs0 := and_div fx k
        have hk31 : decide ((k : Int) < 31) = true := decide_eq_true (by omega)
        have HZ : Hid (fx.testBit k = false → nth V k = 0#64) := Lib.hid fun h => HBT.out.zero k (by rw [HVL.out]; exact hkl) (by rw [HFX.out]; exact h)
        have HFK := Lib.hid (HFC.out wr (HF.out.ext (HE5.out.trans HX.out)))
        change wr.cell? ⟨b9, o9 + k, none⟩ = some (.int .u64 (un (nth V k))) at hc9
        cases hq1 : fx.testBit k
        · rw [HZ.out hq1, un_zero] at hc9
          have hb1 : b01 fx k = 0 := by unfold b01; rw [hq1]; rfl
          rw [hb1] at hs0
          have HC9 := Lib.hid hc9
          clear hb1 hq1 HZ hc9
          go_wp2_with (go_at_call 21; refine HFK.out.mono ?_; rintro _ w6 ⟨rfl, hE6⟩; obtain ⟨f0, f1, f2, -⟩ := HO1.out.ext (HX2.out.trans (HX5.out.trans (HX.out.trans hE6))); have fl := World.block_lt_of_cell? _ _ f0; have hc6 := hE6.cell HC9.out; have hcl := World.block_lt_of_cell? _ _ hc6; dsimp only at fl hcl)
          go_roundw
          case rel => exact ⟨k + 1, hkl, by go_num, Lib.hid (HX.out.trans hE6)⟩
          case measure => simp [RowKit.intOf]; omega
        · have hb1 : b01 fx k = 1 := by unfold b01; rw [hq1]; rfl
          rw [hb1] at hs0
          clear hb1 hq1 HZ hc9
          go_wp2_with (go_at_call 21; refine HFK.out.mono ?_; rintro _ w6 ⟨rfl, hE6⟩)
          go_roundw
          case rel => exact ⟨k + 1, hkl, by go_num, Lib.hid (HX.out.trans hE6)⟩
          case measure => simp [RowKit.intOf]; omega
      · have HEr := Lib.hid (HE5.out.trans HX.out)
        have HXr := Lib.hid (HX5.out.trans HX.out)
        cases ht : M.rel.all traB
        · obtain ⟨t1, t2, t3⟩ := tr_no HL.out ht
          have HPT : Hid (∀ W, Tab W → RM W va ra M → RN W fa f → Calls Tryz.prog 17 #[.agg #[.int .i64 M.worlds, .slice va M.val.length vc, .slice ra M.rel.length rc], .slice fa f.length fc] W fun e w' => RetR1 ⟨0, [], []⟩ 0 0 0 0 [] 12 e W w') := Lib.hid fun W hT h1 h2 => by
            have h := (ftrans_any M va ra vc rc fa fc f W hT h1 h2).mono fun _ _ hr => hr.r1
            rw [t1, t2, t3] at h
            exact h
          clear t1 t2 t3 ht
          obtain ⟨q0, q1, q2⟩ := HB.out.ext HEr.out
          dsimp only at q0 q1 q2
          have ql := World.block_lt_of_cell? _ _ q0
          dsimp only at ql
          go_wp2_with fail
          refine (HPT.out _ (HT.out.ext HEr.out) (HM.out.ext HEr.out) (HF.out.ext HEr.out)).mono ?_
          rintro _ w7 ⟨va3, ra3, la3, vc3, rc3, lc3, rfl, hm, hl, hE7⟩
          have hA : Ext w7 (w7.alloc (.cells #[.int .i64 0, .slice va3 0 vc3, .slice ra3 0 rc3] 25)) := (Ext.refl _).alloc _
          have HE7 := Lib.hid (HEr.out.trans (hE7.trans hA))
          clear hm hl hE7 hA q0 q1 q2 ql e0 e1 e2 el
          dsimp only
          go_wp2_with (go_at_call 8; refine (awake23_any _ (HT.out.ext HE7.out)).mono ?_; rintro _ w9 ⟨rfl, hE9⟩)
          go_ret
          exact ⟨rfl, HE.out.trans (HE7.out.trans hE9)⟩
        · obtain ⟨t1, t2, t3⟩ := tr_yes HL.out ht
          have HAC := Lib.hid (HBT.out.ac ht)
          have HPT : Hid (∀ W, Tab W → RM W va ra M → RN W fa f → Calls Tryz.prog 17 #[.agg #[.int .i64 M.worlds, .slice va M.val.length vc, .slice ra M.rel.length rc], .slice fa f.length fc] W fun e w' => RetR1 ⟨K, V, RC⟩ (K : Int) M.val.length M.rel.length ll.length (natI ll) 0 e W w') := Lib.hid fun W hT h1 h2 => by
            have h := (ftrans_any M va ra vc rc fa fc f W hT h1 h2).mono fun _ _ hr => hr.r1
            rw [t1, t2, t3, HBT.out.tr, HLL.out, natI_ln] at h
            have e1 := HBT.out.lc1
            have e2 := HBT.out.vl
            dsimp only at h
            rw [e1, e2] at h
            exact h
          clear t1 t2 t3 ht
          obtain ⟨q0, q1, q2⟩ := HB.out.ext HEr.out
          dsimp only at q0 q1 q2
          have ql := World.block_lt_of_cell? _ _ q0
          dsimp only at ql
          go_wp2_with fail
          refine (HPT.out _ (HT.out.ext HEr.out) (HM.out.ext HEr.out) (HF.out.ext HEr.out)).mono ?_
          rintro _ w7 ⟨va3, ra3, la3, vc3, rc3, lc3, rfl, hm, hl, hE7⟩
          have hA : Ext w7 (w7.alloc (.cells #[.int .i64 (K : Int), .slice va3 M.val.length vc3, .slice ra3 M.rel.length rc3] 25)) := (Ext.refl _).alloc _
          have HM3 := Lib.hid (hm.ext hA)
          have HO3 := Lib.hid (OutAt.new w7 (.int .i64 (K : Int)) (.slice va3 M.val.length vc3) (.slice ra3 M.rel.length rc3) 25)
          have HX7 := Lib.hid (HXr.out.trans (hE7.trans hA))
          have HE7 := Lib.hid (HEr.out.trans (hE7.trans hA))
          clear hm hl hE7 hA q0 q1 q2 ql e0 e1 e2 el
          obtain ⟨a0, a1, a2, -⟩ := HO1.out.ext (HX2.out.trans HX7.out)
          obtain ⟨c0, c1, c2, -⟩ := HO3.out
          have al := World.block_lt_of_cell? _ _ a0
          have cl := World.block_lt_of_cell? _ _ c0
          dsimp only at al cl
          have W7 : Hid (∀ W, Ext (w7.alloc (.cells #[.int .i64 (K : Int), .slice va3 M.val.length vc3, .slice ra3 M.rel.length rc3] 25)) W → Calls Tryz.prog 19 #[.agg #[.int .i64 (K : Int), .slice va1 M.val.length vc1, .slice ra1 M.rel.length rc1], .agg #[.int .i64 (K : Int), .slice va3 M.val.length vc3, .slice ra3 M.rel.length rc3]] W fun e w' => e = .returned (.bool true) ∧ Ext W w') := Lib.hid fun W e =>
            inside_any RA RC K M.rel.length M.val.length M.val.length _ ra1 va3 ra3 vc1 rc1 vc3 rc3 W h64 hr4 HBT.out.la1 HBT.out.lc1 HBT.out.ra HBT.out.rc HAC.out ((HM1.out.ext (HX2.out.trans (HX7.out.trans e))).rel) ((HM3.out.ext e).rel)
          have W8 : Hid (∀ W, Ext (w7.alloc (.cells #[.int .i64 (K : Int), .slice va3 M.val.length vc3, .slice ra3 M.rel.length rc3] 25)) W → Calls Tryz.prog 19 #[.agg #[.int .i64 (K : Int), .slice va3 M.val.length vc3, .slice ra3 M.rel.length rc3], .agg #[.int .i64 (K : Int), .slice va2 M.val.length vc2, .slice ra2 M.rel.length rc2]] W fun e w' => e = .returned (.bool true) ∧ Ext W w') := Lib.hid fun W e =>
            inside_any RC RB K M.rel.length M.val.length M.val.length _ ra3 va2 ra2 vc3 rc3 vc2 rc2 W h64 hr4 HBT.out.lc1 HBT.out.lb1 HBT.out.rc HBT.out.rb HBT.out.cb ((HM3.out.ext e).rel) ((HM2.out.ext (HX7.out.trans e)).rel)
          have W9 : Hid (∀ W, Ext (w7.alloc (.cells #[.int .i64 (K : Int), .slice va3 M.val.length vc3, .slice ra3 M.rel.length rc3] 25)) W → Calls Tryz.prog 22 #[.agg #[.int .i64 (K : Int), .slice va3 M.val.length vc3, .slice ra3 M.rel.length rc3], .int .i64 3] W fun e w' => e = .returned (.bool true) ∧ Ext W w') := Lib.hid fun W e => by
            have h := frIn_any 3 (fun p hp => by rw [List.mem_singleton.1 (show p ∈ [4] from hp)]; exact fun r a c W hT hr => has4_any r a c W hT hr) ⟨K, V, RC⟩ va3 ra3 vc3 rc3 W (HT.out.ext (HE7.out.trans e)) (HM3.out.ext e)
            rw [HBT.out.k4] at h
            have e1 := HBT.out.lc1
            have e2 := HBT.out.vl
            dsimp only at h
            rw [e1, e2] at h
            exact h
          dsimp only
          go_wp2_with fail
          refine (W7.out _ (Ext.refl _)).mono ?_
          rintro _ x1 ⟨rfl, hy1⟩
          obtain ⟨c0, c1, c2, -⟩ := HO3.out.ext hy1
          obtain ⟨d0, d1, d2, -⟩ := HO2.out.ext (HX7.out.trans hy1)
          have cl := World.block_lt_of_cell? _ _ c0
          have dl := World.block_lt_of_cell? _ _ d0
          dsimp only at cl dl ⊢
          go_wp2_with fail
          refine (W8.out _ hy1).mono ?_
          rintro _ x2 ⟨rfl, hy2⟩
          obtain ⟨g0, g1, g2, -⟩ := HO3.out.ext (hy1.trans hy2)
          have gl := World.block_lt_of_cell? _ _ g0
          dsimp only at gl ⊢
          go_wp2_with fail
          refine (W9.out _ (hy1.trans hy2)).mono ?_
          rintro _ x3 ⟨rfl, hy3⟩
          dsimp only
          go_wp2_with (go_at_call 8; refine (awake23_any _ (HT.out.ext (HE7.out.trans ((hy1.trans hy2).trans hy3)))).mono ?_; rintro _ w9 ⟨rfl, hE9⟩)
          go_ret
          exact ⟨rfl, HE.out.trans (HE7.out.trans (((hy1.trans hy2).trans hy3).trans hE9))⟩
end Wt

/- The law FilterBetween returns true at every input, and its arguments read behind the call as they did before. the tied card: the library's table of TrailingZeros64 lies as the program's text lays it. -/
namespace Go.Proofs.YtbeaagnahldefaaGreatDoor
open Go.ChangeShapes Go.WideShapes Go.ChangeAt Go.WideMaps Go.WideElems Go.RowKit

theorem own : ownKnob Tryz.prog.godebug = none := by kernel_rfl
theorem laidOut : laidOutB Tryz.prog = true := by kernel_rfl
theorem door_met (os : Os) (args : Array Value) : laidMetH Tryz.prog [("math/bits.deBruijn64tab", Rows.laid_math_bits_deBruijn64tab)] ((World.doorLaid Tryz.prog 400 os).forCall (fun _ _ => 0) ⟨#[], args, []⟩).memory := by
  rw [MakeChecks.laidMetH_plain _ _ _ (by kernel_rfl)]
  exact laidMet_of_run' 8 (by kernel_rfl) (by kernel_rfl)
set_option maxRecDepth 100000 in
set_option maxHeartbeats 1000000 in
theorem law_lifted (os : Os) (started : os.Started) (H : Type) (enc : TypeId × Value → H) :
    ReturnsInHanded {} Tryz.checked os 6 .any (fun w args => (Rows.filterBetweenSpec.pre enc Tryz.prog Tryz.f6 Rows.filterBetweenRow.domain false w args ∧ laidMetH Tryz.prog [("math/bits.deBruijn64tab", Rows.laid_math_bits_deBruijn64tab)] w) ∧ sizedMet enc Tryz.prog Tryz.f6 (OpenSpec.ofChange Rows.filterBetweenSpec) false w args)
      (Rows.filterBetweenSpec.post enc Tryz.prog Tryz.f6 false true false false) := by
  refine returnsInHanded_of_change_and (C := Tryz.checked) (X := fun w _ => laidMetH Tryz.prog [("math/bits.deBruijn64tab", Rows.laid_math_bits_deBruijn64tab)] w) (fun _ _ _ hh h => h.of_heap hh) own started (by kernel_rfl) Tryz.func6
    (ChangeSpec.witness_shaped (enc := enc) (C := Tryz.checked) (os := os) (X := fun w _ => laidMetH Tryz.prog [("math/bits.deBruijn64tab", Rows.laid_math_bits_deBruijn64tab)] w) false (World.doorLaid Tryz.prog 400 os) #[.agg #[.int .i64 0, .slice none 0 0, .slice none 0 0], .slice none 0 0] 8 rfl (World.shaped_of_RefB (by kernel_rfl) (by kernel_rfl)) (by kernel_rfl) (by kernel_rfl) (by kernel_rfl) (door_met os _)) ?_
  intro W base args ds gs before hval0 hW _ hsz0 hL _
  have hT := of_laid hL
  have hval : ∀ (j : Nat) t v, Tryz.f6.params[j]? = some t → args[j]? = some v → Value.okWide Tryz.prog W .any base t v := hval0
  have hsz : (DataW.weightsEach Tryz.prog (Tryz.f6.params.toList ++ Rows.filterBetweenSpec.plain.varTypes Tryz.prog) (ds ++ gs)).all (· ≤ reachBytes) = true := hsz0
  have hW' := hW
  obtain ⟨p, q, hA0, hV, rfl, hfz, hnd⟩ := hW
  have hA : DataW.TrodAll enc Tryz.prog W 0 (fun _ => true) true Tryz.f6.params.toList args.toList ds p := hA0
  rw [Tryz.params6] at hA hval hsz
  obtain ⟨v0, v1, d0, d1, p0, p1, rfl, rfl, rfl, h0, h1⟩ := trodAll_two hA
  obtain ⟨rfl, rfl⟩ := trodVars_none hV
  have hv0 : Rows.filterBetweenSpec.plain.varTypes Tryz.prog = [] := rfl
  rw [hv0] at hsz
  have hz : ∀ n ∈ DataW.weightsEach Tryz.prog [25, 26] [d0, d1], n ≤ reachBytes := fun n hn => by
    have := List.all_eq_true.1 hsz n (by simpa using hn)
    simpa using this
  have k0 := h0
  have k1 := h1
  obtain ⟨m, mv, mr, mvc, mrc, rfl, hmm⟩ := Wt.open_mo rfl (hval 0 25 v0 rfl rfl) h0 (fun n hn => hz n (DataW.weights_mem_each (j := 0) rfl rfl n hn))
  obtain ⟨fa, fl, fc, rfl⟩ := okWide_slice Tryz.underlying26 (hval 1 26 v1 rfl rfl)
  obtain ⟨fu, h1'⟩ := h1
  obtain ⟨fa', f, fc', he1, hff⟩ := Wt.open_rn h1' (fun n hn => hz n (DataW.weights_mem_each (j := 1) rfl rfl n hn))
  simp [Value.cells] at he1
  obtain ⟨rfl, rfl, rfl⟩ := he1
  have hl0 : ∀ y ∈ p0, y.block < W.heap.size := fun y hy => by simpa using hW'.lt y (by simp [hy])
  have hl1 : ∀ y ∈ p1, y.block < W.heap.size := fun y hy => by simpa using hW'.lt y (by simp [hy])
  refine (Wt.filterBetween_any m mv mr mvc mrc fa fc f W hT hmm hff).mono fun e W' he => ?_
  obtain ⟨rfl, hE⟩ := he
  have bel : Below W.heap.size W W' := hE
  refine ⟨_, rfl, ⟨_, _, _, [], p0 ++ (p1), [], hW', trodAll_mk1 (shut_bool Tryz.underlying4 true), trodAll_mk2 (Below.trod laidOut (by kernel_rfl) (of_decide_eq_true (by kernel_rfl)) k0 bel hl0) (Below.trod laidOut (by kernel_rfl) (of_decide_eq_true (by kernel_rfl)) k1 bel (fun y hy => hl1 y (by simpa using hy))), rfl, bel.frame _, fun h => by cases h⟩⟩
theorem filterBetween_holds : Rows.FilterBetweenSaid :=
  OpenClaim.holds_of_wide 6 Tryz.f6 rfl rfl rfl rfl rfl rfl rfl ⟨rfl, rfl, rfl, rfl, rfl⟩ rfl rfl rfl rfl rfl (by kernel_rfl) Tryz.func6 (by kernel_rfl)
    (of_decide_eq_true (by kernel_rfl)) (by unfold Func.isWrapper; first | (rw [if_pos (by decide +kernel)]; kernel_rfl) | (rw [if_neg (by decide +kernel)]; exact ⟨rfl, rfl⟩))
    (fun os started H enc _ => law_lifted os started H enc)
theorem filterBetween_card_holds : Rows.FilterBetweenCardSaid :=
  Claim7.holds_tied_plain_at .later [] [.data] true Rows.filterBetweenCard.stood.harness false
    filterBetween_holds (fun _ h => by cases h) (by kernel_rfl) (fun _ h => by cases h) filterBetween_row_tie rfl ⟨rfl, rfl⟩ (by kernel_rfl) rfl
    (fun f fn hf hfn => by
      obtain rfl : f = 6 := Option.some.inj ((show Tryz.prog.funcNamed "witting/wittinglaw23.FilterBetween" = some 6 by kernel_rfl).symm.trans hf) |>.symm
      obtain rfl : fn = Tryz.f6 := (Option.some.inj (Tryz.func6.symm.trans hfn)).symm
      exact ⟨by kernel_rfl, fun j t ht => by
        rw [Tryz.params6] at ht
        have hm : t ∈ [25, 26] := by simpa using Array.mem_of_getElem? ht
        have hall : ([25, 26].all fun u => !Tryz.prog.wantsStandIn u) = true := by kernel_rfl
        exact (show Tryz.prog.wantsStandIn t = false by simpa using List.all_eq_true.1 hall t hm)⟩)
    (by kernel_rfl)
#print axioms filterBetween_card_holds
end Go.Proofs.YtbeaagnahldefaaGreatDoor
