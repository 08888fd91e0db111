/- Walk: wittinglaw22.awake (printed by gen_aw22.py). -/
import Derived.Test.YtaghfmcaikjobaaGreatMOfB
import Derived.Test.YtaghfmcaikjobaaGreatMOdC
import Derived.Test.YtaghfmcaikjobaaGreatMOcE
import Derived.Test.YtaghfmcaikjobaaGreatMObG
namespace Wt
open Go Go.RowKit Go.Maps Go.Proofs Fm

def RetT (e : Ending) (w w' : World) : Prop := e = .returned (.bool true) ∧ Ext w w'
def Bu22 (e : Ending) (w w' : World) : Prop := ∃ va ra la vc rc lc, e = .returned (.tuple #[.agg #[.int .i64 3, .slice va 2 vc, .slice ra 2 rc], .slice la 3 lc, .int .i64 0]) ∧ RM w' va ra m22 ∧ RI w' la [1, 2, 3] ∧ Ext w w'
def Rv22 (e : Ending) (w w' : World) : Prop := ∃ va ra vc rc, e = .returned (.tuple #[.agg #[.int .i64 3, .slice va 2 vc, .slice ra 2 rc], .int .i64 0]) ∧ (∀ w'', Agree w.heap.size w' w'' → RR w'' ra [[1#64, 2#64, 4#64], [1#64, 6#64, 6#64]]) ∧ Ext w w'
def Pl22 (e : Ending) (w w' : World) : Prop := ∃ a c, e = .returned (.tuple #[.slice a 2 c, .int .i64 0]) ∧ Ext w w'
def Pr22 (e : Ending) (w w' : World) : Prop := ∃ va ra la vc rc lc, e = .returned (.tuple #[.agg #[.int .i64 3, .slice va 2 vc, .slice ra 2 rc], .slice la 3 lc, .int .i64 0]) ∧ RM w' va ra m22 ∧ Ext w w'
theorem ri123 (w : World) : RI (w.alloc (.cells #[.int .i64 1, .int .i64 2, .int .i64 3] 3)) (some ⟨w.heap.size, 0, none⟩) [1, 2, 3] := by
  refine ⟨by decide, fun k hk => ?_⟩
  rcases (show k = 0 ∨ k = 1 ∨ k = 2 by have : k < 3 := hk; omega) with rfl | rfl | rfl
  all_goals exact ⟨w.heap.size, 0, rfl, by simp [nth]⟩
theorem RM.ext4 {w w' : World} {va ra : Option Addr} {M : Mo} (r : RM w va ra M) (h : Ext w w') : RM w' va ra M := RM.ext h r
set_option maxRecDepth 20000 in
set_option maxHeartbeats 8000000 in
theorem awake22_any (w : World) : Calls Tryz.prog 5 #[] w fun e w' => e = .returned (.bool true) ∧ Ext w w' := by
  have XF0 : Hid (∀ w, Calls Tryz.prog 11 #[.int .i64 0] w fun e w' => RetN (f22 0) e w w') := Lib.hid fun w => fact22_any 0 w
  have XF1 : Hid (∀ w, Calls Tryz.prog 11 #[.int .i64 1] w fun e w' => RetN (f22 1) e w w') := Lib.hid fun w => fact22_any 1 w
  have XE : Hid (∀ w, Calls Tryz.prog 13 #[] w fun e w' => RetN e22 e w w') := Lib.hid fun w => either22_any w
  have XB : Hid (∀ w a c sa sc, RN w a e22 → RNNN w sa [[f22 0], [f22 1]] → Calls Tryz.prog 12 #[.int .i64 2, .slice a e22.length c, .slice sa 2 sc] w fun e w' => Bu22 e w w') := Lib.hid fun w a c sa sc h h2 => (obuild_any 2 a c e22 sa sc s22 w h h2).mono fun e w' hr => by
    obtain ⟨va, ra, la, vc, rc, lc, h1, h3, h4, h5⟩ := hr
    rw [ax1.1, ax1.2, ax2] at h1
    rw [ax2] at h3
    rw [ax1.2] at h4
    exact ⟨va, ra, la, vc, rc, lc, h1, h3, h4, h5⟩
  have XS : Hid (∀ w a b c d, RI w a [1, 2, 3] → RI w b [1, 2, 3] → Calls Tryz.prog 14 #[.slice a 3 c, .slice b 3 d] w fun e w' => RetT e w w') := Lib.hid fun w a b c d h h2 => (r01Same_any a b c d [1, 2, 3] [1, 2, 3] w h h2).mono fun e w' hr => ⟨by rw [hr.1]; rfl, hr.2.ext⟩
  have XM : Hid (∀ w va ra vb rb vc rc vd rd, RM w va ra m22 → RM w vb rb m22 → Calls Tryz.prog 10 #[.agg #[.int .i64 3, .slice va 2 vc, .slice ra 2 rc], .agg #[.int .i64 3, .slice vb 2 vd, .slice rb 2 rd]] w fun e w' => RetT e w w') := Lib.hid fun w va ra vb rb vc rc vd rd h h2 => sameM_any m22 va ra vb rb vc rc vd rd w h h2
  have XC : Hid (∀ w a c, RN w a e22 → Calls Tryz.prog 15 #[.int .i64 2, .slice a e22.length c] w fun e w' => RetP (.int .i64 3) 0 e w w') := Lib.hid fun w a c h => by
    have h2 := ocount_any 2 a c e22 w h
    rw [ax3.1, ax3.2] at h2
    exact h2
  have XR : Hid (∀ w va ra vc rc a c, RM w va ra m22 → RN w a (f22 1) → Calls Tryz.prog 6 #[.agg #[.int .i64 3, .slice va 2 vc, .slice ra 2 rc], .int .i64 1, .slice a (f22 1).length c] w fun e w' => Rv22 e w w') := Lib.hid fun w va ra vc rc a c h h2 => (oreveal_any m22 va ra vc rc 1 a c (f22 1) w h h2).mono fun e w' hr => by
    obtain ⟨va2, ra2, vc2, rc2, h1, h3, h4⟩ := hr
    rw [ax4, ax5] at h1
    exact ⟨va2, ra2, vc2, rc2, h1, fun w'' ha => by have h5 := (h3 w'' ha).rel; rw [ax5] at h5; exact h5, h4⟩
  have XI : Hid (∀ w va ra vc rc, RM w va ra m22 → Calls Tryz.prog 8 #[.agg #[.int .i64 3, .slice va 2 vc, .slice ra 2 rc], .int .i64 0, .int .i64 1] w fun e w' => RetP (.bool false) 0 e w w') := Lib.hid fun w va ra vc rc h => by
    have h2 := informed_any m22 va ra vc rc 0 1 w h
    rw [ax6.1, ax6.2] at h2
    exact h2
  have XP : Hid (∀ w sa sc, RNNN w sa [[f22 0], [f22 1]] → Calls Tryz.prog 16 #[.slice sa 2 sc, .int .i64 3] w fun e w' => Pl22 e w w') := Lib.hid fun w sa sc h => (pool_any s22 sa sc 3 w h few_s22).mono fun e w' hr => by
    obtain ⟨a, c, h1, -, h3⟩ := hr
    rw [ax7.1, ax7.2] at h1
    exact ⟨a, c, h1, h3⟩
  have XQ : Hid (∀ w va ra vb rb vc rc vd rd, RM w va ra m22 → RM w vb rb o22 → Calls Tryz.prog 17 #[.agg #[.int .i64 3, .slice va 2 vc, .slice ra 2 rc], .agg #[.int .i64 1, .slice vb 0 vd, .slice rb 2 rd]] w fun e w' => Pr22 e w w') := Lib.hid fun w va ra vb rb vc rc vd rd h h2 => (oproduct_any m22 o22 va ra vb rb vc rc vd rd w h h2).mono fun e w' hr => by
    obtain ⟨va2, ra2, la, vc2, rc2, lc, h1, h3, -, h5⟩ := hr
    rw [ax8.1, ax8.2, ax9] at h1
    rw [ax9] at h3
    exact ⟨va2, ra2, la, vc2, rc2, lc, h1, h3, h5⟩
  have XSS : Hid (∀ w a b c d, RU w a [1#64, 2#64, 4#64] → RU w b [1#64, 2#64, 4#64] → Calls Tryz.prog 18 #[.slice a 3 c, .slice b 3 d] w fun e w' => RetT e w w') := Lib.hid fun w a b c d h h2 => (r13Same_any a b c d [1#64, 2#64, 4#64] [1#64, 2#64, 4#64] w h h2).mono fun e w' hr => ⟨by rw [hr.1]; rfl, hr.2.ext⟩
  generalize f22 0 = F0 at *
  generalize f22 1 = F1 at *
  generalize e22 = EF at *
  go_enter Tryz.func5, Tryz.ntmps5
  go_wp2_with fail
  refine (XF0.out _).mono ?_
  rintro _ w1 ⟨a1, c1, rfl, r1, hE⟩
  dsimp only
  have hY1 := hE
  clear hE
  have hL1 : RNN (w1.alloc (.cells #[.slice a1 F0.length c1] 26)) (some ⟨w1.heap.size, 0, none⟩) [F0] := RNN.one w1 a1 c1 F0 26 r1
  have hA1 : Ext w1 (w1.alloc (.cells #[.slice a1 F0.length c1] 26)) := (Ext.refl _).alloc _
  go_wp2_with fail
  refine (XF1.out _).mono ?_
  rintro _ w2 ⟨a2, c2, rfl, r2, hE⟩
  dsimp only
  have hY2 := hE
  clear hE
  have hL2 : RNN (w2.alloc (.cells #[.slice a2 F1.length c2] 26)) (some ⟨w2.heap.size, 0, none⟩) [F1] := RNN.one w2 a2 c2 F1 26 r2
  have hA2 : Ext w2 (w2.alloc (.cells #[.slice a2 F1.length c2] 26)) := (Ext.refl _).alloc _
  have hS : RNNN ((w2.alloc (.cells #[.slice a2 F1.length c2] 26)).alloc (.cells #[.slice (some ⟨w1.heap.size, 0, none⟩) 1 1, .slice (some ⟨w2.heap.size, 0, none⟩) 1 1] 37)) (some ⟨w2.heap.size + 1, 0, none⟩) [[F0], [F1]] := by
    have h := RNNN.two (w2.alloc (.cells #[.slice a2 F1.length c2] 26)) (some ⟨w1.heap.size, 0, none⟩) (some ⟨w2.heap.size, 0, none⟩) 1 1 [F0] [F1] 37 ((hL1.ext hY2).ext hA2) hL2
    rw [show (w2.alloc (.cells #[.slice a2 F1.length c2] 26)).heap.size = w2.heap.size + 1 by simp] at h
    exact h
  have hA3 : Ext w2 ((w2.alloc (.cells #[.slice a2 F1.length c2] 26)).alloc (.cells #[.slice (some ⟨w1.heap.size, 0, none⟩) 1 1, .slice (some ⟨w2.heap.size, 0, none⟩) 1 1] 37)) := hA2.alloc _
  go_wp2_with fail
  refine (XE.out _).mono ?_
  rintro _ w3 ⟨a3, c3, rfl, r3, hE⟩
  dsimp only
  have hY3 := hE
  clear hE
  go_wp2_with fail
  refine (XB.out _ _ _ _ _ r3 (hS.ext (hY3))).mono ?_
  rintro _ w4 ⟨va, ra, la, vc, rc, lc, rfl, hm, hi, hE⟩
  dsimp only
  have hY4 := hE
  clear hE
  have hc := OutAt.new w4 (.int .i64 3) (.slice va 2 vc) (.slice ra 2 rc) 25
  have hA4 : Ext w4 (w4.alloc (.cells #[.int .i64 3, .slice va 2 vc, .slice ra 2 rc] 25)) := (Ext.refl _).alloc _
  go_wp2_with fail
  have hA5 : Ext w4 ((w4.alloc (.cells #[.int .i64 3, .slice va 2 vc, .slice ra 2 rc] 25)).alloc (.cells #[.int .i64 1, .int .i64 2, .int .i64 3] 3)) := ((Ext.refl _).alloc _).alloc _
  have hr5 : RI ((w4.alloc (.cells #[.int .i64 3, .slice va 2 vc, .slice ra 2 rc] 25)).alloc (.cells #[.int .i64 1, .int .i64 2, .int .i64 3] 3)) (some ⟨w4.heap.size + 1, 0, none⟩) [1, 2, 3] := by
    have h := ri123 (w4.alloc (.cells #[.int .i64 3, .slice va 2 vc, .slice ra 2 rc] 25))
    rw [show (w4.alloc (.cells #[.int .i64 3, .slice va 2 vc, .slice ra 2 rc] 25)).heap.size = w4.heap.size + 1 by simp] at h
    exact h
  have hc5 : OutAt ((w4.alloc (.cells #[.int .i64 3, .slice va 2 vc, .slice ra 2 rc] 25)).alloc (.cells #[.int .i64 1, .int .i64 2, .int .i64 3] 3)) w4.heap.size (.int .i64 3) (.slice va 2 vc) (.slice ra 2 rc) := hc.ext ((Ext.refl _).alloc _)
  refine (XS.out _ _ _ _ _ (hi.ext (hA5)) hr5).mono ?_
  rintro _ w6 ⟨rfl, hE⟩
  dsimp only
  have hY6 := hE
  clear hE
  obtain ⟨m0, m1, m2, -⟩ := hc5.ext (hY6)
  have hl4 : w4.heap.size < w6.heap.size := World.block_lt_of_cell? _ _ m0
  go_wp2_with fail
  clear m0 m1 m2 hl4
  have hA6 : Ext w6 ((((w6.alloc (.cells #[.int .u64 5, .int .u64 6] 44)).alloc (.cells #[.int .u64 5, .int .u64 2, .int .u64 5] 44)).alloc (.cells #[.int .u64 1, .int .u64 6, .int .u64 6] 44)).alloc (.cells #[.slice (some ⟨w6.heap.size + 1, 0, none⟩) 3 3, .slice (some ⟨w6.heap.size + 1 + 1, 0, none⟩) 3 3] 22)) := ((((Ext.refl _).alloc _).alloc _).alloc _).alloc _
  refine (XM.out _ _ _ _ _ _ _ _ _ (hm.ext4 (((hA5).trans hY6).trans hA6)) (m22_lit w6)).mono ?_
  rintro _ w7 ⟨rfl, hE⟩
  dsimp only
  have hY7 := hE
  clear hE
  go_wp2_with fail
  refine (XE.out _).mono ?_
  rintro _ w8 ⟨a8, c8, rfl, r8, hE⟩
  dsimp only
  have hY8 := hE
  clear hE
  go_wp2_with fail
  refine (XC.out _ _ _ r8).mono ?_
  rintro _ w9 ⟨rfl, hE⟩
  dsimp only
  have hY9 := hE
  clear hE
  obtain ⟨m0, m1, m2, -⟩ := hc5.ext (((((hY6).trans hA6).trans hY7).trans hY8).trans hY9)
  have hl4 : w4.heap.size < w9.heap.size := World.block_lt_of_cell? _ _ m0
  have HK : Hid (∀ w', Ext w9 w' → w'.cell? ⟨w4.heap.size, 0, none⟩ = some (.int .i64 3) ∧ w'.cell? ⟨w4.heap.size, 1, none⟩ = some (.slice va 2 vc) ∧ w'.cell? ⟨w4.heap.size, 2, none⟩ = some (.slice ra 2 rc)) := Lib.hid fun w' e => ⟨e.cell m0, e.cell m1, e.cell m2⟩
  have HM9 : Hid (RM w9 va ra m22) := Lib.hid (hm.ext4 ((((((hA5).trans hY6).trans hA6).trans hY7).trans hY8).trans hY9))
  go_upto_region 6 with fail
  go_cut [7, 8] from 51 to 56 (fun s7 s8 wc => ∃ b va ra vc rc, s7 = .pointer (some ⟨b, 0, none⟩) ∧ s8 = .int .i64 0 ∧ Hid (OutAt wc b (.int .i64 3) (.slice va 2 vc) (.slice ra 2 rc)) ∧ Hid (RR wc ra [[1#64, 2#64, 4#64], [1#64, 6#64, 6#64]]) ∧ Hid (Ext w9 wc))
  case first =>
    go_region_held3 (fun w' => w'.cell? ⟨w4.heap.size, 0, none⟩ = some (.int .i64 3) ∧ w'.cell? ⟨w4.heap.size, 1, none⟩ = some (.slice va 2 vc) ∧ w'.cell? ⟨w4.heap.size, 2, none⟩ = some (.slice ra 2 rc)) (first | go_keep | assumption | exact HK.out _ (by assumption) | exact HK.out _ (Ext.refl _).drew | exact HK.out _ (Ext.alloc (by assumption) _) | exact HK.out _ ((Ext.refl _).alloc _).drew | exact HK.out _ (HX11.out.set3 HSZ.out.2 _ _ _))
      (first | ((with_reducible refine (XF1.out _).mono ?_); rintro _ w10 ⟨a10, c10, rfl, r10, hE10⟩; (first | have hX10 : Ext w9 w10 := (Ext.refl w9).drew.trans hE10 | (have hX10 : Ext w9 w10 := ((Ext.refl w9).alloc (.cells #[.int .i64 0, .slice none 0 0, .slice none 0 0] 25)).drew.trans hE10; have hB : OutAt w10 w9.heap.size (.int .i64 0) (.slice none 0 0) (.slice none 0 0) := (OutAt.new w9 (.int .i64 0) (.slice none 0 0) (.slice none 0 0) 25).ext ((Ext.refl _).drew.trans hE10); have hBl : w9.heap.size < w10.heap.size := hB.lt)); dsimp only) | ((with_reducible refine (XR.out _ _ _ _ _ _ _ (HM9.out.ext4 (by first | assumption | exact Ext.alloc (by assumption) _)) (by first | assumption | exact RN.ext ((Ext.refl _).alloc _) (by assumption))).mono ?_); rintro _ w11 ⟨va11, ra11, vc11, rc11, rfl, h11, hE11⟩; (first | (have hC : OutAt w11 w10.heap.size (.int .i64 0) (.slice none 0 0) (.slice none 0 0) := (OutAt.new w10 (.int .i64 0) (.slice none 0 0) (.slice none 0 0) 25).ext hE11; have hX11 : Ext w9 w11 := (hX10.alloc (.cells #[.int .i64 0, .slice none 0 0, .slice none 0 0] 25)).trans hE11; have HC := Lib.hid hC; have hCl := hC.lt; obtain ⟨x0, x1, x2, xf⟩ := hC; have f0 := xf 0; have f1 := xf 1; have f2 := xf 2; have HSZ : Hid (w10.heap.size < (w10.alloc (.cells #[.int .i64 0, .slice none 0 0, .slice none 0 0] 25)).heap.size ∧ w9.heap.size ≤ w10.heap.size) := Lib.hid ⟨by simp, hX10.size⟩; clear xf) | (have hC : OutAt w11 w9.heap.size (.int .i64 0) (.slice none 0 0) (.slice none 0 0) := hB.ext hE11; have hX11 : Ext w9 w11 := hX10.trans hE11; have HC := Lib.hid hC; have hCl := hC.lt; obtain ⟨x0, x1, x2, xf⟩ := hC; have f0 := xf 0; have f1 := xf 1; have f2 := xf 2; have HSZ : Hid (w9.heap.size < w10.heap.size ∧ w9.heap.size ≤ w9.heap.size) := Lib.hid ⟨hBl, Nat.le_refl _⟩; clear xf) | have hX11 : Ext w9 w11 := hX10.trans hE11); have HX11 := Lib.hid hX11; have H11 := Lib.hid h11; clear h11; dsimp only) | fail)
    all_goals
      go_wp2_with fail
      go_meet
      case rel => first | exact ⟨_, _, _, _, _, rfl, rfl, Lib.hid (((HC.out.set0 _).set1 _).set2 _), Lib.hid (H11.out _ (Agree.set3 _ HSZ.out.1 _ _ _)), Lib.hid (HX11.out.set3 HSZ.out.2 _ _ _)⟩ | exact ⟨_, _, _, _, _, rfl, rfl, Lib.hid (OutAt.new _ _ _ _ _), Lib.hid (H11.out _ (Agree.ofExt ((Ext.refl _).alloc _))), Lib.hid (HX11.out.alloc _)⟩
  case rest =>
    obtain ⟨b, va11, ra11, vc11, rc11, rfl, rfl, HC11, H11, HX11⟩ := hcut
    rename World => w12
    have hY12 := HX11.out
    clear m0 m1 m2 hl4 HK HM9
    obtain ⟨m0, m1, m2, -⟩ := hc5.ext ((((((hY6).trans hA6).trans hY7).trans hY8).trans hY9).trans hY12)
    have hl4 : w4.heap.size < w12.heap.size := World.block_lt_of_cell? _ _ m0
    go_wp2_with fail
    clear m0 m1 m2 hl4
    refine (XI.out _ _ _ _ _ (hm.ext4 (((((((hA5).trans hY6).trans hA6).trans hY7).trans hY8).trans hY9).trans hY12))).mono ?_
    rintro _ w13 ⟨rfl, hE⟩
    dsimp only
    have hY13 := hE
    clear hE
    go_wp2_with fail
    refine (XP.out _ _ _ (hS.ext ((((((((((hY3).trans hY4).trans hA5).trans hY6).trans hA6).trans hY7).trans hY8).trans hY9).trans hY12).trans hY13))).mono ?_
    rintro _ w14 ⟨a14, c14, rfl, hE⟩
    dsimp only
    have hY14 := hE
    clear hE
    obtain ⟨m0, m1, m2, -⟩ := hc5.ext ((((((((hY6).trans hA6).trans hY7).trans hY8).trans hY9).trans hY12).trans hY13).trans hY14)
    have hl4 : w4.heap.size < w14.heap.size := World.block_lt_of_cell? _ _ m0
    go_wp2_with fail
    clear m0 m1 m2 hl4
    have hA14 : Ext w14 (((w14.alloc (.cells #[.int .u64 1] 44)).alloc (.cells #[.int .u64 1] 44)).alloc (.cells #[.slice (some ⟨w14.heap.size, 0, none⟩) 1 1, .slice (some ⟨w14.heap.size + 1, 0, none⟩) 1 1] 22)) := (((Ext.refl _).alloc _).alloc _).alloc _
    refine (XQ.out _ _ _ _ _ _ _ _ _ (hm.ext4 ((((((((((hA5).trans hY6).trans hA6).trans hY7).trans hY8).trans hY9).trans hY12).trans hY13).trans hY14).trans hA14)) (o22_lit w14)).mono ?_
    rintro _ w15 ⟨va15, ra15, la15, vc15, rc15, lc15, rfl, hm15, hE⟩
    dsimp only
    have hY15 := hE
    clear hE
    have hA15 : Ext w15 (w15.alloc (.cells #[.int .i64 3, .slice va15 2 vc15, .slice ra15 2 rc15] 25)) := (Ext.refl _).alloc _
    have hc15 := OutAt.new w15 (.int .i64 3) (.slice va15 2 vc15) (.slice ra15 2 rc15) 25
    obtain ⟨n0, n1, n2, -⟩ := HC11.out.ext (((((hY13).trans hY14).trans hA14).trans hY15).trans hA15)
    have hln := World.block_lt_of_cell? _ _ n0
    have hrr := H11.out.ext (((((hY13).trans hY14).trans hA14).trans hY15).trans hA15)
    obtain ⟨b5, o5, a5, c5, rfl, hb5, hc6, hu5⟩ := hrr.get (k := 0) (by decide)
    have z6 : (w15.alloc (.cells #[.int .i64 3, .slice va15 2 vc15, .slice ra15 2 rc15] 25)).cell? ⟨b5, o5, none⟩ = some (Value.slice a5 3 c5) := hc6
    dsimp only at hln hb5
    clear hc6 hrr
    go_wp2_with fail
    have hA16 : Ext (w15.alloc (.cells #[.int .i64 3, .slice va15 2 vc15, .slice ra15 2 rc15] 25)) ((w15.alloc (.cells #[.int .i64 3, .slice va15 2 vc15, .slice ra15 2 rc15] 25)).alloc (.cells #[.int .u64 1, .int .u64 2, .int .u64 4] 44)) := (Ext.refl _).alloc _
    have hu6 := RU.lit (w15.alloc (.cells #[.int .i64 3, .slice va15 2 vc15, .slice ra15 2 rc15] 25)) [1#64, 2#64, 4#64] #[.int .u64 1, .int .u64 2, .int .u64 4] 44 rfl (by decide)
    rw [show (w15.alloc (.cells #[.int .i64 3, .slice va15 2 vc15, .slice ra15 2 rc15] 25)).heap.size = w15.heap.size + 1 by simp] at hu6
    refine (XSS.out _ _ _ _ _ (hu5.ext hA16) hu6).mono ?_
    rintro _ w16 ⟨rfl, hE⟩
    dsimp only
    have hY16 := hE
    clear hE
    clear n0 n1 n2 hln z6 hb5
    obtain ⟨m0, m1, m2, -⟩ := hc5.ext (((((((((((((hY6).trans hA6).trans hY7).trans hY8).trans hY9).trans hY12).trans hY13).trans hY14).trans hA14).trans hY15).trans hA15).trans hA16).trans hY16)
    have hl4 : w4.heap.size < w16.heap.size := World.block_lt_of_cell? _ _ m0
    obtain ⟨q0, q1, q2, -⟩ := hc15.ext ((hA16).trans hY16)
    have hl15 : w15.heap.size < w16.heap.size := World.block_lt_of_cell? _ _ q0
    go_wp2_with fail
    clear m0 m1 m2 hl4 q0 q1 q2 hl15
    refine (XM.out _ _ _ _ _ _ _ _ _ (hm15.ext4 (((hA15).trans hA16).trans hY16)) (hm.ext4 ((((((((((((((hA5).trans hY6).trans hA6).trans hY7).trans hY8).trans hY9).trans hY12).trans hY13).trans hY14).trans hA14).trans hY15).trans hA15).trans hA16).trans hY16))).mono ?_
    rintro _ w17 ⟨rfl, hE⟩
    dsimp only
    have hY17 := hE
    clear hE
    go_wp2_with fail
    go_ret
    exact ⟨rfl, (((((((((((((((((((((hY1).trans hA1).trans hY2).trans hA3).trans hY3).trans hY4).trans hA5).trans hY6).trans hA6).trans hY7).trans hY8).trans hY9).trans hY12).trans hY13).trans hY14).trans hA14).trans hY15).trans hA15).trans hA16).trans hY16).trans hY17)⟩
end Wt
