/- The walk of FilterSizes (printed by gen_law23.py). -/
import Derived.Test.YtbeaagnahldefaaDoorM7Bc
import Derived.Test.YtbeaagnahldefaaDoorM7Be
import Derived.Test.YtbeaagnahldefaaDoorM7Av
import Derived.Test.YtbeaagnahldefaaDoorRows
import Derived.Test.YtbeaagnahldefaaDoorCards
import Derived.Test.YtbeaagnahldefaaDoorTie
import Derived.Test.YtbeaagnahldefaaDoorM7Ap
import Derived.ProofKit
import Derived.LaidMore
import Derived.SizedLaws
import Derived.SevenTiedAt
namespace Wt
open Go Go.RowKit Go.Maps Go.Proofs Fm

set_option maxHeartbeats 1000000 in
theorem size_any (fa : Option Addr) (fc : Nat) (f : List Nd) (w : World) (hr : RN w fa f) (h1 : fCheck f = 0) :
    Calls Tryd.prog 16 #[.slice fa f.length fc] w fun e w' => e = .returned (.int .i64 ((fCompact f).length : Int)) ∧ Ext w w' := by
  have H := Lib.hid (compactF_fresh fa fc f w hr h1)
  clear hr
  go_enter Tryd.func16, Tryd.ntmps16
  go_wp2_with (go_at_call 36; refine H.out.mono ?_; rintro _ w1 ⟨a, c, rfl, -, -, hE⟩)
  go_ret
  exact ⟨rfl, hE⟩

set_option maxRecDepth 20000 in
set_option maxHeartbeats 8000000 in
theorem filterSizes_any (M : Mo) (va ra : Option Addr) (vc rc : Nat) (fa : Option Addr) (fc : Nat) (f : List Nd) (w : World) (hT : Tab w) (hm : RM w va ra M) (hf : RN w fa f) :
    Calls Tryd.prog 5 #[.agg #[.int .i64 M.worlds, .slice va M.val.length vc, .slice ra M.rel.length rc], .slice fa f.length fc] w fun e w' => e = .returned (.bool true) ∧ Ext w w' := by
  have hE0 : Ext w (w.alloc (.cells #[.int .i64 M.worlds, .slice va M.val.length vc, .slice ra M.rel.length rc] 25)) := (Ext.refl w).alloc _
  have hbx := MoBox.new w M.worlds M.val M.rel va vc ra rc 25
  have HE := Lib.hid hE0
  have HT := Lib.hid (hT.ext hE0)
  have HM := Lib.hid (hm.ext hE0)
  have HF := Lib.hid (hf.ext hE0)
  have HB := Lib.hid hbx
  have HSW : Hid ((w.alloc (.cells #[.int .i64 M.worlds, .slice va M.val.length vc, .slice ra M.rel.length rc] 25)).heap.size = w.heap.size + 1) := Lib.hid (by simp)
  obtain ⟨m0, m1, m2⟩ := hbx
  dsimp only at m0 m1 m2
  clear hE0 hT hm hf
  go_enter Tryd.func5, Tryd.ntmps5
  go_wp2_with fail
  generalize w.alloc (.cells #[.int .i64 M.worlds, .slice va M.val.length vc, .slice ra M.rel.length rc] 25) = w0 at *
  refine (few23_any M va ra vc rc fa fc f _ HM.out).mono ?_
  rintro _ w1 ⟨b, rfl, hE1⟩
  have HE1 := Lib.hid hE1
  obtain ⟨p0, p1, p2⟩ := HB.out.ext hE1
  clear hE1 m0 m1 m2
  dsimp only at p0 p1 p2 ⊢
  cases b
  · go_wp2_with (go_at_call 9; refine (awake23_any _ (HT.out.ext HE1.out)).mono ?_; rintro _ w9 ⟨rfl, hE9⟩)
    go_ret
    exact ⟨rfl, (HE.out.trans HE1.out).trans hE9⟩
  by_cases hl : lookErr M f = 0
  rotate_left
  · have hq : (lookErr M f == lookErr M f) = true := by simp
    have hq2 : (lookErr M f != 0) = true := by simpa using hl
    have HPG : Hid (∀ W, Tab W → RM W va ra M → RN W fa f → Calls Tryd.prog 10 #[.agg #[.int .i64 M.worlds, .slice va M.val.length vc, .slice ra M.rel.length rc], .slice fa f.length fc] W fun e w' => RetR1 ⟨0, [], []⟩ 0 0 0 ([] : List Nat).length (natI ([] : List Nat)) (lookErr M f) e W w') := Lib.hid fun W hT h1 h2 => by
      have h := (smallest_any M va ra vc rc fa fc f W h1 h2).mono fun _ _ hr => hr.r1
      rw [show filSm M f = ⟨0, [], []⟩ from if_neg hl, show filN M f = [] from if_neg hl] at h
      exact h
    have HPL : Hid (∀ W, RM W va ra M → RN W fa f → Calls Tryd.prog 15 #[.agg #[.int .i64 M.worlds, .slice va M.val.length vc, .slice ra M.rel.length rc], .slice fa f.length fc] W fun e w' => RetLi [] (lookErr M f) e W w') := Lib.hid fun W h1 h2 => by
      have h := fClasses_any M va ra vc rc fa fc f W h1 h2
      rw [show filC M f = [] from if_neg hl] at h
      exact h
    clear hl
    generalize lookErr M f = er at *
    have pl := World.block_lt_of_cell? _ _ p0
    dsimp only at pl
    go_wp2_with fail
    clear p0 p1 p2 pl
    refine (HPG.out _ (HT.out.ext HE1.out) (HM.out.ext HE1.out) (HF.out.ext HE1.out)).mono ?_
    rintro _ w2 ⟨va1, ra1, la1, vc1, rc1, lc1, rfl, hm, hl, hE⟩
    have hA : Ext w2 (w2.alloc (.cells #[.int .i64 0, .slice va1 0 vc1, .slice ra1 0 rc1] 25)) := (Ext.refl _).alloc _
    have HM1 := Lib.hid (hm.ext hA)
    have HO1 := Lib.hid (OutAt.new w2 (.int .i64 0) (.slice va1 0 vc1) (.slice ra1 0 rc1) 25)
    have HX1 := Lib.hid (hE.trans hA)
    have HEa := Lib.hid (HE1.out.trans (hE.trans hA))
    clear hm hl hE hA
    obtain ⟨q0, q1, q2⟩ := HB.out.ext HEa.out
    dsimp only at q0 q1 q2
    have ql := World.block_lt_of_cell? _ _ q0
    dsimp only at ql ⊢
    go_wp2_with fail
    clear q0 q1 q2 ql
    refine (HPL.out _ (HM.out.ext HEa.out) (HF.out.ext HEa.out)).mono ?_
    rintro _ w3 ⟨pa, pc, rfl, hl, hE⟩
    have HE2 := Lib.hid (HEa.out.trans hE)
    clear hl hE
    dsimp only
    go_wp2_with (go_at_call 9; refine (awake23_any _ (HT.out.ext HE2.out)).mono ?_; rintro _ w9 ⟨rfl, hE9⟩)
    go_ret
    exact ⟨rfl, HE.out.trans (HE2.out.trans hE9)⟩
  · obtain ⟨K, N, n, V, RA, cls, low, nx, sz⟩ := sz_ok hl
    obtain ⟨-, hck, -, -⟩ := lookErr_ok hl
    have HSZ := Lib.hid sz
    have h64 := sz.n64
    have hkn := sz.kn
    have hn1 := sz.n1
    have hn2 := sz.n200
    have HWM := Lib.hid sz.wm
    have HCLl := Lib.hid sz.cl
    have HLOl := Lib.hid sz.ll
    have HPG : Hid (∀ W, Tab W → RM W va ra M → RN W fa f → Calls Tryd.prog 10 #[.agg #[.int .i64 M.worlds, .slice va M.val.length vc, .slice ra M.rel.length rc], .slice fa f.length fc] W fun e w' => RetR1 ⟨K, V, RA⟩ (K : Int) V.length RA.length cls.length (natI cls) 0 e W w') := Lib.hid fun W hT h1 h2 => by
      have h := (smallest_any M va ra vc rc fa fc f W h1 h2).mono fun _ _ hr => hr.r1
      rw [sz.sm, hl, sz.fn, natI_ln] at h
      exact h
    have HPL : Hid (∀ W, RM W va ra M → RN W fa f → Calls Tryd.prog 15 #[.agg #[.int .i64 M.worlds, .slice va M.val.length vc, .slice ra M.rel.length rc], .slice fa f.length fc] W fun e w' => RetLi low 0 e W w') := Lib.hid fun W h1 h2 => by
      have h := fClasses_any M va ra vc rc fa fc f W h1 h2
      rw [sz.fc, hl] at h
      exact h
    have HSI : Hid (∀ W, RN W fa f → Calls Tryd.prog 16 #[.slice fa f.length fc] W fun e w' => e = .returned (.int .i64 (n : Int)) ∧ Ext W w') := Lib.hid fun W h => by
      have h2 := size_any fa fc f W h hck
      rw [sz.nc] at h2
      exact h2
    have hd1 : decide ((n : Int) < 1) = false := decide_eq_false (by omega)
    have hd2 : decide ((N : Int) < (K : Int)) = false := decide_eq_false (by omega)
    have hq3 : ((N : Int) != (N : Int)) = false := by simp
    clear sz hl hck
    have pl := World.block_lt_of_cell? _ _ p0
    dsimp only at pl
    go_wp2_with fail
    clear p0 p1 p2 pl
    refine (HPG.out _ (HT.out.ext HE1.out) (HM.out.ext HE1.out) (HF.out.ext HE1.out)).mono ?_
    rintro _ w2 ⟨va1, ra1, la1, vc1, rc1, lc1, rfl, hm, hl, hE⟩
    have hA : Ext w2 (w2.alloc (.cells #[.int .i64 (K : Int), .slice va1 V.length vc1, .slice ra1 RA.length rc1] 25)) := (Ext.refl _).alloc _
    have HM1 := Lib.hid (hm.ext hA)
    have HO1 := Lib.hid (OutAt.new w2 (.int .i64 (K : Int)) (.slice va1 V.length vc1) (.slice ra1 RA.length rc1) 25)
    have HX1 := Lib.hid (hE.trans hA)
    have HEa := Lib.hid (HE1.out.trans (hE.trans hA))
    have HI1 := Lib.hid (hl.ext hA)
    clear hm hl hE hA
    obtain ⟨q0, q1, q2⟩ := HB.out.ext HEa.out
    dsimp only at q0 q1 q2
    have ql := World.block_lt_of_cell? _ _ q0
    dsimp only at ql ⊢
    go_wp2_with fail
    clear q0 q1 q2 ql
    refine (HPL.out _ (HM.out.ext HEa.out) (HF.out.ext HEa.out)).mono ?_
    rintro _ w3 ⟨pa, pc, rfl, hl, hE⟩
    rw [HLOl.out, HCLl.out]
    have HI2 := Lib.hid hl
    have HX3 := Lib.hid hE
    have HE3 := Lib.hid (HEa.out.trans hE)
    clear hl hE
    dsimp only
    go_wp2_with fail
    refine (HSI.out _ (HF.out.ext HE3.out)).mono ?_
    rintro _ w4 ⟨rfl, hE4⟩
    have HX4 := Lib.hid (HX3.out.trans hE4)
    have HE4 := Lib.hid (HE3.out.trans hE4)
    have HI24 := Lib.hid (HI2.out.ext hE4)
    clear hE4
    obtain ⟨q0, q1, q2⟩ := HB.out.ext HE4.out
    dsimp only at q0 q1 q2
    rw [HWM.out] at q0
    obtain ⟨a0, a1, a2, -⟩ := HO1.out.ext HX4.out
    have ql := World.block_lt_of_cell? _ _ q0
    have al := World.block_lt_of_cell? _ _ a0
    dsimp only at ql al
    have HI14 := Lib.hid (HI1.out.ext HX4.out)
    by_cases hn6 : n < 6
    · have hd6 : decide ((n : Int) < 6) = true := decide_eq_true (by omega)
      have h63 : n < 63 := by omega
      have hdp : decide (p2 n < (K : Int)) = false := decide_eq_false (by have := HSZ.out.pw; unfold p2; omega)
      dsimp only
      go_wp2_with fail
      clear hd6 hdp q0 q1 q2 ql a0 a1 a2 al
      go_loopw [11, 12] (fun t i wr => ∃ k : Nat, k ≤ N ∧ t = .int .i64 ((nx k : Nat) : Int) ∧ i = .int .i64 (k : Int) ∧ Hid (Ext w4 wr)) (fun _ i _ => N - (RowKit.intOf i).toNat)
      case atStart => exact ⟨0, Nat.zero_le _, by rw [HSZ.out.x0]; rfl, rfl, Lib.hid (Ext.refl _)⟩
      case round =>
        obtain ⟨k, hk, rfl, rfl, HX⟩ := hrel
        by_cases hkN : k < N
        · have hlk := HSZ.out.le k hkN
          have hek := HSZ.out.eq k hkN
          have hxk := HSZ.out.xle k hk
          obtain ⟨b1, o1, h1, hb1, hc1⟩ := (HI14.out.ext HX.out).get (k := k) (by rw [natI_ln, HCLl.out]; exact hkN)
          obtain ⟨b2, o2, h2, hb2, hc2⟩ := (HI24.out.ext HX.out).get (k := k) (by rw [natI_ln, HLOl.out]; exact hkN)
          obtain ⟨b3, o3, h3, hb3, hc3⟩ := (HI14.out.ext HX.out).get (k := nth low k) (by rw [natI_ln, HCLl.out]; omega)
          rw [h1] at h3
          simp only [Option.some.injEq, Addr.mk.injEq] at h3
          obtain ⟨rfl, rfl, -⟩ := h3
          rw [nth_natI (by rw [HCLl.out]; exact hkN)] at hc1
          rw [nth_natI (by rw [HLOl.out]; exact hkN)] at hc2
          rw [nth_natI (by rw [HCLl.out]; omega), hek] at hc3
          have hplt : nth low k < N := by omega
          have hst := HSZ.out.st k hkN
          subst h1
          subst h2
          generalize nth cls k = c at *
          generalize nth low k = p at *
          have g1 : decide ((c : Int) < 0) = false := decide_eq_false (by omega)
          have g2 : decide ((p : Int) < 0) = false := decide_eq_false (by omega)
          have g3 : decide ((k : Int) < (p : Int)) = false := decide_eq_false (by omega)
          have g4 : ((c : Int) != (c : Int)) = false := by simp
          rcases hst with ⟨e1, e2, e3⟩ | ⟨e1, e2, e3⟩
          · have g5 : decide (((nx k : Nat) : Int) < (c : Int)) = false := decide_eq_false (by omega)
            have g6 : ((c : Int) == ((nx k : Nat) : Int)) = true := by rw [beq_iff_eq]; omega
            have g7 : ((p : Int) == (k : Int)) = true := by rw [beq_iff_eq]; omega
            have n3 : ¬ k < p := by omega
            have n5 : ¬ nx k < c := by omega
            have n6 : nx k = c := by omega
            have n7 : k = p := by omega
            clear n3 n5
            clear e1 e2
            subst n6
            subst n7
            have n3 : ¬ k < k := by omega
            have n5 : ¬ nx k < nx k := by omega
            have HE3' := Lib.hid e3
            clear e3 hek hlk
            go_wp2_with fail
            go_quiet (fail)
            go_wp2_with fail
            go_roundw
            case rel => exact ⟨k + 1, hkN, by rw [HE3'.out]; go_num, by go_num, Lib.hid (HX.out.drewN _)⟩
            case measure => simp [RowKit.intOf]; omega
          · have g5 : decide (((nx k : Nat) : Int) < (c : Int)) = false := decide_eq_false (by omega)
            have g6 : ((c : Int) == ((nx k : Nat) : Int)) = false := by rw [beq_eq_false_iff_ne]; omega
            have g7 : ((p : Int) == (k : Int)) = false := by rw [beq_eq_false_iff_ne]; omega
            have n3 : ¬ k < p := by omega
            have n5 : ¬ nx k < c := by omega
            have n6 : ¬ c = nx k := by omega
            have n7 : ¬ p = k := by omega
            have HE3' := Lib.hid e3
            clear e1 e2 e3 hek hlk
            go_wp2_with fail
            go_quiet (fail)
            go_wp2_with fail
            go_roundw
            case rel => exact ⟨k + 1, hkN, by rw [HE3'.out], by go_num, Lib.hid (HX.out.drewN _)⟩
            case measure => simp [RowKit.intOf]; omega
        · obtain rfl : k = N := by omega
          rw [HSZ.out.xN]
          obtain ⟨a0, a1, a2, -⟩ := HO1.out.ext (HX4.out.trans HX.out)
          have al := World.block_lt_of_cell? _ _ a0
          dsimp only at al
          have hqK : ((K : Int) == (K : Int)) = true := by simp
          go_wp2_with (go_at_call 9; refine (awake23_any _ (HT.out.ext (HE4.out.trans HX.out))).mono ?_; rintro _ w9 ⟨rfl, hE9⟩)
          go_ret
          exact ⟨rfl, HE.out.trans ((HE4.out.trans HX.out).trans hE9)⟩
    · have hd6 : decide ((n : Int) < 6) = false := decide_eq_false (by omega)
      dsimp only
      go_wp2_with fail
      clear hd6 q0 q1 q2 ql a0 a1 a2 al
      go_loopw [11, 12] (fun t i wr => ∃ k : Nat, k ≤ N ∧ t = .int .i64 ((nx k : Nat) : Int) ∧ i = .int .i64 (k : Int) ∧ Hid (Ext w4 wr)) (fun _ i _ => N - (RowKit.intOf i).toNat)
      case atStart => exact ⟨0, Nat.zero_le _, by rw [HSZ.out.x0]; rfl, rfl, Lib.hid (Ext.refl _)⟩
      case round =>
        obtain ⟨k, hk, rfl, rfl, HX⟩ := hrel
        by_cases hkN : k < N
        · have hlk := HSZ.out.le k hkN
          have hek := HSZ.out.eq k hkN
          have hxk := HSZ.out.xle k hk
          obtain ⟨b1, o1, h1, hb1, hc1⟩ := (HI14.out.ext HX.out).get (k := k) (by rw [natI_ln, HCLl.out]; exact hkN)
          obtain ⟨b2, o2, h2, hb2, hc2⟩ := (HI24.out.ext HX.out).get (k := k) (by rw [natI_ln, HLOl.out]; exact hkN)
          obtain ⟨b3, o3, h3, hb3, hc3⟩ := (HI14.out.ext HX.out).get (k := nth low k) (by rw [natI_ln, HCLl.out]; omega)
          rw [h1] at h3
          simp only [Option.some.injEq, Addr.mk.injEq] at h3
          obtain ⟨rfl, rfl, -⟩ := h3
          rw [nth_natI (by rw [HCLl.out]; exact hkN)] at hc1
          rw [nth_natI (by rw [HLOl.out]; exact hkN)] at hc2
          rw [nth_natI (by rw [HCLl.out]; omega), hek] at hc3
          have hplt : nth low k < N := by omega
          have hst := HSZ.out.st k hkN
          subst h1
          subst h2
          generalize nth cls k = c at *
          generalize nth low k = p at *
          have g1 : decide ((c : Int) < 0) = false := decide_eq_false (by omega)
          have g2 : decide ((p : Int) < 0) = false := decide_eq_false (by omega)
          have g3 : decide ((k : Int) < (p : Int)) = false := decide_eq_false (by omega)
          have g4 : ((c : Int) != (c : Int)) = false := by simp
          rcases hst with ⟨e1, e2, e3⟩ | ⟨e1, e2, e3⟩
          · have g5 : decide (((nx k : Nat) : Int) < (c : Int)) = false := decide_eq_false (by omega)
            have g6 : ((c : Int) == ((nx k : Nat) : Int)) = true := by rw [beq_iff_eq]; omega
            have g7 : ((p : Int) == (k : Int)) = true := by rw [beq_iff_eq]; omega
            have n3 : ¬ k < p := by omega
            have n5 : ¬ nx k < c := by omega
            have n6 : nx k = c := by omega
            have n7 : k = p := by omega
            clear n3 n5
            clear e1 e2
            subst n6
            subst n7
            have n3 : ¬ k < k := by omega
            have n5 : ¬ nx k < nx k := by omega
            have HE3' := Lib.hid e3
            clear e3 hek hlk
            go_wp2_with fail
            go_quiet (fail)
            go_wp2_with fail
            go_roundw
            case rel => exact ⟨k + 1, hkN, by rw [HE3'.out]; go_num, by go_num, Lib.hid (HX.out.drewN _)⟩
            case measure => simp [RowKit.intOf]; omega
          · have g5 : decide (((nx k : Nat) : Int) < (c : Int)) = false := decide_eq_false (by omega)
            have g6 : ((c : Int) == ((nx k : Nat) : Int)) = false := by rw [beq_eq_false_iff_ne]; omega
            have g7 : ((p : Int) == (k : Int)) = false := by rw [beq_eq_false_iff_ne]; omega
            have n3 : ¬ k < p := by omega
            have n5 : ¬ nx k < c := by omega
            have n6 : ¬ c = nx k := by omega
            have n7 : ¬ p = k := by omega
            have HE3' := Lib.hid e3
            clear e1 e2 e3 hek hlk
            go_wp2_with fail
            go_quiet (fail)
            go_wp2_with fail
            go_roundw
            case rel => exact ⟨k + 1, hkN, by rw [HE3'.out], by go_num, Lib.hid (HX.out.drewN _)⟩
            case measure => simp [RowKit.intOf]; omega
        · obtain rfl : k = N := by omega
          rw [HSZ.out.xN]
          obtain ⟨a0, a1, a2, -⟩ := HO1.out.ext (HX4.out.trans HX.out)
          have al := World.block_lt_of_cell? _ _ a0
          dsimp only at al
          have hqK : ((K : Int) == (K : Int)) = true := by simp
          go_wp2_with (go_at_call 9; refine (awake23_any _ (HT.out.ext (HE4.out.trans HX.out))).mono ?_; rintro _ w9 ⟨rfl, hE9⟩)
          go_ret
          exact ⟨rfl, HE.out.trans ((HE4.out.trans HX.out).trans hE9)⟩
end Wt

/- The law FilterSizes returns true at every input, and its arguments read behind the call as they did before. the tied card: the library's table of TrailingZeros64 lies as the program's text lays it. -/
namespace Go.Proofs.YtbeaagnahldefaaDoor
open Go.ChangeShapes Go.WideShapes Go.ChangeAt Go.WideMaps Go.WideElems Go.RowKit

theorem own : ownKnob Tryd.prog.godebug = none := by kernel_rfl
theorem laidOut : laidOutB Tryd.prog = true := by kernel_rfl
theorem door_met (os : Os) (args : Array Value) : laidMetH Tryd.prog [("math/bits.deBruijn64tab", Rows.laid_math_bits_deBruijn64tab)] ((World.doorLaid Tryd.prog 400 os).forCall (fun _ _ => 0) ⟨#[], args, []⟩).memory := by
  rw [MakeChecks.laidMetH_plain _ _ _ (by kernel_rfl)]
  exact laidMet_of_run' 8 (by kernel_rfl) (by kernel_rfl)
set_option maxRecDepth 100000 in
set_option maxHeartbeats 1000000 in
theorem law_lifted (os : Os) (started : os.Started) (H : Type) (enc : TypeId × Value → H) :
    ReturnsInHanded {} Tryd.checked os 5 .any (fun w args => (Rows.filterSizesSpec.pre enc Tryd.prog Tryd.f5 Rows.filterSizesRow.domain false w args ∧ laidMetH Tryd.prog [("math/bits.deBruijn64tab", Rows.laid_math_bits_deBruijn64tab)] w) ∧ sizedMet enc Tryd.prog Tryd.f5 (OpenSpec.ofChange Rows.filterSizesSpec) false w args)
      (Rows.filterSizesSpec.post enc Tryd.prog Tryd.f5 false true false false) := by
  refine returnsInHanded_of_change_and (C := Tryd.checked) (X := fun w _ => laidMetH Tryd.prog [("math/bits.deBruijn64tab", Rows.laid_math_bits_deBruijn64tab)] w) (fun _ _ _ hh h => h.of_heap hh) own started (by kernel_rfl) Tryd.func5
    (ChangeSpec.witness_shaped (enc := enc) (C := Tryd.checked) (os := os) (X := fun w _ => laidMetH Tryd.prog [("math/bits.deBruijn64tab", Rows.laid_math_bits_deBruijn64tab)] w) false (World.doorLaid Tryd.prog 400 os) #[.agg #[.int .i64 0, .slice none 0 0, .slice none 0 0], .slice none 0 0] 8 rfl (World.shaped_of_RefB (by kernel_rfl) (by kernel_rfl)) (by kernel_rfl) (by kernel_rfl) (by kernel_rfl) (door_met os _)) ?_
  intro W base args ds gs before hval0 hW _ hsz0 hL _
  have hT := of_laid hL
  have hval : ∀ (j : Nat) t v, Tryd.f5.params[j]? = some t → args[j]? = some v → Value.okWide Tryd.prog W .any base t v := hval0
  have hsz : (DataW.weightsEach Tryd.prog (Tryd.f5.params.toList ++ Rows.filterSizesSpec.plain.varTypes Tryd.prog) (ds ++ gs)).all (· ≤ reachBytes) = true := hsz0
  have hW' := hW
  obtain ⟨p, q, hA0, hV, rfl, hfz, hnd⟩ := hW
  have hA : DataW.TrodAll enc Tryd.prog W 0 (fun _ => true) true Tryd.f5.params.toList args.toList ds p := hA0
  rw [Tryd.params5] at hA hval hsz
  obtain ⟨v0, v1, d0, d1, p0, p1, rfl, rfl, rfl, h0, h1⟩ := trodAll_two hA
  obtain ⟨rfl, rfl⟩ := trodVars_none hV
  have hv0 : Rows.filterSizesSpec.plain.varTypes Tryd.prog = [] := rfl
  rw [hv0] at hsz
  have hz : ∀ n ∈ DataW.weightsEach Tryd.prog [25, 26] [d0, d1], n ≤ reachBytes := fun n hn => by
    have := List.all_eq_true.1 hsz n (by simpa using hn)
    simpa using this
  have k0 := h0
  have k1 := h1
  obtain ⟨m, mv, mr, mvc, mrc, rfl, hmm⟩ := Wt.open_mo rfl (hval 0 25 v0 rfl rfl) h0 (fun n hn => hz n (DataW.weights_mem_each (j := 0) rfl rfl n hn))
  obtain ⟨fa, fl, fc, rfl⟩ := okWide_slice Tryd.underlying26 (hval 1 26 v1 rfl rfl)
  obtain ⟨fu, h1'⟩ := h1
  obtain ⟨fa', f, fc', he1, hff⟩ := Wt.open_rn h1' (fun n hn => hz n (DataW.weights_mem_each (j := 1) rfl rfl n hn))
  simp [Value.cells] at he1
  obtain ⟨rfl, rfl, rfl⟩ := he1
  have hl0 : ∀ y ∈ p0, y.block < W.heap.size := fun y hy => by simpa using hW'.lt y (by simp [hy])
  have hl1 : ∀ y ∈ p1, y.block < W.heap.size := fun y hy => by simpa using hW'.lt y (by simp [hy])
  refine (Wt.filterSizes_any m mv mr mvc mrc fa fc f W hT hmm hff).mono fun e W' he => ?_
  obtain ⟨rfl, hE⟩ := he
  have bel : Below W.heap.size W W' := hE
  refine ⟨_, rfl, ⟨_, _, _, [], p0 ++ (p1), [], hW', trodAll_mk1 (shut_bool Tryd.underlying4 true), trodAll_mk2 (Below.trod laidOut (by kernel_rfl) (of_decide_eq_true (by kernel_rfl)) k0 bel hl0) (Below.trod laidOut (by kernel_rfl) (of_decide_eq_true (by kernel_rfl)) k1 bel (fun y hy => hl1 y (by simpa using hy))), rfl, bel.frame _, fun h => by cases h⟩⟩
theorem filterSizes_holds : Rows.FilterSizesSaid :=
  OpenClaim.holds_of_wide 5 Tryd.f5 rfl rfl rfl rfl rfl rfl rfl ⟨rfl, rfl, rfl, rfl, rfl⟩ rfl rfl rfl rfl rfl (by kernel_rfl) Tryd.func5 (by kernel_rfl)
    (of_decide_eq_true (by kernel_rfl)) (by unfold Func.isWrapper; first | (rw [if_pos (by decide +kernel)]; kernel_rfl) | (rw [if_neg (by decide +kernel)]; exact ⟨rfl, rfl⟩))
    (fun os started H enc _ => law_lifted os started H enc)
theorem filterSizes_card_holds : Rows.FilterSizesCardSaid :=
  Claim7.holds_tied_plain_at .later [] [.data] true Rows.filterSizesCard.stood.harness false
    filterSizes_holds (fun _ h => by cases h) (by kernel_rfl) (fun _ h => by cases h) filterSizes_row_tie rfl ⟨rfl, rfl⟩ (by kernel_rfl) rfl
    (fun f fn hf hfn => by
      obtain rfl : f = 5 := Option.some.inj ((show Tryd.prog.funcNamed "witting/wittinglaw23.FilterSizes" = some 5 by kernel_rfl).symm.trans hf) |>.symm
      obtain rfl : fn = Tryd.f5 := (Option.some.inj (Tryd.func5.symm.trans hfn)).symm
      exact ⟨by kernel_rfl, fun j t ht => by
        rw [Tryd.params5] at ht
        have hm : t ∈ [25, 26] := by simpa using Array.mem_of_getElem? ht
        have hall : ([25, 26].all fun u => !Tryd.prog.wantsStandIn u) = true := by kernel_rfl
        exact (show Tryd.prog.wantsStandIn t = false by simpa using List.all_eq_true.1 hall t hm)⟩)
    (by kernel_rfl)
#print axioms filterSizes_card_holds
end Go.Proofs.YtbeaagnahldefaaDoor
