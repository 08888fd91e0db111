/- Walk: wittingref25.Change. -/
import Derived.Test.YticoljmflljghaaGreatDoorMChgR
import Derived.Test.YticoljmflljghaaGreatDoorMRef
import Derived.OwnWalk
import Derived.Deep.CutRange
namespace Wt
open Go Go.RowKit Go.Maps Go.Proofs Fm

theorem RM.ext3 {w w' : World} {va ra : Option Addr} {M : Mo} (r : RM w va ra M) (h : Ext w w') : RM w' va ra M := RM.ext h r

set_option maxRecDepth 20000 in
set_option maxHeartbeats 8000000 in
theorem r25Change_any (M : Mo) (va ra : Option Addr) (vc rc : Nat) (x : Int) (fa : Option Addr) (fc : Nat) (f : List Nd) (ag : Int) (oa : Option Addr) (oc : Nat) (l : List (List Nd)) (w : World) (hm : RM w va ra M) (hf : RN w fa f) (hl : RNN w oa l) (h10 : l.length ≤ 1000000) :
    Calls Tryz.prog 22 #[.agg #[.int .i64 M.worlds, .slice va M.val.length vc, .slice ra M.rel.length rc], .int .i64 x, .slice fa f.length fc, .int .i64 ag, .slice oa l.length oc] w fun e w' => RetC (chgOf M x f ag l) e w w' := by
  have hE0 := (Ext.refl w).alloc (.cells #[.int .i64 M.worlds, .slice va M.val.length vc, .slice ra M.rel.length rc] 25)
  have H := Lib.hid (r25Successful_any M va ra vc rc x fa fc f _ (hm.ext hE0) (hf.ext hE0))
  have HF := Lib.hid (hf.ext hE0)
  have HL := Lib.hid (hl.ext hE0)
  have HM := Lib.hid (hm.ext hE0)
  have hrl := hm.rel.len
  obtain ⟨m0, m1, m2⟩ := MoBox.new w M.worlds M.val M.rel va vc ra rc 25
  dsimp only at m0 m1 m2
  have HE := Lib.hid hE0
  clear hE0 hm hf hl
  by_cases h : afErr M x f = 0
  rotate_left
  · have hq : (afErr M x f != 0) = true := by simpa using h
    have hn : chgOf M x f ag l = ([], [], afErr M x f) := if_pos h
    rw [hn]
    clear h hn
    go_enter Tryz.func22, Tryz.ntmps22
    go_wp2_with fail
    refine H.out.mono ?_
    rintro _ w1 ⟨rfl, hE1⟩
    dsimp only
    go_wp2_with fail
    have hEx := HE.out.trans hE1
    go_ret3
    exact RetC.zero _ hEx
  rw [h] at H
  obtain ⟨hu, k0, p0, rfl, hbk, hp, hpl, hnp⟩ := afErr_ok h
  obtain ⟨N, ok, ok2, e3, -, -, -, hrq⟩ := up_ok hu
  have hk0 : k0 < N := by have := holds_in ok f k0 (bt_lt64 hbk) hbk; rw [bt_allW] at this; simp at this; exact this.2
  have hrl2 : (upM M f).rel.length = M.rel.length := by rw [e3]; simp [arrM]
  by_cases ha : ag < 0 ∨ (M.rel.length : Int) ≤ ag
  · have hn : chgOf M k0 f ag l = ([], [], 2) := by unfold chgOf; rw [if_neg (by simp [h]), if_pos ha]
    rw [hn]
    clear h hn hu hbk hp hpl hnp ok ok2 e3 hrq hk0 hrl2
    go_enter Tryz.func22, Tryz.ntmps22
    go_wp2_with fail
    refine H.out.mono ?_
    rintro _ w1 ⟨rfl, hE1⟩
    dsimp only
    have q0 := hE1.cell m0
    have q1 := hE1.cell m1
    have q2 := hE1.cell m2
    have hEx := HE.out.trans hE1
    by_cases ha1 : ag < 0
    · clear ha
      go_wp2_with fail
      go_ret3
      exact RetC.zero _ hEx
    · have ha2 : (M.rel.length : Int) ≤ ag := by omega
      clear ha
      go_wp2_with fail
      go_ret3
      exact RetC.zero _ hEx
  · obtain ⟨a, rfl⟩ := Int.eq_ofNat_of_zero_le (show 0 ≤ ag by omega)
    have hal : a < M.rel.length := by omega
    have hR : chgR M (upM M f) k0 p0 a (l.drop 0) 0 [] [] = chgOf M k0 f a l := by
      unfold chgOf; rw [if_neg (by simp [h]), if_neg ha, hp]; rfl
    have hkm : k0 < (nth M.rel a).length := by rw [(row_in ok hal).1]; exact hk0
    have hkn : p0 < (nth (upM M f).rel a).length := by rw [(row_in ok2 (by rw [hrl2]; exact hal)).1]; exact hpl
    have hal2 : a < (upM M f).rel.length := by rw [hrl2]; exact hal
    have HRR := Lib.hid hR
    have hr4 := ok.rel
    have hd0 : decide ((a : Int) < 0) = false := by simp
    generalize chgOf M k0 f a l = R at *
    have HUP : Hid (∀ w, RM w va ra M → RN w fa f → Calls Tryz.prog 9 #[.agg #[.int .i64 M.worlds, .slice va M.val.length vc, .slice ra M.rel.length rc], .slice fa f.length fc] w fun e w' => RetRO (upM M f) (natI (upL M f)) 0 e w w') := Lib.hid fun w h1 h2 => by
      have := r25Update_any M va ra vc rc fa fc f w h1 h2
      rw [hu] at this; exact this
    have hnl := natI_len (upL M f)
    have HPP := Lib.hid hp
    clear h hu hbk hp hpl hnp ok ok2 e3 hrq hk0 ha hR hrl2
    generalize upL M f = l2 at *
    generalize upM M f = A at *
    go_enter Tryz.func22, Tryz.ntmps22
    go_wp2_with fail
    refine H.out.mono ?_
    rintro _ ws ⟨rfl, hEs⟩
    dsimp only
    have v0 := hEs.cell m0
    have v1 := hEs.cell m1
    have v2 := hEs.cell m2
    go_wp2_with fail
    refine (HUP.out _ (HM.out.ext hEs) (HF.out.ext hEs)).mono ?_
    rintro _ w1 ⟨va2, ra2, la, vc2, rc2, lc, svs, rfl, hm2, hu2, hEu⟩
    rw [hnl]
    dsimp only
    have hE1 := hEs.trans hEu
    have hE2 : Ext w1 (w1.alloc (.cells #[.int .i64 A.worlds, .slice va2 A.val.length vc2, .slice ra2 A.rel.length rc2] 25)) := (Ext.refl _).alloc _
    have HM2 := Lib.hid (RM.ext hE2 hm2.rm)
    have HU2 := Lib.hid ((hu2 w1 (fun _ _ _ => rfl)).ext hE2)
    have hX := hE1.trans hE2
    obtain ⟨n0, n1, n2⟩ := MoBox.new w1 A.worlds A.val A.rel va2 vc2 ra2 rc2 25
    dsimp only at n0 n1 n2
    have q0 := hE1.cell m0
    have q1 := hE1.cell m1
    have q2 := hE1.cell m2
    have hbq := World.block_lt_of_cell? w1 _ q0
    have HQ : Hid ((w1.alloc (.cells #[.int .i64 A.worlds, .slice va2 A.val.length vc2, .slice ra2 A.rel.length rc2] 25)).cell? ⟨w.heap.size, 0, none⟩ = some (.int .i64 M.worlds) ∧ (w1.alloc (.cells #[.int .i64 A.worlds, .slice va2 A.val.length vc2, .slice ra2 A.rel.length rc2] 25)).cell? ⟨w.heap.size, 1, none⟩ = some (.slice va M.val.length vc) ∧ (w1.alloc (.cells #[.int .i64 A.worlds, .slice va2 A.val.length vc2, .slice ra2 A.rel.length rc2] 25)).cell? ⟨w.heap.size, 2, none⟩ = some (.slice ra M.rel.length rc)) := Lib.hid ⟨hX.cell m0, hX.cell m1, hX.cell m2⟩
    clear hm2 hu2 m0 m1 m2 v0 v1 v2
    go_wp2_with fail
    generalize (w1.alloc (.cells #[.int .i64 A.worlds, .slice va2 A.val.length vc2, .slice ra2 A.rel.length rc2] 25)) = W2 at *
    refine (position_any l2 k0 la lc _ HU2.out).mono ?_
    rintro _ _ ⟨rfl, rfl⟩
    rw [HPP.out]
    dsimp only
    have HN := Lib.hid (And.intro n0 (And.intro n1 n2))
    have HX := Lib.hid hX
    clear n0 n1 n2 q0 q1 q2 hE2 hX
    go_wp2_with fail
    obtain ⟨i0, hi1, hz0, hz1, hz2⟩ := info_parts int_info
    go_loopw [19, 20, 21] (fun v u i wr => ∃ k : Nat, k ≤ l.length ∧ i = .int .i64 (k : Int) ∧ ChgI W2 M A k0 p0 a R l k v u wr) (fun _ _ i _ => l.length - (intOf i).toNat)
    case atStart => exact ⟨0, Nat.zero_le _, rfl, [], [], ⟨Ext.refl _, World.ownsRow_nil _ _ _ _, World.ownsRow_nil _ _ _ _, fun g hg => by cases hg⟩, Nat.le_refl _, Nat.le_refl _, HRR.out⟩
    case round =>
      obtain ⟨k, hk, rfl, le, lo, hG, hle, hlo, hR⟩ := hrel
      generalize u19 = v at *
      generalize u20 = u at *
      have m0 := hG.e.cell HQ.out.1
      have m1 := hG.e.cell HQ.out.2.1
      have m2 := hG.e.cell HQ.out.2.2
      have n0 := hG.e.cell HN.out.1
      have n1 := hG.e.cell HN.out.2.1
      have n2 := hG.e.cell HN.out.2.2
      have HG := Lib.hid hG
      have hX := HX.out.trans hG.e
      by_cases hkl : k < l.length
      · obtain ⟨bl, ol, ga, gc, rfl, hbl, hcl, hgn⟩ := (HL.out.ext hX).get k hkl
        have HGN := Lib.hid hgn
        have HMr := Lib.hid (HM.out.ext hX)
        have HNr := Lib.hid (HM2.out.ext hG.e)
        have hgl := hgn.len
        have hho := r17Check_any M va ra vc rc ga gc (nth l k) wr.drew ((HM.out.ext hX).ext3 (Ext.refl _).drew) (hgn.ext (Ext.refl _).drew)
        rw [drop_nth hkl] at hR
        generalize nth l k = g at *
        have HOne : Hid True := Lib.hid trivial
        clear hG hgn hX
        go_upto_region 12 with fail
        go_cut [14] from 59 to 64 (fun s14 wc => s14 = .int .i64 (reqErr M g) ∧ Hid (Ext wr wc))
        case first =>
          go_region_law (refine step_go (by rfl) ?_; go_simp; refine hho.mono ?_; rintro _ wh ⟨rfl, hEi⟩; dsimp only)
          all_goals
            have HEh := Lib.hid ((Ext.refl wr).drew.trans hEi)
            go_wp2_with fail
            go_meet
            case rel => exact ⟨rfl, HEh⟩
        case rest =>
          obtain ⟨rfl, hEc⟩ := hcut
          rename World => wh
          have hEh := hEc.out
          by_cases hg0 : reqErr M g = 0
          · rw [chgR_ok hg0] at hR
            rw [hg0]
            have p0' := hEh.cell m0
            have p1' := hEh.cell m1
            have p2' := hEh.cell m2
            have r0' := hEh.cell n0
            have r1' := hEh.cell n1
            have r2' := hEh.cell n2
            have l0' := hEh.cell hcl
            have HMw : Hid (∀ w', Ext wh w' → RM w' va ra M) := Lib.hid fun w' e => HMr.out.ext (hEh.trans e)
            have HNw : Hid (∀ w', Ext wh w' → RM w' va2 ra2 A) := Lib.hid fun w' e => HNr.out.ext (hEh.trans e)
            have HGw : Hid (∀ w', Ext wh w' → RN w' ga g) := Lib.hid fun w' e => HGN.out.ext (hEh.trans e)
            have HG2 := Lib.hid (HG.out.ext' hEh)
            have HONE : Hid (∀ y ∈ [Value.int .i64 (k : Int)], y.oneCell' = true) := fun y hy => by
              rcases List.mem_singleton.1 hy with rfl
              rfl
            clear hEh hEc hho hg0 m0 m1 m2 n0 n1 n2 hcl
            go_upto_region 15 with fail
            go_cut [22, 23] from 68 to 83 (fun s22 s23 wc => s22 = .bool (knw M k0 a g) ∧ s23 = .bool (knw A p0 a g) ∧ Hid (Ext wh wc))
            case first =>
              go_region_law (first | (refine step_go (by rfl) ?_; go_simp; refine (r25knows_any _ _ _ _ _ _ _ _ _ _ _ (by first | exact HMw.out _ hk1d | exact HNw.out _ hk1d) (HGw.out _ hk1d) (by first | exact hal | exact hal2) (by first | exact hkm | exact hkn)).mono ?_; rintro _ wk2 ⟨rfl, hk2⟩; dsimp only) | (refine step_go (by rfl) ?_; go_simp; refine (r25knows_any _ _ _ _ _ _ _ _ _ _ _ (by first | exact HMw.out _ (Ext.refl _).drew | exact HNw.out _ (Ext.refl _).drew) (HGw.out _ (Ext.refl _).drew) (by first | exact hal | exact hal2) (by first | exact hkm | exact hkn)).mono ?_; rintro _ wk1 ⟨rfl, hk1⟩; have s0 := hk1.cell p0'; have s1 := hk1.cell p1'; have s2 := hk1.cell p2'; have t0 := hk1.cell r0'; have t1 := hk1.cell r1'; have t2 := hk1.cell r2'; have l1' := hk1.cell l0'; have hk1d := (Ext.refl wh).drew.trans hk1; dsimp only))
              all_goals
                have HEk := Lib.hid (hk1d.trans hk2)
                go_wp2_with fail
                go_meet
                case rel => exact ⟨rfl, rfl, HEk⟩
            case rest =>
              obtain ⟨rfl, rfl, hEk⟩ := hcut
              rename World => wk
              have HG3 := Lib.hid (HG2.out.ext' hEk.out)
              have hsz1 : W2.heap.size ≤ wk.heap.size := HG3.out.e.size
              clear p0' p1' p2' r0' r1' r2' l0'
              cases hbm : knw M k0 a g <;> cases hbn : knw A p0 a g
              · have hR2 : chgR M A k0 p0 a (l.drop (k + 1)) (k + 1) le lo = R := by rw [hbm, hbn] at hR; exact hR
                have HR2 := Lib.hid hR2
                clear hbm hbn hR hR2
                go_wp2
                go_roundw
                case rel => exact ⟨k + 1, hkl, by go_num, _, _, HG3.out, by omega, by omega, HR2.out⟩
                case measure => simp [intOf]; omega
              · have hR2 : chgR M A k0 p0 a (l.drop (k + 1)) (k + 1) (le ++ [k]) lo = R := by rw [hbm, hbn] at hR; exact hR
                have HR2 := Lib.hid hR2
                clear hbm hbn hR hR2
                have HPA : Hid (∀ w', Ext wk w' → GL2 W2 le lo v u w') := Lib.hid fun w' e => HG3.out.ext' e
                go_wp2_with (at_builtin; refine wpList_append_lies _ rfl _ _ 29 rfl W2.heap.size 3 i0 _ 1 8 Tryz.underlying29 hi1 hz0 hz1 hz2 rfl (by decide) v le.length _ rfl (HPA.out _ ((Ext.refl _).alloc _)).o1 ⟨wk.heap.size, 0, none⟩ 1 1 [.int .i64 (k : Int)] rfl rfl (cell_one_new _ _ _) HONE.out (by decide) (by unfold maxLen; omega) (by omega) (Nat.le_trans hsz1 (by simp)) (wk.heap.size + 1) (by simp) ?_; intro gx cap W5 hown hgrow hat hlt2; have hpush := (HPA.out _ ((Ext.refl _).alloc _)).push (x := k) hown hgrow hat (by simp); have HPU := Lib.hid hpush; clear hpush hown hgrow hat)
                go_roundw
                case rel => exact ⟨k + 1, hkl, by go_num, _, _, HPU.out, by simp; omega, by omega, HR2.out⟩
                case measure => simp [intOf]; omega
              · have hR2 : chgR M A k0 p0 a (l.drop (k + 1)) (k + 1) le (lo ++ [k]) = R := by rw [hbm, hbn] at hR; exact hR
                have HR2 := Lib.hid hR2
                clear hbm hbn hR hR2
                have HPA : Hid (∀ w', Ext wk w' → GL2 W2 lo le u v w') := Lib.hid fun w' e => (HG3.out.ext' e).swap
                go_wp2_with (at_builtin; refine wpList_append_lies _ rfl _ _ 29 rfl W2.heap.size 3 i0 _ 1 8 Tryz.underlying29 hi1 hz0 hz1 hz2 rfl (by decide) u lo.length _ rfl (HPA.out _ ((Ext.refl _).alloc _)).o1 ⟨wk.heap.size, 0, none⟩ 1 1 [.int .i64 (k : Int)] rfl rfl (cell_one_new _ _ _) HONE.out (by decide) (by unfold maxLen; omega) (by omega) (Nat.le_trans hsz1 (by simp)) (wk.heap.size + 1) (by simp) ?_; intro gx cap W5 hown hgrow hat hlt2; have hpush := (HPA.out _ ((Ext.refl _).alloc _)).push (x := k) hown hgrow hat (by simp); have HPU := Lib.hid hpush; clear hpush hown hgrow hat)
                go_roundw
                case rel => exact ⟨k + 1, hkl, by go_num, _, _, HPU.out.swap, by omega, by simp; omega, HR2.out⟩
                case measure => simp [intOf]; omega
              · have hR2 : chgR M A k0 p0 a (l.drop (k + 1)) (k + 1) le lo = R := by rw [hbm, hbn] at hR; exact hR
                have HR2 := Lib.hid hR2
                clear hbm hbn hR hR2
                go_wp2
                go_roundw
                case rel => exact ⟨k + 1, hkl, by go_num, _, _, HG3.out, by omega, by omega, HR2.out⟩
                case measure => simp [intOf]; omega
          · rw [chgR_bad hg0] at hR
            have hq1 : (reqErr M g != 0) = true := by simpa using hg0
            have HR2 := Lib.hid hR
            clear hg0 hR
            have hEx := HE.out.trans (HX.out.trans (HG.out.e.trans hEh))
            go_wp2_with fail
            rw [← HR2.out]
            go_ret3
            exact RetC.zero _ hEx
      · obtain rfl : k = l.length := by omega
        rw [List.drop_length] at hR
        have HR2 := Lib.hid (show (le, lo, (0 : Int)) = R from hR)
        obtain ⟨a5, c5, rfl, h5⟩ := hG.ri (by omega)
        obtain ⟨a6, c6, rfl, h6⟩ := hG.swap.ri (by omega)
        have H5 := Lib.hid h5
        have H6 := Lib.hid h6
        clear hG hR h5 h6
        have hEx := HE.out.trans (HX.out.trans HG.out.e)
        go_wp2_with fail
        rw [← HR2.out]
        go_ret3
        exact ⟨a5, a6, c5, c6, rfl, H5.out, H6.out, hEx⟩
end Wt
