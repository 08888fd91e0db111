/- Walks: wittingref25.knows, Successful. -/
import Derived.Test.YticoljmflljghaaGreatDoorMChg
import Derived.Test.YticoljmflljghaaGreatDoorMRef
namespace Wt
open Go Go.RowKit Go.Maps Go.Proofs Fm

set_option maxRecDepth 20000 in
set_option maxHeartbeats 2000000 in
theorem r25knows_any (M : Mo) (va ra : Option Addr) (vc rc : Nat) (x a : Nat) (fa : Option Addr) (fc : Nat) (f : List Nd) (w : World) (hm : RM w va ra M) (hf : RN w fa f) (ha : a < M.rel.length) (hx : x < (nth M.rel a).length) :
    Calls Tryz.prog 52 #[.agg #[.int .i64 M.worlds, .slice va M.val.length vc, .slice ra M.rel.length rc], .int .i64 (x : Int), .int .i64 (a : Int), .slice fa f.length fc] w fun e w' => e = .returned (.bool (knw M x a f)) ∧ Ext w w' := by
  have hE0 := (Ext.refl w).alloc (.cells #[.int .i64 M.worlds, .slice va M.val.length vc, .slice ra M.rel.length rc] 25)
  have H := Lib.hid (r17Holds_any M va ra vc rc fa fc f _ (hm.ext hE0) (hf.ext hE0))
  have HM := Lib.hid (hm.ext hE0)
  obtain ⟨m0, m1, m2⟩ := MoBox.new w M.worlds M.val M.rel va vc ra rc 25
  dsimp only at m0 m1 m2
  have HE := Lib.hid hE0
  clear hE0 hm hf
  go_enter Tryz.func52, Tryz.ntmps52
  go_wp2_with fail
  refine H.out.mono ?_
  rintro _ w1 ⟨rfl, hE1⟩
  dsimp only
  have q0 := hE1.cell m0
  have q1 := hE1.cell m1
  have q2 := hE1.cell m2
  obtain ⟨b, off, a', c', rfl, hb, hc, hu⟩ := (HM.out.rel.ext hE1).get ha
  obtain ⟨b2, off2, rfl, hb2, hc2⟩ := hu.get hx
  clear hu m0 m1 m2
  go_wp2_with fail
  go_ret
  exact ⟨rfl, HE.out.trans hE1⟩
set_option maxRecDepth 20000 in
set_option maxHeartbeats 2000000 in
theorem r25Successful_any (M : Mo) (va ra : Option Addr) (vc rc : Nat) (x : Int) (fa : Option Addr) (fc : Nat) (f : List Nd) (w : World) (hm : RM w va ra M) (hf : RN w fa f) :
    Calls Tryz.prog 20 #[.agg #[.int .i64 M.worlds, .slice va M.val.length vc, .slice ra M.rel.length rc], .int .i64 x, .slice fa f.length fc] w fun e w' => RetP (.bool (sucOf M x f)) (afErr M x f) e w w' := by
  have hE0 := (Ext.refl w).alloc (.cells #[.int .i64 M.worlds, .slice va M.val.length vc, .slice ra M.rel.length rc] 25)
  have H := Lib.hid (r17At_any M va ra vc rc x fa fc f _ (hm.ext hE0) (hf.ext hE0))
  have HF := Lib.hid (hf.ext hE0)
  have HM := Lib.hid (hm.ext hE0)
  obtain ⟨m0, m1, m2⟩ := MoBox.new w M.worlds M.val M.rel va vc ra rc 25
  dsimp only at m0 m1 m2
  have HE := Lib.hid hE0
  clear hE0 hm hf
  by_cases hM : atErr M x f = 0
  rotate_left
  · have hq : (atErr M x f != 0) = true := by simpa using hM
    have hn : afErr M x f = atErr M x f := if_pos hM
    have hs : sucOf M x f = false := if_pos (by rw [hn]; exact hM)
    rw [hn, hs]
    clear hn hs hM
    go_enter Tryz.func20, Tryz.ntmps20
    go_wp2_with fail
    refine H.out.mono ?_
    rintro _ w1 ⟨rfl, hE1⟩
    dsimp only
    go_wp2_with fail
    go_ret2
    exact ⟨rfl, HE.out.trans hE1⟩
  have hq : (atErr M x f != 0) = false := by simp [hM]
  cases hat : atOf M x f
  · have hn : afErr M x f = 11 := by unfold afErr; rw [if_neg (by simp [hM]), hat]; rfl
    have hs : sucOf M x f = false := if_pos (by rw [hn]; decide)
    rw [hn, hs]
    rw [hat] at H
    clear hn hs hM hat
    go_enter Tryz.func20, Tryz.ntmps20
    go_wp2_with fail
    refine H.out.mono ?_
    rintro _ w1 ⟨rfl, hE1⟩
    dsimp only
    go_wp2_with fail
    go_ret2
    exact ⟨rfl, HE.out.trans hE1⟩
  · have hn : afErr M x f = 0 := by unfold afErr; rw [if_neg (by simp [hM]), hat]; rfl
    rw [hat, hM] at H
    rw [hn]
    obtain ⟨hu, k, p, hxk, hbk, hp, hpl, hnp⟩ := afErr_ok hn
    have hs : sucOf M x f = hasW (holdsOf (upM M f) f) (posI (upL M f) x) := by
      unfold sucOf
      rw [if_neg (by simp [hn]), hp, hasW_nat]; simp
    rw [hs]
    have HUP : Hid (∀ w, RM w va ra M → RN w fa f → Calls Tryz.prog 9 #[.agg #[.int .i64 M.worlds, .slice va M.val.length vc, .slice ra M.rel.length rc], .slice fa f.length fc] w fun e w' => RetRO (upM M f) (natI (upL M f)) (upErr M f) e w w') := Lib.hid fun w h h2 => r25Update_any M va ra vc rc fa fc f w h h2
    have hnl := natI_len (upL M f)
    clear hn hM hat hu hxk hbk hp hpl hnp hs
    generalize upM M f = A at *
    generalize upL M f = l2 at *
    generalize upErr M f = ue at *
    go_enter Tryz.func20, Tryz.ntmps20
    go_wp2_with fail
    refine H.out.mono ?_
    rintro _ w1 ⟨rfl, hE1⟩
    dsimp only
    have q0 := hE1.cell m0
    have q1 := hE1.cell m1
    have q2 := hE1.cell m2
    clear m0 m1 m2
    go_wp2_with fail
    refine (HUP.out _ (HM.out.ext hE1) (HF.out.ext hE1)).mono ?_
    rintro _ w2 ⟨va2, ra2, la, vc2, rc2, lc, svs, rfl, hm2, hu2, hE2⟩
    rw [hnl]
    dsimp only
    have hE3 : Ext w2 (w2.alloc (.cells #[.int .i64 A.worlds, .slice va2 A.val.length vc2, .slice ra2 A.rel.length rc2] 25)) := (Ext.refl _).alloc _
    have HR := Lib.hid (hm2.rm)
    have HU := Lib.hid (hu2 w2 (fun _ _ _ => rfl))
    clear hm2 hu2 q0 q1 q2
    go_wp2_with fail
    refine (r17Holds_any A va2 ra2 vc2 rc2 fa fc f _ (HR.out.ext hE3) (HF.out.ext (hE1.trans (hE2.trans hE3)))).mono ?_
    rintro _ w3 ⟨rfl, hE4⟩
    dsimp only
    go_wp2_with fail
    refine (position_any l2 x la lc _ (HU.out.ext (hE3.trans hE4))).mono ?_
    rintro _ _ ⟨rfl, rfl⟩
    dsimp only
    go_wp2_with fail
    refine (r13Has_any _ _ _).mono ?_
    rintro _ _ ⟨rfl, rfl⟩
    dsimp only
    go_wp2_with fail
    go_ret2
    exact ⟨rfl, HE.out.trans (hE1.trans (hE2.trans (hE3.trans hE4)))⟩
end Wt
