/- Walks: announce.after, Successful, knows. -/
import Derived.Test.YticoljmflljghaaDoorMUpd
import Derived.Test.YticoljmflljghaaDoorMCkC
namespace Wt
open Go Go.RowKit Go.Maps Go.Proofs Fm

/-- A model, a place and an error. -/
def RetA (A : Mo) (p c : Int) (e : Ending) (w w' : World) : Prop := ∃ va ra vc rc, e = .returned (.tuple #[.agg #[.int .i64 A.worlds, .slice va A.val.length vc, .slice ra A.rel.length rc], .int .i64 p, .int .i64 c]) ∧ (∀ w'', Agree w.heap.size w' w'' → RM w'' va ra A) ∧ Ext w w'
theorem RetA.zero {w w' : World} (c : Int) (h : Ext w w') : RetA ⟨0, [], []⟩ 0 c (.returned (.tuple #[.agg #[.int .i64 0, .slice none 0 0, .slice none 0 0], .int .i64 0, .int .i64 c])) w w' :=
  ⟨none, none, 0, 0, rfl, fun _ _ => ⟨RU.nil _ _, RR.nil _ _⟩, h⟩
def afM (M : Mo) (x : Int) (f : List Nd) : Mo := if afErr M x f ≠ 0 then ⟨0, [], []⟩ else upM M f
def afP (M : Mo) (x : Int) (f : List Nd) : Int := if afErr M x f ≠ 0 then 0 else posI (upL M f) x
set_option maxRecDepth 20000 in
set_option maxHeartbeats 4000000 in
theorem after_any (M : Mo) (va ra : Option Addr) (vc rc : Nat) (x : Int) (fa : Option Addr) (fc : Nat) (f : List Nd) (w : World) (hm : RM w va ra M) (hf : RN w fa f) (hT : Tab w) :
    Calls Tryd.prog 41 #[.agg #[.int .i64 M.worlds, .slice va M.val.length vc, .slice ra M.rel.length rc], .int .i64 x, .slice fa f.length fc] w fun e w' => RetA (afM M x f) (afP M x f) (afErr M x f) e w w' := by
  have hbx := MoBox.new w M.worlds M.val M.rel va vc ra rc 25
  have hE0 : Ext w ((w.alloc (.cells #[.int .i64 M.worlds, .slice va M.val.length vc, .slice ra M.rel.length rc] 25)).alloc (.cells #[.int .i64 0, .slice none 0 0, .slice none 0 0] 25)) := ((Ext.refl w).alloc _).alloc _
  have hbx0 := hbx.ext ((Ext.refl _).alloc (.cells #[.int .i64 0, .slice none 0 0, .slice none 0 0] 25))
  have hm0 := hm.ext hE0
  have hf0 := hf.ext hE0
  have HM0 := Lib.hid hm0
  have HT := Lib.hid (hT.ext hE0)
  obtain ⟨m0, m1, m2⟩ := hbx0
  dsimp only at m0 m1 m2
  have HE := Lib.hid hE0
  have HR := Lib.hid (OutAt.new1 w (.cells #[.int .i64 M.worlds, .slice va M.val.length vc, .slice ra M.rel.length rc] 25) (.int .i64 0) (.slice none 0 0) (.slice none 0 0) 25)
  clear hm hf hbx hE0 hT
  by_cases hM : atErr M x f = 0
  rotate_left
  · have hq : (atErr M x f != 0) = true := by simpa using hM
    have hn : afErr M x f = atErr M x f := if_pos hM
    have HN := Lib.hid hn
    have HN2 := Lib.hid (show afM M x f = ⟨0, [], []⟩ from if_pos (by rw [hn]; exact hM))
    have HN3 := Lib.hid (show afP M x f = 0 from if_pos (by rw [hn]; exact hM))
    clear hn hM
    go_enter Tryd.func41, Tryd.ntmps41
    go_wp2_with ((go_at_call 42; refine (at_any M va ra vc rc x fa fc f _ hm0 hf0).mono ?_; rintro e w1 ⟨rfl, hE1⟩; obtain ⟨r0, r1, r2, rfz⟩ := HR.out.ext hE1; have f0 := rfz 0; have f1 := rfz 1; have f2 := rfz 2; have HO : Hid (OutAt w1 _ _ _ _) := Lib.hid ⟨r0, r1, r2, rfz⟩; clear rfz; have q0 := hE1.cell m0; have q1 := hE1.cell m1; have q2 := hE1.cell m2; have HE1 := Lib.hid (HE.out.trans hE1)))
    obtain ⟨d0, d1, d2, -⟩ := ((HO.out.set0 (.int .i64 0)).set1 (.slice none 0 0)).set2 (.slice none 0 0)
    have hEx : Ext w (((w1.setCell ⟨w.heap.size + 1, 0, none⟩ (.int .i64 0)).setCell ⟨w.heap.size + 1, 1, none⟩ (.slice none 0 0)).setCell ⟨w.heap.size + 1, 2, none⟩ (.slice none 0 0)) := HE1.out.set3 (by simp) _ _ _
    generalize (((w1.setCell ⟨w.heap.size + 1, 0, none⟩ (.int .i64 0)).setCell ⟨w.heap.size + 1, 1, none⟩ (.slice none 0 0)).setCell ⟨w.heap.size + 1, 2, none⟩ (.slice none 0 0)) = W2 at *
    rw [HN.out, HN2.out, HN3.out]
    refine bodyPost_ret (v := .tuple #[.agg #[(.int .i64 0), (.slice none 0 0), (.slice none 0 0)], .int .i64 0, .int .i64 (atErr M x f)]) ?_ rfl ?_
    · rw [results_cell_two rfl]
      go_simp
    · exact RetA.zero _ hEx
  have hq : (atErr M x f != 0) = false := by simp [hM]
  cases hat : atOf M x f
  · have hn : afErr M x f = 11 := by unfold afErr; rw [if_neg (by simp [hM]), hat]; rfl
    have HN := Lib.hid hn
    have HN2 := Lib.hid (show afM M x f = ⟨0, [], []⟩ from if_pos (by rw [hn]; decide))
    have HN3 := Lib.hid (show afP M x f = 0 from if_pos (by rw [hn]; decide))
    have HAT := Lib.hid hat
    clear hn hM hat
    go_enter Tryd.func41, Tryd.ntmps41
    go_wp2_with ((go_at_call 42; refine (at_any M va ra vc rc x fa fc f _ hm0 hf0).mono ?_; rintro e w1 ⟨rfl, hE1⟩; obtain ⟨r0, r1, r2, rfz⟩ := HR.out.ext hE1; have f0 := rfz 0; have f1 := rfz 1; have f2 := rfz 2; have HO : Hid (OutAt w1 _ _ _ _) := Lib.hid ⟨r0, r1, r2, rfz⟩; clear rfz; have q0 := hE1.cell m0; have q1 := hE1.cell m1; have q2 := hE1.cell m2; have HE1 := Lib.hid (HE.out.trans hE1); rw [HAT.out]))
    obtain ⟨d0, d1, d2, -⟩ := ((HO.out.set0 (.int .i64 0)).set1 (.slice none 0 0)).set2 (.slice none 0 0)
    have hEx : Ext w (((w1.setCell ⟨w.heap.size + 1, 0, none⟩ (.int .i64 0)).setCell ⟨w.heap.size + 1, 1, none⟩ (.slice none 0 0)).setCell ⟨w.heap.size + 1, 2, none⟩ (.slice none 0 0)) := HE1.out.set3 (by simp) _ _ _
    generalize (((w1.setCell ⟨w.heap.size + 1, 0, none⟩ (.int .i64 0)).setCell ⟨w.heap.size + 1, 1, none⟩ (.slice none 0 0)).setCell ⟨w.heap.size + 1, 2, none⟩ (.slice none 0 0)) = W2 at *
    rw [HN.out, HN2.out, HN3.out]
    refine bodyPost_ret (v := .tuple #[.agg #[(.int .i64 0), (.slice none 0 0), (.slice none 0 0)], .int .i64 0, .int .i64 11]) ?_ rfl ?_
    · rw [results_cell_two rfl]
      go_simp
    · exact RetA.zero _ hEx
  have hn : afErr M x f = 0 := by unfold afErr; rw [if_neg (by simp [hM]), hat]; rfl
  have HN := Lib.hid hn
  have HN2 := Lib.hid (show afM M x f = upM M f from if_neg (by simp [hn]))
  have HN3 := Lib.hid (show afP M x f = posI (upL M f) x from if_neg (by simp [hn]))
  have HAT := Lib.hid hat
  have HMM := Lib.hid hM
  obtain ⟨hu, -⟩ := afErr_ok hn
  have HUP : Hid (∀ w, RM w va ra M → RN w fa f → Tab w → Calls Tryd.prog 16 #[.agg #[.int .i64 M.worlds, .slice va M.val.length vc, .slice ra M.rel.length rc], .slice fa f.length fc] w fun e w' => RetRO (upM M f) (natI (upL M f)) 0 e w w') := Lib.hid fun w h h2 h3 => by
    have := update_any M va ra vc rc fa fc f w h h2 h3
    rw [hu] at this; exact this
  have HF0 := Lib.hid hf0
  have hnl := natI_len (upL M f)
  rw [HN.out, HN2.out, HN3.out]
  clear hn hM hat hu
  generalize upM M f = A at *
  generalize upL M f = l2 at *
  generalize hpos : posI l2 x = pos at *
  go_enter Tryd.func41, Tryd.ntmps41
  go_wp2_with (first | (go_at_call 42; refine (at_any M va ra vc rc x fa fc f _ hm0 hf0).mono ?_; rintro e w1 ⟨rfl, hE1⟩; obtain ⟨r0, r1, r2, rfz⟩ := HR.out.ext hE1; have f0 := rfz 0; have f1 := rfz 1; have f2 := rfz 2; have HO : Hid (OutAt w1 _ _ _ _) := Lib.hid ⟨r0, r1, r2, rfz⟩; clear rfz; have q0 := hE1.cell m0; have q1 := hE1.cell m1; have q2 := hE1.cell m2; have HE1 := Lib.hid (HE.out.trans hE1); rw [HAT.out, HMM.out]) | (go_at_call 16; refine (HUP.out _ (HM0.out.ext hE1) (HF0.out.ext hE1) (HT.out.ext hE1)).mono ?_; rintro e w3 ⟨va2, ra2, la, vc2, rc2, lc, svs, rfl, hm3, hu3, hE3⟩; rw [hnl]))
  have hnx := OutAt.new w3 (.int .i64 A.worlds) (.slice va2 A.val.length vc2) (.slice ra2 A.rel.length rc2) 25
  have hE4 : Ext w3 (w3.alloc (.cells #[.int .i64 A.worlds, .slice va2 A.val.length vc2, .slice ra2 A.rel.length rc2] 25)) := (Ext.refl _).alloc _
  generalize w3.alloc (.cells #[.int .i64 A.worlds, .slice va2 A.val.length vc2, .slice ra2 A.rel.length rc2] 25) = w4 at *
  have HO4 := Lib.hid (HO.out.ext (hE3.trans hE4))
  obtain ⟨x0, x1, x2, -⟩ := hnx
  obtain ⟨r0, r1, r2, rfz⟩ := HO4.out
  have f0 := rfz 0
  have f1 := rfz 1
  have f2 := rfz 2
  have hrl := HO4.out.lt
  have hs1 := hE1.size
  simp at hs1
  have HUD := Lib.hid (hu3 w4.drew (Agree.ofExt hE4.drew))
  have HM4 := Lib.hid ((hm3.agree (Agree.ofExt hE4)).mono hs1)
  have HE4 := Lib.hid (HE1.out.trans (hE3.trans hE4))
  clear rfz hm3 hu3
  go_region_law (refine step_go (by rfl) ?_; go_simp; refine (index_any l2 x la lc _ HUD.out).mono ?_; rintro _ _ ⟨rfl, rfl⟩; rw [hpos]; dsimp only)
  all_goals
    go_wp2
    have hEx : Ext w ((((w4.setCell ⟨w.heap.size + 1, 0, none⟩ (.int .i64 A.worlds)).setCell ⟨w.heap.size + 1, 1, none⟩ (.slice va2 A.val.length vc2)).setCell ⟨w.heap.size + 1, 2, none⟩ (.slice ra2 A.rel.length rc2)).drew) := (HE4.out.set3 (by simp) _ _ _).drew
    obtain ⟨d0, d1, d2, -⟩ := (((HO4.out.set0 (.int .i64 A.worlds)).set1 (.slice va2 A.val.length vc2)).set2 (.slice ra2 A.rel.length rc2)).ext (Ext.refl _).drew
    have hag : Agree (w.heap.size + 2) w4 ((((w4.setCell ⟨w.heap.size + 1, 0, none⟩ (.int .i64 A.worlds)).setCell ⟨w.heap.size + 1, 1, none⟩ (.slice va2 A.val.length vc2)).setCell ⟨w.heap.size + 1, 2, none⟩ (.slice ra2 A.rel.length rc2)).drew) := Agree.set3 (B := w.heap.size + 2) w4 (b := w.heap.size + 1) (by omega) (.int .i64 A.worlds) (.slice va2 A.val.length vc2) (.slice ra2 A.rel.length rc2)
    generalize (((w4.setCell ⟨w.heap.size + 1, 0, none⟩ (.int .i64 A.worlds)).setCell ⟨w.heap.size + 1, 1, none⟩ (.slice va2 A.val.length vc2)).setCell ⟨w.heap.size + 1, 2, none⟩ (.slice ra2 A.rel.length rc2)).drew = W2 at *
    refine bodyPost_ret (v := .tuple #[.agg #[.int .i64 A.worlds, .slice va2 A.val.length vc2, .slice ra2 A.rel.length rc2], .int .i64 pos, .int .i64 0]) ?_ rfl ?_
    · rw [results_cell_two rfl]
      go_simp
    · exact ⟨va2, ra2, vc2, rc2, rfl, fun w'' hw => ((HM4.out.agree hag).agree (hw.mono (by omega))).rm, hEx⟩
theorem suc_fact {M : Mo} {x : Int} {f : List Nd} (h : afErr M x f = 0) : atErr (upM M f) (posI (upL M f) x) f = 0 ∧ atOf (upM M f) (posI (upL M f) x) f = sucOf M x f := by
  obtain ⟨hu, k, p, rfl, hb, hp, hpl, hn⟩ := afErr_ok h
  obtain ⟨N, ok, ok2, -, -, -, -, hrq⟩ := up_ok hu
  have h1 : reqErr (upM M f) f = 0 := (hrq f).trans (upErr_ok hu).1
  have h2 : inMo (upM M f) (p : Int) = true := by unfold inMo; rw [ok2.worlds]; simp; omega
  have h3 : atErr (upM M f) (p : Int) f = 0 := by unfold atErr; rw [if_neg (by simp [h1]), h2]; rfl
  rw [hp]
  refine ⟨h3, ?_⟩
  unfold atOf sucOf
  rw [h3, if_neg (by simp [h]), hp]; simp
set_option maxRecDepth 20000 in
set_option maxHeartbeats 2000000 in
theorem successful_any (M : Mo) (va ra : Option Addr) (vc rc : Nat) (x : Int) (fa : Option Addr) (fc : Nat) (f : List Nd) (w : World) (hm : RM w va ra M) (hf : RN w fa f) (hT : Tab w) :
    Calls Tryd.prog 15 #[.agg #[.int .i64 M.worlds, .slice va M.val.length vc, .slice ra M.rel.length rc], .int .i64 x, .slice fa f.length fc] w fun e w' => RetP (.bool (sucOf M x f)) (afErr M x f) e w w' := by
  have hE0 := (Ext.refl w).alloc (.cells #[.int .i64 M.worlds, .slice va M.val.length vc, .slice ra M.rel.length rc] 25)
  have H := Lib.hid (after_any M va ra vc rc x fa fc f _ (hm.ext hE0) (hf.ext hE0) (hT.ext hE0))
  have HF := Lib.hid (hf.ext hE0)
  obtain ⟨m0, m1, m2⟩ := MoBox.new w M.worlds M.val M.rel va vc ra rc 25
  dsimp only at m0 m1 m2
  have HE := Lib.hid hE0
  clear hE0 hm hf hT
  by_cases h : afErr M x f = 0
  · obtain ⟨h1, h2⟩ := suc_fact h
    have e1 : afM M x f = upM M f := if_neg (by simp [h])
    have e2 : afP M x f = posI (upL M f) x := if_neg (by simp [h])
    rw [h, e1, e2] at H
    rw [h]
    have HAT : Hid (∀ w va ra vc rc, RM w va ra (upM M f) → RN w fa f → Calls Tryd.prog 42 #[.agg #[.int .i64 (upM M f).worlds, .slice va (upM M f).val.length vc, .slice ra (upM M f).rel.length rc], .int .i64 (posI (upL M f) x), .slice fa f.length fc] w fun e w' => RetP (.bool (sucOf M x f)) 0 e w w') := Lib.hid fun w va ra vc rc h3 h4 => by
      have := at_any (upM M f) va ra vc rc (posI (upL M f) x) fa fc f w h3 h4
      rw [h1, h2] at this; exact this
    clear h h1 h2 e1 e2
    generalize upM M f = A at *
    generalize posI (upL M f) x = P at *
    go_enter Tryd.func15, Tryd.ntmps15
    go_wp2_with fail
    refine H.out.mono ?_
    rintro _ w1 ⟨va2, ra2, vc2, rc2, rfl, hm2, hE1⟩
    dsimp only
    have hE2 : Ext w1 (w1.alloc (.cells #[.int .i64 A.worlds, .slice va2 A.val.length vc2, .slice ra2 A.rel.length rc2] 25)) := (Ext.refl _).alloc _
    have HM2 := Lib.hid (hm2 _ (Agree.ofExt hE2))
    clear hm2
    go_wp2_with fail
    refine (HAT.out _ _ _ _ _ HM2.out (HF.out.ext (hE1.trans hE2))).mono ?_
    rintro _ w2 ⟨rfl, hE3⟩
    dsimp only
    go_wp2_with fail
    go_ret2
    exact ⟨rfl, HE.out.trans (hE1.trans (hE2.trans hE3))⟩
  · have hq : (afErr M x f != 0) = true := by simpa using h
    have hs : sucOf M x f = false := if_pos h
    rw [hs]
    clear h hs
    go_enter Tryd.func15, Tryd.ntmps15
    go_wp2_with fail
    refine H.out.mono ?_
    rintro _ w1 ⟨va2, ra2, vc2, rc2, rfl, hm2, hE1⟩
    dsimp only
    go_wp2_with fail
    go_ret2
    exact ⟨rfl, HE.out.trans (hE1.alloc _)⟩
set_option maxRecDepth 20000 in
set_option maxHeartbeats 2000000 in
theorem knows_any (M : Mo) (va ra : Option Addr) (vc rc : Nat) (x a : Nat) (fa : Option Addr) (fc : Nat) (f : List Nd) (w : World) (hm : RM w va ra M) (hf : RN w fa f) (ha : a < M.rel.length) (hx : x < (nth M.rel a).length) :
    Calls Tryd.prog 50 #[.agg #[.int .i64 M.worlds, .slice va M.val.length vc, .slice ra M.rel.length rc], .int .i64 (x : Int), .int .i64 (a : Int), .slice fa f.length fc] w fun e w' => e = .returned (.bool (knw M x a f)) ∧ Ext w w' := by
  have hE0 := (Ext.refl w).alloc (.cells #[.int .i64 M.worlds, .slice va M.val.length vc, .slice ra M.rel.length rc] 25)
  have H := Lib.hid (holds_any M va ra vc rc fa fc f _ (hm.ext hE0) (hf.ext hE0))
  have HM := Lib.hid (hm.ext hE0)
  obtain ⟨m0, m1, m2⟩ := MoBox.new w M.worlds M.val M.rel va vc ra rc 25
  dsimp only at m0 m1 m2
  have HE := Lib.hid hE0
  clear hE0 hm hf
  go_enter Tryd.func50, Tryd.ntmps50
  go_wp2_with fail
  refine H.out.mono ?_
  rintro _ w1 ⟨rfl, hE1⟩
  dsimp only
  have q0 := hE1.cell m0
  have q1 := hE1.cell m1
  have q2 := hE1.cell m2
  obtain ⟨b, off, a', c', rfl, hb, hc, hu⟩ := (HM.out.rel.ext hE1).get ha
  obtain ⟨b2, off2, rfl, hb2, hc2⟩ := hu.get hx
  clear hu m0 m1 m2
  go_wp2_with fail
  go_ret
  exact ⟨rfl, HE.out.trans hE1⟩
end Wt
