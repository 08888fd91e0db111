/- Walks: announce.Update, wittingref25.Update (printed by gen_upd.py). -/
import Derived.Test.YticoljmflljghaaDoorMArr
import Derived.Test.YticoljmflljghaaDoorMRef
import Derived.Test.YticoljmflljghaaDoorMCkC
import Derived.Test.YticoljmflljghaaDoorMBld
import Derived.Test.YticoljmflljghaaDoorMCkA
namespace Wt
open Go Go.RowKit Go.Maps Go.Proofs Fm

set_option maxRecDepth 20000 in
set_option maxHeartbeats 4000000 in
theorem update_any (M : Mo) (va ra : Option Addr) (vc rc : Nat) (fa : Option Addr) (fc : Nat) (f : List Nd) (w : World) (hm : RM w va ra M) (hf : RN w fa f) (hT : Tab w) :
    Calls Tryd.prog 16 #[.agg #[.int .i64 M.worlds, .slice va M.val.length vc, .slice ra M.rel.length rc], .slice fa f.length fc] w fun e w' => RetRO (upM M f) (natI (upL M f)) (upErr M f) e w w' := by
  have hbx := MoBox.new w M.worlds M.val M.rel va vc ra rc 25
  have hE0 : Ext w ((w.alloc (.cells #[.int .i64 M.worlds, .slice va M.val.length vc, .slice ra M.rel.length rc] 25)).alloc (.cells #[.int .i64 0, .slice none 0 0, .slice none 0 0] 25)) := ((Ext.refl w).alloc _).alloc _
  have hbx0 := hbx.ext ((Ext.refl _).alloc (.cells #[.int .i64 0, .slice none 0 0, .slice none 0 0] 25))
  have hm0 := hm.ext hE0
  have hf0 := hf.ext hE0
  have HM0 := Lib.hid hm0
  have HT := Lib.hid (hT.ext hE0)
  obtain ⟨m0, m1, m2⟩ := hbx0
  dsimp only at m0 m1 m2
  have HE := Lib.hid hE0
  have HR := Lib.hid (OutAt.new1 w (.cells #[.int .i64 M.worlds, .slice va M.val.length vc, .slice ra M.rel.length rc] 25) (.int .i64 0) (.slice none 0 0) (.slice none 0 0) 25)
  clear hm hf hbx hE0 hT
  by_cases hM : reqErr M f = 0
  rotate_left
  · have hq : (reqErr M f != 0) = true := by simpa using hM
    have hn : upErr M f = reqErr M f := if_pos hM
    have hn2 : upM M f = ⟨0, [], []⟩ := if_neg (by rw [hn]; exact hM)
    have hn3 : upL M f = [] := if_neg (by rw [hn]; exact hM)
    clear hM
    have HN := Lib.hid hn
    have HN2 := Lib.hid hn2
    have HN3 := Lib.hid hn3
    clear hn hn2 hn3
    go_enter Tryd.func16, Tryd.ntmps16
    go_wp2_with ((go_at_call 17; refine (holds_any M va ra vc rc fa fc f _ hm0 hf0).mono ?_; rintro e w1 ⟨rfl, hE1⟩; obtain ⟨r0, r1, r2, rfz⟩ := HR.out.ext hE1; have f0 := rfz 0; have f1 := rfz 1; have f2 := rfz 2; have HO : Hid (OutAt w1 _ _ _ _) := Lib.hid ⟨r0, r1, r2, rfz⟩; clear rfz; have q0 := hE1.cell m0; have q1 := hE1.cell m1; have q2 := hE1.cell m2; have HE1 := Lib.hid (HE.out.trans hE1)))
    obtain ⟨d0, d1, d2, -⟩ := ((HO.out.set0 (.int .i64 0)).set1 (.slice none 0 0)).set2 (.slice none 0 0)
    have hEx : Ext w (((w1.setCell ⟨w.heap.size + 1, 0, none⟩ (.int .i64 0)).setCell ⟨w.heap.size + 1, 1, none⟩ (.slice none 0 0)).setCell ⟨w.heap.size + 1, 2, none⟩ (.slice none 0 0)) := ((HE1.out.setCell (by simp) _).setCell (by simp) _).setCell (by simp) _
    generalize (((w1.setCell ⟨w.heap.size + 1, 0, none⟩ (.int .i64 0)).setCell ⟨w.heap.size + 1, 1, none⟩ (.slice none 0 0)).setCell ⟨w.heap.size + 1, 2, none⟩ (.slice none 0 0)) = W2 at *
    refine bodyPost_ret (v := .tuple #[.agg #[(.int .i64 0), (.slice none 0 0), (.slice none 0 0)], .slice none 0 0, .int .i64 (reqErr M f)]) ?_ rfl ?_
    · rw [results_cell_two rfl]
      go_simp
    · exact ⟨none, none, none, 0, 0, 0, [], by rw [HN.out, HN2.out, HN3.out]; rfl, by rw [HN2.out]; exact FrM.zero _ _ _, fun w'' _ => by rw [HN3.out]; exact RI.nil _ _, hEx⟩
  have hq : (reqErr M f != 0) = false := by simp [hM]
  by_cases hs : holdsOf M f = 0#64
  · have hq2 : (holdsOf M f == 0#64) = true := by simp [hs]
    have hn : upErr M f = 11 := by unfold upErr; rw [if_neg (by simp [hM]), if_pos hs]
    have hn2 : upM M f = ⟨0, [], []⟩ := if_neg (by rw [hn]; decide)
    have hn3 : upL M f = [] := if_neg (by rw [hn]; decide)
    have HQ := Lib.hid hM
    clear hs hM
    have HN := Lib.hid hn
    have HN2 := Lib.hid hn2
    have HN3 := Lib.hid hn3
    clear hn hn2 hn3
    go_enter Tryd.func16, Tryd.ntmps16
    go_wp2_with ((go_at_call 17; refine (holds_any M va ra vc rc fa fc f _ hm0 hf0).mono ?_; rintro e w1 ⟨rfl, hE1⟩; obtain ⟨r0, r1, r2, rfz⟩ := HR.out.ext hE1; have f0 := rfz 0; have f1 := rfz 1; have f2 := rfz 2; have HO : Hid (OutAt w1 _ _ _ _) := Lib.hid ⟨r0, r1, r2, rfz⟩; clear rfz; have q0 := hE1.cell m0; have q1 := hE1.cell m1; have q2 := hE1.cell m2; have HE1 := Lib.hid (HE.out.trans hE1)))
    obtain ⟨d0, d1, d2, -⟩ := ((HO.out.set0 (.int .i64 0)).set1 (.slice none 0 0)).set2 (.slice none 0 0)
    have hEx : Ext w (((w1.setCell ⟨w.heap.size + 1, 0, none⟩ (.int .i64 0)).setCell ⟨w.heap.size + 1, 1, none⟩ (.slice none 0 0)).setCell ⟨w.heap.size + 1, 2, none⟩ (.slice none 0 0)) := ((HE1.out.setCell (by simp) _).setCell (by simp) _).setCell (by simp) _
    generalize (((w1.setCell ⟨w.heap.size + 1, 0, none⟩ (.int .i64 0)).setCell ⟨w.heap.size + 1, 1, none⟩ (.slice none 0 0)).setCell ⟨w.heap.size + 1, 2, none⟩ (.slice none 0 0)) = W2 at *
    refine bodyPost_ret (v := .tuple #[.agg #[(.int .i64 0), (.slice none 0 0), (.slice none 0 0)], .slice none 0 0, .int .i64 11]) ?_ rfl ?_
    · rw [results_cell_two rfl]
      go_simp
    · exact ⟨none, none, none, 0, 0, 0, [], by rw [HN.out, HN2.out, HN3.out]; rfl, by rw [HN2.out]; exact FrM.zero _ _ _, fun w'' _ => by rw [HN3.out]; exact RI.nil _ _, hEx⟩
  have hq2 : (holdsOf M f == 0#64) = false := by simpa using hs
  have hup := upErr_mk hM hs
  obtain ⟨e1, e2, e3⟩ := up_res hup
  have HRS : Hid (∀ w, RM w va ra M → Tab w → Calls Tryd.prog 19 #[.agg #[.int .i64 M.worlds, .slice va M.val.length vc, .slice ra M.rel.length rc], .int .u64 (un (holdsOf M f))] w fun e w' => RetRO (upM M f) (natI (upL M f)) 0 e w w') := Lib.hid fun w h h2 => by
    have := restrictO_any M va ra vc rc (holdsOf M f) w h h2
    rw [e1, e2, e3, hup] at this; exact this
  have HUP := Lib.hid hup
  clear hM hs e1 e2 e3 hup
  generalize upM M f = A at *
  generalize natI (upL M f) = L at *
  go_enter Tryd.func16, Tryd.ntmps16
  go_wp2_with (first | (go_at_call 17; refine (holds_any M va ra vc rc fa fc f _ hm0 hf0).mono ?_; rintro e w1 ⟨rfl, hE1⟩; obtain ⟨r0, r1, r2, rfz⟩ := HR.out.ext hE1; have f0 := rfz 0; have f1 := rfz 1; have f2 := rfz 2; have HO : Hid (OutAt w1 _ _ _ _) := Lib.hid ⟨r0, r1, r2, rfz⟩; clear rfz; have q0 := hE1.cell m0; have q1 := hE1.cell m1; have q2 := hE1.cell m2; have HE1 := Lib.hid (HE.out.trans hE1)) | (go_at_call 19; refine (HRS.out _ (HM0.out.ext hE1) (HT.out.ext hE1)).mono ?_; rintro e w3 ⟨va2, ra2, la, vc2, rc2, lc, svs, rfl, hm3, hu3, hE3⟩; obtain ⟨r0, r1, r2, rfz⟩ := HO.out.ext hE3; have f0 := rfz 0; have f1 := rfz 1; have f2 := rfz 2; have HO3 : Hid (OutAt w3 _ _ _ _) := Lib.hid ⟨r0, r1, r2, rfz⟩; clear rfz; have HM3 := Lib.hid hm3; have HU3 := Lib.hid hu3; have HB3 := Lib.hid hE3; have hw1s := hE1.size; have HE3 := Lib.hid (HE1.out.trans hE3); clear hm3 hu3))
  simp at hw1s
  have hk3 : ∀ (u : Value) (k : Nat) (W : World), Agree (w.heap.size + 2) W (W.setCell ⟨w.heap.size + 1, k, none⟩ u) := fun u k W j hj _ => heap_setCell_other W ⟨w.heap.size + 1, k, none⟩ j u (by simp; omega)
  have hag : Agree (w.heap.size + 2) w3 (((w3.setCell ⟨w.heap.size + 1, 0, none⟩ (.int .i64 A.worlds)).setCell ⟨w.heap.size + 1, 1, none⟩ (.slice va2 A.val.length vc2)).setCell ⟨w.heap.size + 1, 2, none⟩ (.slice ra2 A.rel.length rc2)) := fun j hj hl => ((hk3 _ _ _ j hj (by simpa [World.setCell] using hl)).trans (hk3 _ _ _ j hj (by simpa [World.setCell] using hl))).trans (hk3 _ _ _ j hj hl)
  have hsz : (((w3.setCell ⟨w.heap.size + 1, 0, none⟩ (.int .i64 A.worlds)).setCell ⟨w.heap.size + 1, 1, none⟩ (.slice va2 A.val.length vc2)).setCell ⟨w.heap.size + 1, 2, none⟩ (.slice ra2 A.rel.length rc2)).heap.size = w3.heap.size := by simp
  obtain ⟨d0, d1, d2, -⟩ := ((HO3.out.set0 (.int .i64 A.worlds)).set1 (.slice va2 A.val.length vc2)).set2 (.slice ra2 A.rel.length rc2)
  have hEx : Ext w (((w3.setCell ⟨w.heap.size + 1, 0, none⟩ (.int .i64 A.worlds)).setCell ⟨w.heap.size + 1, 1, none⟩ (.slice va2 A.val.length vc2)).setCell ⟨w.heap.size + 1, 2, none⟩ (.slice ra2 A.rel.length rc2)) := ((HE3.out.setCell (by simp) _).setCell (by simp) _).setCell (by simp) _
  generalize (((w3.setCell ⟨w.heap.size + 1, 0, none⟩ (.int .i64 A.worlds)).setCell ⟨w.heap.size + 1, 1, none⟩ (.slice va2 A.val.length vc2)).setCell ⟨w.heap.size + 1, 2, none⟩ (.slice ra2 A.rel.length rc2)) = W2 at *
  refine bodyPost_ret (v := .tuple #[.agg #[(.int .i64 A.worlds), (.slice va2 A.val.length vc2), (.slice ra2 A.rel.length rc2)], .slice la L.length lc, .int .i64 0]) ?_ rfl ?_
  · rw [results_cell_two rfl]
    go_simp
  · refine ⟨va2, ra2, la, vc2, rc2, lc, svs, by rw [HUP.out], (HM3.out.mono (by omega) |>.agree hag).mono (by omega), fun w'' ha => ?_, hEx⟩
    refine HU3.out w'' fun j hj hl => ?_
    exact (ha j (by omega) (by rw [hsz]; exact hl)).trans (hag j (by omega) hl)

end Wt

/- Walk: announce.everything; a copy of a model with all of its worlds. -/
namespace Wt
open Go Go.RowKit Go.Maps Go.Proofs Fm

def topF : List Nd := fB ⟨1, 0, 0, 0, 0, 0⟩ []
theorem topF_is : IsF topF (.leaf 1 0 0 0) := ⟨by decide +kernel, by decide +kernel⟩
def evM (M : Mo) : Mo := if moCheck M = 0 then M else ⟨0, [], []⟩
def evL (M : Mo) : List Nat := if moCheck M = 0 then List.range M.worlds.toNat else []
theorem allW_ne {N : Nat} (h : 1 ≤ N) : allW N ≠ 0#64 := fun e => by
  have : bt (allW N) 0 = true := by rw [bt_allW]; simp; omega
  rw [e, bt_zero] at this; cases this
theorem ev_up (M : Mo) : upErr M topF = moCheck M ∧ upM M topF = evM M ∧ upL M topF = evL M := by
  by_cases h : moCheck M = 0
  · obtain ⟨N, ok⟩ := moCheck_ok h
    have hNt : M.worlds.toNat = N := by rw [ok.worlds]; exact Int.toNat_natCast N
    obtain ⟨h1, h2⟩ := set_sem h topF_is
    have hs : semT M (.leaf 1 0 0 0) = (allW N, true) := by simp [semT, valN, hNt]
    rw [hs] at h1 h2
    have h3 : reqErr M topF = 0 := by simpa using h1
    have h2 : holdsOf M topF = allW N := h2
    have hu := upErr_mk h3 (by rw [h2]; exact allW_ne ok.one)
    refine ⟨by rw [hu, h], ?_, ?_⟩
    · unfold upM evM; rw [if_pos hu, if_pos h, h2, memL_allW ok.most, arr_all ok]
    · unfold upL evL; rw [if_pos hu, if_pos h, h2, memL_allW ok.most, hNt]
  · have h3 : reqErr M topF = moCheck M := if_pos h
    have hu : upErr M topF = moCheck M := by unfold upErr; rw [if_pos (by rw [h3]; exact h), h3]
    refine ⟨hu, ?_, ?_⟩
    · unfold upM evM; rw [if_neg (by rw [hu]; exact h), if_neg h]
    · unfold upL evL; rw [if_neg (by rw [hu]; exact h), if_neg h]
set_option maxRecDepth 20000 in
set_option maxHeartbeats 4000000 in
theorem everything_any (M : Mo) (va ra : Option Addr) (vc rc : Nat) (w : World) (hm : RM w va ra M) (hT : Tab w) :
    Calls Tryd.prog 44 #[.agg #[.int .i64 M.worlds, .slice va M.val.length vc, .slice ra M.rel.length rc]] w fun e w' => RetRO (evM M) (natI (evL M)) (moCheck M) e w w' := by
  have hbx := MoBox.new w M.worlds M.val M.rel va vc ra rc 25
  have hE0 : Ext w ((w.alloc (.cells #[.int .i64 M.worlds, .slice va M.val.length vc, .slice ra M.rel.length rc] 25)).alloc (.cells #[.int .i64 0, .slice none 0 0, .slice none 0 0] 25)) := ((Ext.refl w).alloc _).alloc _
  have hbx0 := hbx.ext ((Ext.refl _).alloc (.cells #[.int .i64 0, .slice none 0 0, .slice none 0 0] 25))
  have HM0 := Lib.hid (hm.ext hE0)
  have HT := Lib.hid (hT.ext hE0)
  obtain ⟨m0, m1, m2⟩ := hbx0
  dsimp only at m0 m1 m2
  have HE := Lib.hid hE0
  have HR := Lib.hid (OutAt.new1 w (.cells #[.int .i64 M.worlds, .slice va M.val.length vc, .slice ra M.rel.length rc] 25) (.int .i64 0) (.slice none 0 0) (.slice none 0 0) 25)
  have HU : Hid (∀ w a c, RM w va ra M → RN w a topF → Tab w → Calls Tryd.prog 16 #[.agg #[.int .i64 M.worlds, .slice va M.val.length vc, .slice ra M.rel.length rc], .slice a topF.length c] w fun e w' => RetRO (evM M) (natI (evL M)) (moCheck M) e w w') := Lib.hid fun w a c h h2 h3 => by
    obtain ⟨e1, e2, e3⟩ := ev_up M
    have := update_any M va ra vc rc a c topF w h h2 h3
    rw [e1, e2, e3] at this; exact this
  have HTR : Hid (∀ w, Calls Tryd.prog 28 #[] w fun e w' => RetN topF e w w') := Lib.hid fun w => cTrue_any w
  have hs0 : ((w.alloc (.cells #[.int .i64 M.worlds, .slice va M.val.length vc, .slice ra M.rel.length rc] 25)).alloc (.cells #[.int .i64 0, .slice none 0 0, .slice none 0 0] 25)).heap.size = w.heap.size + 2 := by simp
  clear hm hbx hE0 hT
  generalize evM M = A at *
  generalize natI (evL M) = L at *
  generalize moCheck M = C at *
  generalize topF = tf at *
  go_enter Tryd.func44, Tryd.ntmps44
  go_wp2_with fail
  generalize (w.alloc (.cells #[.int .i64 M.worlds, .slice va M.val.length vc, .slice ra M.rel.length rc] 25)).alloc (.cells #[.int .i64 0, .slice none 0 0, .slice none 0 0] 25) = W0 at *
  go_region_law (first | (refine step_go (by rfl) ?_; go_simp; refine (HTR.out _).mono ?_; rintro _ w1 ⟨ta, tc, rfl, hn1, hE1⟩; have q0 := hE1.cell m0; have q1 := hE1.cell m1; have q2 := hE1.cell m2; dsimp only) | (refine step_go (by rfl) ?_; go_simp; refine (HU.out _ _ _ (HM0.out.ext ((Ext.refl _).drew.trans hE1)) hn1 (HT.out.ext ((Ext.refl _).drew.trans hE1))).mono ?_; rintro _ w3 ⟨va2, ra2, la, vc2, rc2, lc, svs, rfl, hm3, hu3, hE3⟩; obtain ⟨r0, r1, r2, rfz⟩ := HR.out.ext (((Ext.refl _).drew.trans hE1).trans hE3); have f0 := rfz 0; have f1 := rfz 1; have f2 := rfz 2; have HO3 : Hid (OutAt w3 _ _ _ _) := Lib.hid ⟨r0, r1, r2, rfz⟩; clear rfz; have hw1s := hE1.size; have HB3 := Lib.hid hE3; have HM3 := Lib.hid hm3; have HU3 := Lib.hid hu3; have HE3 := Lib.hid (HE.out.trans (((Ext.refl _).drew.trans hE1).trans hE3)); clear hm3 hu3; dsimp only))
  all_goals
    have hw1s : w.heap.size + 2 ≤ w1.heap.size := by rw [← hs0]; exact hw1s
    clear hs0
    go_wp2
    have hk3 : ∀ (u : Value) (k : Nat) (W : World), Agree (w.heap.size + 2) W (W.setCell ⟨w.heap.size + 1, k, none⟩ u) := fun u k W j hj _ => heap_setCell_other W ⟨w.heap.size + 1, k, none⟩ j u (by simp; omega)
    have hag : Agree (w.heap.size + 2) w3 (((w3.setCell ⟨w.heap.size + 1, 0, none⟩ (.int .i64 A.worlds)).setCell ⟨w.heap.size + 1, 1, none⟩ (.slice va2 A.val.length vc2)).setCell ⟨w.heap.size + 1, 2, none⟩ (.slice ra2 A.rel.length rc2)) := fun j hj hl => ((hk3 _ _ _ j hj (by simpa [World.setCell] using hl)).trans (hk3 _ _ _ j hj (by simpa [World.setCell] using hl))).trans (hk3 _ _ _ j hj hl)
    have hsz : (((w3.setCell ⟨w.heap.size + 1, 0, none⟩ (.int .i64 A.worlds)).setCell ⟨w.heap.size + 1, 1, none⟩ (.slice va2 A.val.length vc2)).setCell ⟨w.heap.size + 1, 2, none⟩ (.slice ra2 A.rel.length rc2)).heap.size = w3.heap.size := by simp
    obtain ⟨d0, d1, d2, -⟩ := ((HO3.out.set0 (.int .i64 A.worlds)).set1 (.slice va2 A.val.length vc2)).set2 (.slice ra2 A.rel.length rc2)
    have hEx : Ext w (((w3.setCell ⟨w.heap.size + 1, 0, none⟩ (.int .i64 A.worlds)).setCell ⟨w.heap.size + 1, 1, none⟩ (.slice va2 A.val.length vc2)).setCell ⟨w.heap.size + 1, 2, none⟩ (.slice ra2 A.rel.length rc2)) := ((HE3.out.setCell (by simp) _).setCell (by simp) _).setCell (by simp) _
    generalize (((w3.setCell ⟨w.heap.size + 1, 0, none⟩ (.int .i64 A.worlds)).setCell ⟨w.heap.size + 1, 1, none⟩ (.slice va2 A.val.length vc2)).setCell ⟨w.heap.size + 1, 2, none⟩ (.slice ra2 A.rel.length rc2)) = W2 at *
    refine bodyPost_ret (v := .tuple #[.agg #[(.int .i64 A.worlds), (.slice va2 A.val.length vc2), (.slice ra2 A.rel.length rc2)], .slice la L.length lc, .int .i64 C]) ?_ rfl ?_
    · rw [results_cell_two rfl]
      go_simp
    · refine ⟨va2, ra2, la, vc2, rc2, lc, svs, rfl, (HM3.out.mono (by omega) |>.agree hag).mono (by omega), fun w'' ha => ?_, hEx⟩
      refine HU3.out w'' fun j hj hl => ?_
      exact (ha j (by omega) (by rw [hsz]; exact hl)).trans (hag j (by omega) hl)
end Wt

/- Walks: wittingref05.Few, wittingref25.Few, wittinglaw25.few, same; slices.Index of numbers, wittingref25.position, both through. -/
namespace Wt
open Go Go.RowKit Go.Maps Go.Proofs Fm

set_option maxHeartbeats 400000 in
theorem r5Few_any (fa : Option Addr) (fc n : Nat) (m : Int) (w : World) (_hn : n ≤ 140737488355328) :
    Calls Tryd.prog 51 #[.slice fa n fc, .int .i64 m] w fun e w' => e = .returned (.bool (decide ((n : Int) ≤ m))) ∧ w = w' := by
  go_enter Tryd.func51, Tryd.ntmps51
  go_wp2
  go_ret
  exact ⟨rfl, rfl⟩
/-- Whether the formulas are small and few, and more. -/
def RetF5 (os : List (List Nd)) (e : Ending) (w w' : World) : Prop := ∃ b, e = .returned (.bool b) ∧ Ext w w' ∧ (b = true → os.length ≤ 10 ∧ ∀ j, j < os.length → (nth os j).length ≤ 60)
set_option maxHeartbeats 2000000 in
theorem r25Few_any (oa : Option Addr) (oc : Nat) (os : List (List Nd)) (w : World) (hos : RNN w oa os) :
    Calls Tryd.prog 36 #[.slice oa os.length oc] w fun e w' => RetF5 os e w w' := by
  have HO := Lib.hid hos
  have hol := hos.len
  clear hos
  go_enter Tryd.func36, Tryd.ntmps36
  go_wp2
  go_loop [3] (fun i => ∃ k : Nat, k ≤ os.length ∧ i = .int .i64 k ∧ Hid (∀ j, j < k → (nth os j).length ≤ 60)) (fun i => os.length - (intOf i).toNat)
  case atStart => exact ⟨0, Nat.zero_le _, rfl, fun _ h => absurd h (Nat.not_lt_zero _)⟩
  case round =>
    obtain ⟨k, hk, rfl, hno⟩ := hrel
    by_cases hlt : k < os.length
    · obtain ⟨b, off, a', c', rfl, hb, hc, hu⟩ := HO.out.get k hlt
      have hul := hu.len
      by_cases hq : (nth os k).length ≤ 60
      · have hd : decide (((nth os k).length : Int) ≤ 60) = true := by simp; omega
        go_wp2_with (go_at_call 51; refine (r5Few_any _ _ _ 60 _ hul).mono ?_; rintro _ _ ⟨rfl, rfl⟩; rw [hd])
        go_round
        case rel => exact ⟨k + 1, hlt, by go_num, fun j hj => by
          rcases Nat.lt_or_ge j k with h | h
          · exact hno.out j h
          · obtain rfl : j = k := by omega
            omega⟩
        case measure => simp [intOf]; omega
      · have hd : decide (((nth os k).length : Int) ≤ 60) = false := by simp; omega
        go_wp2_with (go_at_call 51; refine (r5Few_any _ _ _ 60 _ hul).mono ?_; rintro _ _ ⟨rfl, rfl⟩; rw [hd])
        go_ret
        exact ⟨false, rfl, Ext.refl _, fun h => by cases h⟩
    · go_wp2
      go_ret
      exact ⟨_, rfl, Ext.refl _, fun hb => ⟨by have h := of_decide_eq_true hb; omega, fun j hj => hno.out j (by omega)⟩⟩
set_option maxHeartbeats 2000000 in
theorem few25_any (M : Mo) (va ra : Option Addr) (vc rc : Nat) (oa : Option Addr) (oc : Nat) (os : List (List Nd)) (w : World) (hm : RM w va ra M) (hos : RNN w oa os) :
    Calls Tryd.prog 9 #[.agg #[.int .i64 M.worlds, .slice va M.val.length vc, .slice ra M.rel.length rc], .slice oa os.length oc] w fun e w' => RetF5 os e w w' := by
  have hE0 := (Ext.refl w).alloc (.cells #[.int .i64 M.worlds, .slice va M.val.length vc, .slice ra M.rel.length rc] 25)
  have HF := Lib.hid (r13Few_any M va ra vc rc 16 _ (hm.ext hE0))
  have HO := Lib.hid (hos.ext hE0)
  have HE := Lib.hid hE0
  clear hE0
  clear hm hos
  go_enter Tryd.func9, Tryd.ntmps9
  go_wp2_with fail
  refine HF.out.mono ?_
  rintro _ w1 ⟨b, rfl, hE1⟩
  dsimp only
  cases b
  · go_wp2_with fail
    go_ret
    exact ⟨_, rfl, HE.out.trans hE1, fun h => by cases h⟩
  · go_wp2_with fail
    refine (r25Few_any oa oc os _ (HO.out.ext hE1)).mono ?_
    rintro _ w2 ⟨b, rfl, hE2, h2⟩
    dsimp only
    have H2 := Lib.hid h2
    clear h2
    go_wp2_with fail
    go_ret
    exact ⟨_, rfl, HE.out.trans (hE1.trans hE2), H2.out⟩
set_option maxRecDepth 20000 in
set_option maxHeartbeats 1000000 in
/-- Equal lists are the same. -/
theorem same25_any (l : List Int) (a b : Option Addr) (c d : Nat) (w : World) (h1 : RI w a l) (h2 : RI w b l) :
    Calls Tryd.prog 21 #[.slice a l.length c, .slice b l.length d] w fun e w' => e = .returned (.bool true) ∧ Ext w w' := by
  have H1 := Lib.hid h1
  have H2 := Lib.hid h2
  have hl := h1.len
  clear h1 h2
  go_enter Tryd.func21, Tryd.ntmps21
  go_wp2
  go_loopw [13] (fun i wr => ∃ k : Nat, k ≤ l.length ∧ i = .int .i64 (k : Int) ∧ Ext w wr) (fun i _ => l.length - (intOf i).toNat)
  case atStart => exact ⟨0, Nat.zero_le _, rfl, Ext.refl _⟩
  case round =>
    obtain ⟨k, hk, rfl, hE⟩ := hrel
    by_cases hlt : k < l.length
    · obtain ⟨b1, o1, rfl, hb1, hc1⟩ := (H1.out.ext hE).get hlt
      obtain ⟨b2, o2, rfl, hb2, hc2⟩ := (H2.out.ext hE).get hlt
      have hne : (nth l k != nth l k) = false := by simp
      go_wp2_with fail
      go_quiet (fail)
      go_wp2
      go_roundw
      case rel => exact ⟨k + 1, hlt, by go_num, by first | exact hE | exact hE.drew | exact hE.drewN _⟩
      case measure => simp [intOf]; omega
    · go_wp2
      go_ret
      exact ⟨rfl, hE⟩
theorem posI_step {l : List Nat} {x : Int} {k : Nat} (h : ∀ j, j < k → ((nth l j : Nat) : Int) ≠ x) (hk : k < l.length) (he : ((nth l k : Nat) : Int) = x) : posI l x = (k : Int) := by
  have : l.findIdx? (fun n : Nat => (n : Int) == x) = some k := by
    rw [List.findIdx?_eq_some_iff_getElem]
    refine ⟨hk, by rw [← nth_eq _ _ hk]; simpa using he, fun j hj => ?_⟩
    have := h j hj
    rw [nth_eq _ _ (by omega)] at this
    simpa using this
  unfold posI; rw [this]
theorem posI_none {l : List Nat} {x : Int} (h : ∀ j, j < l.length → ((nth l j : Nat) : Int) ≠ x) : posI l x = -1 := by
  have : l.findIdx? (fun n : Nat => (n : Int) == x) = none := by
    rw [List.findIdx?_eq_none_iff]
    intro y hy
    obtain ⟨j, hj, rfl⟩ := mem_nth hy
    simpa using h j hj
  unfold posI; rw [this]
set_option maxHeartbeats 1000000 in
theorem index_any (l : List Nat) (x : Int) (a : Option Addr) (c : Nat) (w : World) (hr : RI w a (natI l)) :
    Calls Tryd.prog 57 #[.slice a l.length c, .int .i64 x] w fun e w' => e = .returned (.int .i64 (posI l x)) ∧ w = w' := by
  have HR := Lib.hid hr
  have hl := hr.len
  have hll : (natI l).length = l.length := by simp [natI]
  rw [hll] at hl
  clear hr
  go_enter Tryd.func57, Tryd.ntmps57
  go_wp2
  go_loop [8] (fun i => ∃ k : Nat, k ≤ l.length ∧ i = .int .i64 (k : Int) ∧ Hid (∀ j, j < k → ((nth l j : Nat) : Int) ≠ x)) (fun i => l.length - (intOf i).toNat)
  case atStart => exact ⟨0, Nat.zero_le _, rfl, fun _ h => absurd h (Nat.not_lt_zero _)⟩
  case round =>
    obtain ⟨k, hk, rfl, hno⟩ := hrel
    by_cases hlt : k < l.length
    · obtain ⟨b, off, rfl, hb, hc⟩ := HR.out.get (k := k) (by omega)
      rw [nth_natI hlt] at hc
      by_cases he : ((nth l k : Nat) : Int) = x
      · have hq : (x == ((nth l k : Nat) : Int)) = true := by simp [he]
        have hp := Lib.hid (posI_step hno.out hlt he)
        clear he
        go_wp2
        go_ret
        exact ⟨by rw [hp.out]; rfl, rfl⟩
      · have hq : (x == ((nth l k : Nat) : Int)) = false := by simp; exact fun h => he h.symm
        have hno2 : Hid (∀ j, j < k + 1 → ((nth l j : Nat) : Int) ≠ x) := Lib.hid (lt_step hno.out he)
        clear he
        go_wp2
        go_round
        case rel => exact ⟨k + 1, hlt, by go_num, hno2⟩
        case measure => simp [intOf]; omega
    · have hp := Lib.hid (posI_none (x := x) (l := l) fun j hj => hno.out j (by omega))
      go_wp2
      go_ret
      exact ⟨by rw [hp.out]; rfl, rfl⟩
/-- The rounds of through. -/
def ThE (w : World) (ws l : List Nat) (k : Nat) (v : Value) (wr : World) : Prop := GL w 3 iv (natI ((thr ws l).take k)) v wr
theorem thr_take (ws l : List Nat) {k : Nat} (hk : k < l.length) : natI ((thr ws l).take (k + 1)) = natI ((thr ws l).take k) ++ [((nth ws (nth l k) : Nat) : Int)] := by
  have h1 : k < (thr ws l).length := by rw [thr_len]; exact hk
  have h2 : (thr ws l)[k] = nth ws (nth l k) := by rw [← nth_eq _ _ h1]; exact nth_mapN _ _ hk
  rw [List.take_add_one, List.getElem?_eq_getElem h1, h2]
  simp [natI]
set_option maxRecDepth 20000 in
set_option maxHeartbeats 2000000 in
theorem through_any (ws l : List Nat) (wa ta : Option Addr) (wc tc : Nat) (w : World) (hw : RI w wa (natI ws)) (ht : RI w ta (natI l)) (hlt : ∀ i, i < l.length → nth l i < ws.length) (h64 : l.length ≤ 64) :
    Calls Tryd.prog 45 #[.slice wa ws.length wc, .slice ta l.length tc] w fun e w' => RetI (natI (thr ws l)) e w w' := by
  have HW := Lib.hid hw
  have HT := Lib.hid ht
  have hwl := hw.len
  have htl := ht.len
  rw [natI_len] at hwl htl
  have hlw := natI_len ws
  have hll := natI_len l
  clear hw ht
  obtain ⟨i0, hi1, hz0, hz1, hz2⟩ := info_parts int_info
  go_enter Tryd.func45, Tryd.ntmps45
  go_wp2
  go_loopw [5, 10] (fun v i wr => ∃ k : Nat, k ≤ l.length ∧ i = .int .i64 (k : Int) ∧ ThE w ws l k v wr) (fun _ i _ => l.length - (intOf i).toNat)
  case atStart => exact ⟨0, Nat.zero_le _, rfl, Ext.refl _, World.ownsRow_nil _ _ _ _⟩
  case round =>
    obtain ⟨k, hk, rfl, hM⟩ := hrel
    have hM : GL w 3 iv (natI ((thr ws l).take k)) u5 wr := hM
    have HM := Lib.hid hM
    by_cases hkl : k < l.length
    · obtain ⟨b1, o1, rfl, hb1, hc1⟩ := (HT.out.ext hM.e).get (k := k) (by omega)
      rw [nth_natI hkl] at hc1
      have hkw := hlt k hkl
      obtain ⟨b2, o2, rfl, hb2, hc2⟩ := (HW.out.ext hM.e).get (k := nth l k) (by omega)
      rw [nth_natI hkw] at hc2
      have hn : natI ((thr ws l).take (k + 1)) = natI ((thr ws l).take k) ++ [((nth ws (nth l k) : Nat) : Int)] := thr_take ws l hkl
      have HN := Lib.hid hn
      have hlk : (natI ((thr ws l).take k)).length = k := by rw [natI_len, List.length_take, thr_len]; omega
      have HO : Hid (∀ o, (wr.alloc o).ownsRow w.heap.size 3 1 u5 (natI ((thr ws l).take k)).length ((natI ((thr ws l).take k)).map iv)) := fun o => (HM.out.ext' ((Ext.refl wr).alloc o)).own
      have HPA : Hid (∀ o, GL w 3 iv (natI ((thr ws l).take k)) u5 (wr.alloc o)) := fun o => HM.out.ext' ((Ext.refl wr).alloc o)
      have HONE : Hid (∀ u ∈ [Value.int .i64 ((nth ws (nth l k) : Nat) : Int)], u.oneCell' = true) := fun u hu => by
        rcases List.mem_singleton.1 hu with rfl
        rfl
      have hsz1 : w.heap.size ≤ wr.heap.size := hM.e.size
      generalize hF : natI ((thr ws l).take k) = F at *
      clear hM hn hF
      go_wp2_with (at_builtin; refine wpList_append_lies _ rfl _ _ 37 rfl w.heap.size 3 i0 _ 1 8 Tryd.underlying37 hi1 hz0 hz1 hz2 rfl (by decide) u5 F.length _ rfl (HO.out _) ⟨wr.heap.size, 0, none⟩ 1 1 [.int .i64 ((nth ws (nth l k) : Nat) : Int)] rfl rfl (cell_one_new _ _ _) HONE.out (by decide) (by unfold maxLen; omega) (by omega) (Nat.le_trans hsz1 (by simp)) (wr.heap.size + 1) (by simp) ?_; intro gx cap W1 hown hgrow hat hlt2; have hpush := (HPA.out _).push (x := ((nth ws (nth l k) : Nat) : Int)) hown hgrow; have HPU := Lib.hid hpush; clear hpush hown hgrow hat)
      go_roundw
      case rel => exact ⟨k + 1, hkl, by go_num, by show GL _ _ _ _ _ _; rw [HN.out]; rw [hlk] at HPU; exact HPU.out⟩
      case measure => simp [intOf]; omega
    · obtain rfl : k = l.length := by omega
      have hfull : (thr ws l).take l.length = thr ws l := List.take_of_length_le (by rw [thr_len]; omega)
      rw [hfull] at hM
      obtain ⟨a, c, hv, hu⟩ := RetI_of hM (by rw [natI_len, thr_len]; omega)
      have HU := Lib.hid hu
      have HV := Lib.hid hv
      have HM2 := Lib.hid hM
      clear hM hu hv
      go_wp2
      go_ret
      exact ⟨a, c, by rw [HV.out]; rfl, HU.out, HM2.out.e⟩
end Wt

/- The state of a walk through announcements: the model now, the worlds of the first one that its worlds were. -/
namespace Wt
open Go Go.RowKit Go.Maps Go.Proofs Fm

/-- Two worlds agree from a block on, but for one block. -/
def AgreeX (B b : Nat) (w' w'' : World) : Prop := ∀ k, B ≤ k → k ≠ b → k < w'.heap.size → w''.heap[k]? = w'.heap[k]?
theorem AgreeX.of {B b : Nat} {w' w'' : World} (h : Agree B w' w'') : AgreeX B b w' w'' := fun k hk _ hl => h k hk hl
theorem AgreeX.ext {B b : Nat} {w w' w'' : World} (e : Ext w w') (h : AgreeX B b w' w'') : AgreeX B b w w'' := fun k hk hb hl => (h k hk hb (Nat.lt_of_lt_of_le hl e.size)).trans (e.block k hl)
theorem AgreeX.set {B b k : Nat} {w w'' : World} {u : Value} (h : AgreeX B b (w.setCell ⟨b, k, none⟩ u) w'') : AgreeX B b w w'' := fun j hj hb hl => by
  have h1 := h j hj hb (by simpa [World.setCell] using hl)
  rw [h1]
  exact heap_setCell_other w ⟨b, k, none⟩ j u (by simpa using hb)
theorem AgreeX.agree {B b B' : Nat} {w w'' : World} (h : AgreeX B b w w'') (h1 : B ≤ B') (h2 : b < B' ∨ w.heap.size ≤ b) : Agree B' w w'' := fun k hk hl => h k (by omega) (by omega) hl
/-- The model now lies in a variable; its memory and the list of worlds lie elsewhere. -/
structure NowAt (B b : Nat) (A : Mo) (ws : List Nat) (va ra wa : Option Addr) (vc rc : Nat) (wr : World) : Prop where
  lo : B ≤ b
  out : OutAt wr b (.int .i64 A.worlds) (.slice va A.val.length vc) (.slice ra A.rel.length rc)
  keep : ∀ w'', AgreeX B b wr w'' → RM w'' va ra A ∧ RI w'' wa (natI ws)
section
variable {B b : Nat} {A : Mo} {ws : List Nat} {va ra wa : Option Addr} {vc rc : Nat} {wr : World}
theorem NowAt.ext {w' : World} (h : NowAt B b A ws va ra wa vc rc wr) (e : Ext wr w') : NowAt B b A ws va ra wa vc rc w' :=
  ⟨h.lo, h.out.ext e, fun w'' ha => h.keep w'' (ha.ext e)⟩
theorem NowAt.rm (h : NowAt B b A ws va ra wa vc rc wr) : RM wr va ra A := (h.keep wr fun _ _ _ _ => rfl).1
theorem NowAt.ri (h : NowAt B b A ws va ra wa vc rc wr) : RI wr wa (natI ws) := (h.keep wr fun _ _ _ _ => rfl).2
theorem NowAt.new {w0 w1 : World} {svs : List Value} (hm : FrM w0.heap.size w1 va ra vc rc A svs) (hu : ∀ w'', Agree w0.heap.size w1 w'' → RI w'' wa (natI ws)) (hB : B ≤ w0.heap.size) (hs : w0.heap.size ≤ w1.heap.size) (T : Nat) :
    NowAt B w1.heap.size A ws va ra wa vc rc (w1.alloc (.cells #[.int .i64 A.worlds, .slice va A.val.length vc, .slice ra A.rel.length rc] T)) := by
  refine ⟨by omega, OutAt.new _ _ _ _ _, fun w'' ha => ?_⟩
  have ha := ha.ext ((Ext.refl w1).alloc _)
  have ha2 : Agree w0.heap.size w1 w'' := ha.agree hB (.inr (Nat.le_refl _))
  exact ⟨(hm.agree ha2).rm, hu w'' ha2⟩
theorem NowAt.newC {w1 : World} {C : Nat} {svs : List Value} (hm : FrM C w1 va ra vc rc A svs) (hu : ∀ w'', Agree C w1 w'' → RI w'' wa (natI ws)) (hB : B ≤ C) (hs : C ≤ w1.heap.size) (T : Nat) :
    NowAt B w1.heap.size A ws va ra wa vc rc (w1.alloc (.cells #[.int .i64 A.worlds, .slice va A.val.length vc, .slice ra A.rel.length rc] T)) := by
  refine ⟨by omega, OutAt.new _ _ _ _ _, fun w'' ha => ?_⟩
  have ha := ha.ext ((Ext.refl w1).alloc _)
  have ha2 : Agree C w1 w'' := ha.agree hB (.inr (Nat.le_refl _))
  exact ⟨(hm.agree ha2).rm, hu w'' ha2⟩
theorem NowAt.set {W : World} {x y z : Value} (h : OutAt W b x y z) (hlo : B ≤ b) (hk : ∀ w'', AgreeX B b W w'' → RM w'' va ra A ∧ RI w'' wa (natI ws)) :
    NowAt B b A ws va ra wa vc rc (((W.setCell ⟨b, 0, none⟩ (.int .i64 A.worlds)).setCell ⟨b, 1, none⟩ (.slice va A.val.length vc)).setCell ⟨b, 2, none⟩ (.slice ra A.rel.length rc)) :=
  ⟨hlo, ((h.set0 _).set1 _).set2 _, fun w'' ha => hk w'' ha.set.set.set⟩
end
/-- A model, a list of worlds, a number and an error. -/
def RetQ (R : Mo × List Nat × Nat × Int) (e : Ending) (w w' : World) : Prop := ∃ va ra la vc rc lc, e = .returned (.tuple #[.agg #[.int .i64 R.1.worlds, .slice va R.1.val.length vc, .slice ra R.1.rel.length rc], .slice la R.2.1.length lc, .int .i64 (R.2.2.1 : Int), .int .i64 R.2.2.2]) ∧ (∀ w'', Agree w.heap.size w' w'' → RM w'' va ra R.1 ∧ RI w'' la (natI R.2.1)) ∧ Ext w w'
theorem results_cell_three {fn : Func} {p u v x : Tmp} {ty : TypeId} (h : fn.results = #[.cell p ty, .tmp u, .tmp v, .tmp x]) (tmps : Array Value) (P : Program) (w : World) :
    (results fn tmps).run P w = ((asAddr (tmps.getD p undef)).run P w).andThen fun a w₁ => ((loadVar ty a).run P w₁).andThen fun y w₂ => .ok (.tuple #[y, tmps.getD u undef, tmps.getD v undef, tmps.getD x undef]) w₂ := by
  simp only [results, h]
  simp [Sem.run_bind, Result.andThen]
theorem Agree.set {B b k : Nat} {w : World} (h : b < B) (u : Value) : Agree B w (w.setCell ⟨b, k, none⟩ u) := fun j hj _ => heap_setCell_other w ⟨b, k, none⟩ j u (by simp; omega)
theorem Agree.trans {B : Nat} {a b c : World} (h : Agree B a b) (k : Agree B b c) (hs : a.heap.size ≤ b.heap.size) : Agree B a c := fun j hj hl => (k j hj (by omega)).trans (h j hj hl)
theorem Agree.set3 {B b : Nat} (w : World) (h : b < B) (x y z : Value) : Agree B w (((w.setCell ⟨b, 0, none⟩ x).setCell ⟨b, 1, none⟩ y).setCell ⟨b, 2, none⟩ z) :=
  ((Agree.set h x).trans (Agree.set h y) (by simp)).trans (Agree.set h z) (by simp)
theorem OutAt.other {w : World} {b b' k : Nat} {x y z u : Value} (h : OutAt w b x y z) (hb : b ≠ b') : OutAt (w.setCell ⟨b', k, none⟩ u) b x y z :=
  h.keep (heap_setCell_other w ⟨b', k, none⟩ b u (by simpa using hb))
theorem OutAt.other3 {w : World} {b b' : Nat} {x y z u v t : Value} (h : OutAt w b x y z) (hb : b ≠ b') : OutAt (((w.setCell ⟨b', 0, none⟩ u).setCell ⟨b', 1, none⟩ v).setCell ⟨b', 2, none⟩ t) b x y z :=
  ((h.other hb).other hb).other hb
theorem Ext.set3 {a w : World} (h : Ext a w) {b : Nat} (hb : a.heap.size ≤ b) (x y z : Value) : Ext a (((w.setCell ⟨b, 0, none⟩ x).setCell ⟨b, 1, none⟩ y).setCell ⟨b, 2, none⟩ z) :=
  ((h.setCell hb x).setCell hb y).setCell hb z
theorem Agree.ofExt {B : Nat} {w' w'' : World} (e : Ext w' w'') : Agree B w' w'' := fun k _ hk => e.block k hk
/-- The model now and the list of worlds, returned. -/
theorem RetQ.now {B b n : Nat} {A : Mo} {ws : List Nat} {va ra wa : Option Addr} {vc rc wc : Nat} {w wr W2 : World} (h : NowAt B b A ws va ra wa vc rc wr) (hr : Agree B wr W2) (hs : wr.heap.size ≤ W2.heap.size) (hw : w.heap.size ≤ B) (hE : Ext w W2) :
    RetQ (A, ws, n, 0) (.returned (.tuple #[.agg #[.int .i64 A.worlds, .slice va A.val.length vc, .slice ra A.rel.length rc], .slice wa ws.length wc, .int .i64 (n : Int), .int .i64 0])) w W2 :=
  ⟨va, ra, wa, vc, rc, wc, rfl, fun w'' ha => h.keep w'' (AgreeX.of (hr.trans (ha.mono hw) hs)), hE⟩
/-- The next model is laid into the variable. -/
theorem NowAt.next {B b : Nat} {A A2 : Mo} {ws ws2 : List Nat} {va ra wa va2 ra2 ta : Option Addr} {vc rc vc2 rc2 : Nat} {wr w2 w3 w4 : World} {svs : List Value} (h : NowAt B b A ws va ra wa vc rc wr) (hB : B ≤ wr.heap.size) (h2 : Ext wr w2) (hm : FrM wr.heap.size w2 va2 ra2 vc2 rc2 A2 svs) (h3 : Ext w2 w3) (h4 : Ext w3 w4)
    (hu : ∀ w'', Agree w3.heap.size w4 w'' → RI w'' ta (natI ws2)) : NowAt B b A2 ws2 va2 ra2 ta vc2 rc2 (((w4.setCell ⟨b, 0, none⟩ (.int .i64 A2.worlds)).setCell ⟨b, 1, none⟩ (.slice va2 A2.val.length vc2)).setCell ⟨b, 2, none⟩ (.slice ra2 A2.rel.length rc2)) := by
  have hb := h.out.lt
  have s2 := h2.size
  have s3 := h3.size
  refine NowAt.set (h.out.ext (h2.trans (h3.trans h4))) h.lo fun w'' ha => ⟨?_, ?_⟩
  · exact (hm.agree ((ha.ext (h3.trans h4)).agree hB (.inl hb))).rm
  · exact hu w'' (ha.agree (by omega) (.inl (by omega)))
theorem RetQ.zero {w w' : World} (k : Nat) (c : Int) (h : Ext w w') : RetQ (⟨0, [], []⟩, [], k, c) (.returned (.tuple #[.agg #[.int .i64 0, .slice none 0 0, .slice none 0 0], .slice none 0 0, .int .i64 (k : Int), .int .i64 c])) w w' :=
  ⟨none, none, none, 0, 0, 0, rfl, fun _ _ => ⟨⟨RU.nil _ _, RR.nil _ _⟩, RI.nil _ _⟩, h⟩
theorem OutAt.ext3 {w : World} {b : Nat} {x y z : Value} (h : OutAt w b x y z) (u v t : Value) (o : Obj) : OutAt ((((w.setCell ⟨b, 0, none⟩ u).setCell ⟨b, 1, none⟩ v).setCell ⟨b, 2, none⟩ t).alloc o) b u v t :=
  (((h.set0 u).set1 v).set2 t).ext ((Ext.refl _).alloc o)
theorem seqR_nil (A : Mo) (ws : List Nat) (i : Nat) : seqR A ws [] i = (A, ws, i, 0) := rfl
theorem seqR_bad {A : Mo} {ws : List Nat} {f : List Nd} {l : List (List Nd)} {i : Nat} (h : upErr A f ≠ 0) : seqR A ws (f :: l) i = (⟨0, [], []⟩, [], i, upErr A f) := if_pos h
theorem seqR_ok {A : Mo} {ws : List Nat} {f : List Nd} {l : List (List Nd)} {i : Nat} (h : upErr A f = 0) : seqR A ws (f :: l) i = seqR (upM A f) (thr ws (upL A f)) l (i + 1) := if_neg (by simp [h])
end Wt

/- A model in memory of its own, one cell of a row written; the model after the announcement whether a formula is true. -/
namespace Wt
open Go Go.RowKit Go.Maps Go.Proofs Fm

theorem nth_setS {α : Type} [Inhabited α] {l : List α} {k : Nat} (x : α) (h : k < l.length) : nth (l.set k x) k = x := by
  rw [nth_eq _ _ (by simpa using h)]; simp
theorem nth_setO {α : Type} [Inhabited α] {l : List α} {k j : Nat} (x : α) (h : j ≠ k) : nth (l.set k x) j = nth l j := by
  unfold nth
  rw [List.getD_eq_getElem?_getD, List.getD_eq_getElem?_getD, List.getElem?_set_ne (by omega)]
section
variable {B : Nat} {w : World} {va ra : Option Addr} {vc rc : Nat} {A A' : Mo} {svs : List Value}
/-- Where a row lies. -/
theorem FrM.row (h : FrM B w va ra vc rc A svs) {q : Nat} (hq : q < A.rel.length) : ∃ b a c, ra = some ⟨b, 0, none⟩ ∧ B ≤ b ∧ b < w.heap.size ∧ nth svs q = .slice a (nth A.rel q).length c ∧ w.cell? ⟨b, q, none⟩ = some (.slice a (nth A.rel q).length c) ∧ RU w a (nth A.rel q) := by
  obtain ⟨a, c, hv, hu⟩ := RU_of_OU (h.rw q hq) (h.big.2.2 q hq)
  rcases h.orr.2 with ⟨e, h0⟩ | ⟨g, cap, cur, e, hb, hg, hnc, hcm, hcs, htake⟩
  · have := h.rl; omega
  · simp only [Value.slice.injEq] at e
    obtain ⟨rfl, -, -⟩ := e
    refine ⟨g, a, c, rfl, hb, (Array.getElem?_eq_some_iff.1 hg).1, hv, ?_, hu⟩
    rw [cell_of_row w g _ cur _ (0, 0) hg, ← hv]
    have hl := h.rl
    have h1 : svs[q]? = some (nth svs q) := by rw [nth_eq svs q (by omega)]; simp [show q < svs.length by omega]
    have h2 : (cur.toList.take (svs.length * 1))[q]? = some (nth svs q) := by rw [htake]; exact h1
    rw [List.getElem?_take, if_pos (by omega)] at h2
    simpa using h2
theorem ownRow_set {T sz n g k : Nat} {v u : Value} {xs : List Value} (h : w.ownsRow B T sz v n xs) (hv : v.ownBlock = none ∨ v.ownBlock ≠ some g) : (w.setCell ⟨g, k, none⟩ u).ownsRow B T sz v n xs :=
  h.kept (row := some g) ⟨rfl, rfl, rfl, by simp, fun j _ hj => heap_setCell_other w ⟨g, k, none⟩ j _ (fun e => hj (by simp [e]))⟩ hv
/-- One cell of a row is written. -/
theorem FrM.set (h : FrM B w va ra vc rc A svs) {q k : Nat} (hq : q < A.rel.length) (hk : k < (nth A.rel q).length) (s : BitVec 64) (h1 : A'.val = A.val) (h2 : A'.rel.length = A.rel.length) (h3 : ∀ j, j ≠ q → nth A'.rel j = nth A.rel j) (h4 : nth A'.rel q = (nth A.rel q).set k s) :
    ∃ g c, nth svs q = .slice (some ⟨g, 0, none⟩) (nth A.rel q).length c ∧ B ≤ g ∧ g < w.heap.size ∧ w.frozen? ⟨g, k, none⟩ = false ∧ w.cell? ⟨g, k, none⟩ = some (uv (nth (nth A.rel q) k)) ∧ FrM B (w.setCell ⟨g, k, none⟩ (uv s)) va ra vc rc A' svs := by
  obtain ⟨b, a, c, -, -, -, hv, -, hu⟩ := h.row hq
  have ho := h.rw q hq
  rw [hv] at ho
  obtain ⟨g, rfl, hb, hg, hf, -, hset⟩ := OU.set ho hk s
  obtain ⟨b2, o2, e2, -, hc2⟩ := hu.get hk
  simp only [Option.some.injEq, Addr.mk.injEq] at e2
  obtain ⟨rfl, rfl, -⟩ := e2
  rw [Nat.zero_add] at hc2
  have hob : (nth svs q).ownBlock = some g := by rw [hv]; rfl
  have hap : ∀ j, j < svs.length → j ≠ q → (nth svs j).ownBlock = none ∨ (nth svs j).ownBlock ≠ some g := fun j hj hne => by
    rcases Nat.lt_or_ge j q with hlt | hge
    · rcases h.dj j q hlt (by rw [h.rl]; exact hq) with h5 | h5
      · rw [hob] at h5; cases h5
      · rw [hob] at h5; exact .inr fun e => h5 e.symm
    · rcases h.dj q j (by omega) hj with h5 | h5
      · exact .inl h5
      · rw [hob] at h5; exact .inr h5
  have hwr : (nth A.rel q).length = ((nth A.rel q).set k s).length := by simp
  refine ⟨g, c, hv, hb, hg, hf, hc2, ⟨?_, ?_, by rw [h.rl, h2], fun j hj => ?_, h.dj, by rw [h1]; exact h.dv, by rw [h1]; exact h.big.1, by rw [h2]; exact h.big.2.1, fun j hj => ?_⟩⟩
  · rw [h1]
    refine ownRow_set h.ov ?_
    rcases h.dv q (by rw [h.rl]; exact hq) with h5 | h5
    · rw [hob] at h5; cases h5
    · rw [hob] at h5; exact .inr fun e => h5 e.symm
  · rw [h2]
    refine ownRow_set h.orr ?_
    rcases own_ne h.orr (h.rw q hq) (by decide) with h5 | h5
    · exact .inl h5
    · rw [hob] at h5; exact .inr h5
  · by_cases hjq : j = q
    · subst hjq
      rw [h4, hv]
      have := hset
      unfold OU at this ⊢
      exact this
    · rw [h3 j hjq]
      exact ownRow_set (h.rw j (by omega)) (hap j (by rw [h.rl]; omega) hjq)
  · by_cases hjq : j = q
    · subst hjq; rw [h4, List.length_set]; exact h.big.2.2 j hq
    · rw [h3 j hjq]; exact h.big.2.2 j (by omega)
end
/-- A world's set after the announcement whether s. -/
def whE (s : BitVec 64) (w : Nat) (x : BitVec 64) : BitVec 64 := if bt s w then x &&& s else x &&& ~~~ s
def whP (s : BitVec 64) (r : List (BitVec 64)) (j : Nat) : List (BitVec 64) := (List.range r.length).map fun w => if w < j then whE s w (nth r w) else nth r w
def whR (s : BitVec 64) (R : List (List (BitVec 64))) (a j : Nat) : List (List (BitVec 64)) := (List.range R.length).map fun q => if q < a then whRow s (nth R q) else if q = a then whP s (nth R q) j else nth R q
theorem nth_mapR {β : Type} [Inhabited β] (F : Nat → β) {n k : Nat} (h : k < n) : nth ((List.range n).map F) k = F k := by
  rw [nth_mapN _ _ (by simpa using h), nth_range h]
theorem whP_len (s : BitVec 64) (r : List (BitVec 64)) (j : Nat) : (whP s r j).length = r.length := by simp [whP]
theorem whR_len (s : BitVec 64) (R : List (List (BitVec 64))) (a j : Nat) : (whR s R a j).length = R.length := by simp [whR]
theorem whP_zero (s : BitVec 64) (r : List (BitVec 64)) : whP s r 0 = r := nth_ext (whP_len _ _ _) fun k hk => by
  rw [whP_len] at hk
  unfold whP
  rw [nth_mapR _ hk]; simp
theorem whP_full (s : BitVec 64) (r : List (BitVec 64)) : whP s r r.length = whRow s r := nth_ext (by simp [whP, whRow]) fun k hk => by
  rw [whP_len] at hk
  unfold whP whRow
  rw [nth_mapR _ hk, nth_mapR _ hk, if_pos hk]
  rfl
theorem whP_nth (s : BitVec 64) (r : List (BitVec 64)) {j : Nat} (h : j < r.length) : nth (whP s r j) j = nth r j := by
  unfold whP
  rw [nth_mapR _ h, if_neg (by omega)]
theorem whP_step (s : BitVec 64) (r : List (BitVec 64)) {j : Nat} (h : j < r.length) : whP s r (j + 1) = (whP s r j).set j (whE s j (nth r j)) := nth_ext (by simp [whP]) fun k hk => by
  rw [whP_len] at hk
  by_cases hkj : k = j
  · subst hkj
    rw [nth_setS _ (by rw [whP_len]; exact hk)]
    unfold whP
    rw [nth_mapR _ hk, if_pos (by omega)]
  · rw [nth_setO _ hkj]
    unfold whP
    rw [nth_mapR _ hk, nth_mapR _ hk]
    by_cases hlt : k < j
    · rw [if_pos hlt, if_pos (by omega)]
    · rw [if_neg hlt, if_neg (by omega)]
theorem whR_nth (s : BitVec 64) (R : List (List (BitVec 64))) {a j : Nat} (h : a < R.length) : nth (whR s R a j) a = whP s (nth R a) j := by
  unfold whR
  rw [nth_mapR _ h, if_neg (by omega), if_pos rfl]
theorem whR_other (s : BitVec 64) (R : List (List (BitVec 64))) {a j q : Nat} (h : q ≠ a) : nth (whR s R a (j + 1)) q = nth (whR s R a j) q := by
  by_cases hq : q < R.length
  · unfold whR
    rw [nth_mapR _ hq, nth_mapR _ hq, if_neg h, if_neg h]
  · rw [nth_out (by rw [whR_len]; omega), nth_out (by rw [whR_len]; omega)]
theorem whR_zero (s : BitVec 64) (R : List (List (BitVec 64))) : whR s R 0 0 = R := nth_ext (whR_len _ _ _ _) fun k hk => by
  rw [whR_len] at hk
  unfold whR
  rw [nth_mapR _ hk, if_neg (by omega)]
  by_cases h : k = 0
  · rw [if_pos h, whP_zero]
  · rw [if_neg h]
theorem whR_next (s : BitVec 64) (R : List (List (BitVec 64))) {a : Nat} : whR s R (a + 1) 0 = whR s R a (nth R a).length := nth_ext (by rw [whR_len, whR_len]) fun k hk => by
  rw [whR_len] at hk
  unfold whR
  rw [nth_mapR _ hk, nth_mapR _ hk]
  rcases Nat.lt_trichotomy k a with h | h | h
  · rw [if_pos (by omega), if_pos h]
  · subst h; rw [if_pos (by omega), if_neg (by omega), if_pos rfl, whP_full]
  · rw [if_neg (show ¬ k < a + 1 by omega), if_neg (show ¬ k < a by omega), if_neg (show ¬ k = a by omega)]
    by_cases h2 : k = a + 1
    · rw [if_pos h2, whP_zero]
    · rw [if_neg h2]
theorem whR_full (s : BitVec 64) (R : List (List (BitVec 64))) : whR s R R.length 0 = R.map (whRow s) := nth_ext (by simp [whR]) fun k hk => by
  rw [whR_len] at hk
  unfold whR
  rw [nth_mapR _ hk, if_pos hk, nth_mapN _ _ hk]
/-- The rounds of Whether. -/
structure WhI (W0 : World) (B bo : Nat) (W : Int) (V : List (BitVec 64)) (R : List (List (BitVec 64))) (s : BitVec 64) (va ra : Option Addr) (vc rc : Nat) (svs : List Value) (a j : Nat) (wr : World) : Prop where
  fr : FrM B wr va ra vc rc ⟨W, V, whR s R a j⟩ svs
  out : OutAt wr bo (.int .i64 W) (.slice va V.length vc) (.slice ra R.length rc)
  old : Below B W0 wr
  sz : W0.heap.size ≤ wr.heap.size
section
variable {W0 wr : World} {B bo : Nat} {W : Int} {V : List (BitVec 64)} {R : List (List (BitVec 64))} {s : BitVec 64} {va ra : Option Addr} {vc rc : Nat} {svs : List Value} {a j : Nat}
theorem WhI.row (h : WhI W0 B bo W V R s va ra vc rc svs a j wr) {q : Nat} (hq : q < R.length) : ∃ b, ra = some ⟨b, 0, none⟩ ∧ b < wr.heap.size ∧ wr.cell? ⟨b, q, none⟩ = some (nth svs q) := by
  obtain ⟨b, p, c, h1, _, h2, h3, h4, _⟩ := h.fr.row (q := q) (by rw [whR_len]; exact hq)
  exact ⟨b, h1, h2, by rw [h3]; exact h4⟩
theorem WhI.step (h : WhI W0 B bo W V R s va ra vc rc svs a j wr) (ha : a < R.length) (hj : j < (nth R a).length) (hsv : ∀ q g, q < R.length → (nth svs q).ownBlock = some g → g < bo) :
    ∃ g c, nth svs a = .slice (some ⟨g, 0, none⟩) (nth R a).length c ∧ g < wr.heap.size ∧ wr.frozen? ⟨g, j, none⟩ = false ∧ wr.cell? ⟨g, j, none⟩ = some (.int .u64 (un (nth (nth R a) j))) ∧ WhI W0 B bo W V R s va ra vc rc svs a (j + 1) (wr.setCell ⟨g, j, none⟩ (.int .u64 (un (whE s j (nth (nth R a) j))))) := by
  have e1 : nth (whR s R a j) a = whP s (nth R a) j := whR_nth s R ha
  obtain ⟨g, c, h1, h2, h3, h4, h5, h6⟩ := h.fr.set (A' := ⟨W, V, whR s R a (j + 1)⟩) (q := a) (k := j) (by rw [whR_len]; exact ha) (by rw [e1, whP_len]; exact hj) (whE s j (nth (nth R a) j)) rfl (by rw [whR_len, whR_len]) (fun q hq => whR_other s R hq) (by rw [whR_nth s R ha, e1]; exact whP_step s _ hj)
  have e1 : nth (whR s R a j) a = whP s (nth R a) j := e1
  dsimp only at h1 h5
  rw [e1, whP_len] at h1
  rw [e1, whP_nth s _ hj] at h5
  refine ⟨g, c, h1, h3, h4, h5, h6, h.out.other (fun e => ?_), h.old.setCell h2 _, by simpa using h.sz⟩
  have := hsv a g ha (by rw [h1]; rfl)
  omega
theorem WhI.zero {M : Mo} (hm : FrM B wr va ra vc rc M svs) (ho : OutAt wr bo (.int .i64 M.worlds) (.slice va M.val.length vc) (.slice ra M.rel.length rc)) (hB : Below B W0 wr) (hs : W0.heap.size ≤ wr.heap.size) : WhI W0 B bo M.worlds M.val M.rel s va ra vc rc svs 0 0 wr :=
  ⟨by rw [whR_zero]; exact hm, ho, hB, hs⟩
theorem WhI.next (h : WhI W0 B bo W V R s va ra vc rc svs a (nth R a).length wr) : WhI W0 B bo W V R s va ra vc rc svs (a + 1) 0 wr :=
  ⟨by rw [whR_next]; exact h.fr, h.out, h.old, h.sz⟩
theorem WhI.drew (h : WhI W0 B bo W V R s va ra vc rc svs a j wr) : WhI W0 B bo W V R s va ra vc rc svs a j wr.drew :=
  ⟨h.fr.agree (Agree.ofExt (Ext.refl _).drew), h.out.ext (Ext.refl _).drew, h.old.drew, h.sz⟩
end
end Wt

/- Walk: model.Rename, at a right model. -/
namespace Wt
open Go Go.RowKit Go.Maps Go.Proofs Fm

def ivn (n : Nat) : Value := .int .i64 (n : Int)
/-- The renaming is injective, and ws is its inverse. -/
structure RenOk (N : Nat) (tl : List Int) (ws : List Nat) : Prop where
  lenT : tl.length = N
  len : ws.length = N
  small : ∀ k, k < N → nth ws k < N
  put : ∀ i, i < N → ∃ k : Nat, k < N ∧ nth tl i = (k : Int) ∧ nth ws k = i
/-- The rounds of Rename. -/
structure RnI (N : Nat) (tl : List Int) (i : Nat) (S : BitVec 64) (D : List Nat) : Prop where
  len : D.length = N
  seen : ∀ i', i' < i → ∀ k : Nat, nth tl i' = (k : Int) → bt S k = true
  put : ∀ i', i' < i → ∃ k : Nat, k < N ∧ nth tl i' = (k : Int) ∧ nth D k = i'
  small : ∀ k, k < N → nth D k < N
theorem nth_set {α : Type} [Inhabited α] {l : List α} {k j : Nat} {x : α} (hk : k < l.length) : nth (l.set k x) j = if j = k then x else nth l j := by
  unfold nth
  simp only [List.getD_eq_getElem?_getD, List.getElem?_set]
  by_cases h : k = j
  · subst h; simp [hk]
  · have : ¬ j = k := fun e => h e.symm
    simp [h, this]
theorem RnI.step {N : Nat} {tl : List Int} {i k : Nat} {S : BitVec 64} {D : List Nat} (h : RnI N tl i S D) (hi : i < N) (h64 : N ≤ 64) (hk : k < N) (e : nth tl i = (k : Int)) (hb : bt S k = false) : RnI N tl (i + 1) (S ||| 1#64 <<< k) (D.set k i) where
  len := by rw [List.length_set]; exact h.len
  seen := fun i' hi' j hj => by
    rw [bt_or]
    rcases Nat.lt_or_ge i' i with h1 | h1
    · rw [h.seen i' h1 j hj]; rfl
    · obtain rfl : i' = i := by omega
      have : j = k := by rw [e] at hj; omega
      subst this
      rw [bt_shl1]; simp; right; omega
  put := fun i' hi' => by
    rcases Nat.lt_or_ge i' i with h1 | h1
    · obtain ⟨j, h2, h3, h4⟩ := h.put i' h1
      refine ⟨j, h2, h3, ?_⟩
      rw [nth_set (by rw [h.len]; exact hk), if_neg, h4]
      rintro rfl
      have := h.seen i' h1 j h3
      rw [hb] at this; cases this
    · obtain rfl : i' = i := by omega
      exact ⟨k, hk, e, by rw [nth_set (by rw [h.len]; exact hk), if_pos rfl]⟩
  small := fun j hj => by
    rw [nth_set (by rw [h.len]; exact hk)]
    split
    · exact hi
    · exact h.small j hj
def RetRen (M : Mo) (N : Nat) (tl : List Int) (e : Ending) (w w' : World) : Prop := ∃ (A : Mo) (va ra : Option Addr) (vc rc : Nat) (c : Int), e = .returned (.tuple #[.agg #[.int .i64 A.worlds, .slice va A.val.length vc, .slice ra A.rel.length rc], .int .i64 c]) ∧ (∀ w'', Agree w.heap.size w' w'' → RM w'' va ra A) ∧ Ext w w' ∧ (c = 0 → ∃ ws, A = arrM M ws ∧ RenOk N tl ws)
theorem RI_of_OGn {w : World} {base T g n c : Nat} {l : List Nat} (h : OG w base T ivn g n c l) (hn : n ≤ 140737488355328) : RI w (some ⟨g, 0, none⟩) (natI l) := by
  have hl := h.len
  refine ⟨by simp [natI]; omega, fun k hk => ⟨g, 0, rfl, ?_⟩⟩
  have hk2 : k < l.length := by simpa [natI] using hk
  rw [Nat.zero_add, nth_natI hk2]
  exact h.cell (by omega)
theorem arrange_len (M : Mo) (va ra : Option Addr) (vc rc : Nat) (ws : List Nat) (wa : Option Addr) (wc n : Nat) (w : World) (N : Nat) (hn : ws.length = n) (ok : MoOk M N) (hm : RM w va ra M) (hw : RI w wa (natI ws)) (hws : ws.length ≤ 64) (hlt : ∀ i, i < ws.length → nth ws i < N) :
    Calls Tryd.prog 49 #[.agg #[.int .i64 M.worlds, .slice va M.val.length vc, .slice ra M.rel.length rc], .slice wa n wc] w fun e w' => RetMA (arrM M ws) e w w' := by
  subst hn; exact arrange_any M va ra vc rc ws wa wc w N ok hm hw hws hlt
/-- The state of the rounds. -/
structure RnS (W0 wr : World) (g N : Nat) (tl : List Int) (i : Nat) (S : BitVec 64) (D : List Nat) : Prop where
  e : Ext W0 wr
  own : OG wr W0.heap.size 3 ivn g N N D
  st : RnI N tl i S D
def RnE (W0 wr : World) (g N : Nat) (tl : List Int) (i : Nat) (sv : Value) : Prop := ∃ S D, sv = .int .u64 (un S) ∧ RnS W0 wr g N tl i S D
end Wt
