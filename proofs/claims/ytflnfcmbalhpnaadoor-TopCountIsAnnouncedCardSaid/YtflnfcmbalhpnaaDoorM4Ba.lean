/- Walks: announce.Update, wittingref25.Update (printed by gen_upd.py). -/
import Derived.Test.YtflnfcmbalhpnaaDoorM4Ao
import Derived.Test.YtflnfcmbalhpnaaDoorM4Aq
import Derived.Test.YtflnfcmbalhpnaaDoorM4Az
import Derived.Test.YtflnfcmbalhpnaaDoorM4Al
namespace Wt
open Go Go.RowKit Go.Maps Go.Proofs Fm

set_option maxRecDepth 20000 in
set_option maxHeartbeats 4000000 in
theorem update_any (M : Mo) (va ra : Option Addr) (vc rc : Nat) (fa : Option Addr) (fc : Nat) (f : List Nd) (w : World) (hm : RM w va ra M) (hf : RN w fa f) (hT : Tab w) :
    Calls Tryd.prog 9 #[.agg #[.int .i64 M.worlds, .slice va M.val.length vc, .slice ra M.rel.length rc], .slice fa f.length fc] w fun e w' => RetRO (upM M f) (natI (upL M f)) (upErr M f) e w w' := by
  have hbx := MoBox.new w M.worlds M.val M.rel va vc ra rc 28
  have hE0 : Ext w ((w.alloc (.cells #[.int .i64 M.worlds, .slice va M.val.length vc, .slice ra M.rel.length rc] 28)).alloc (.cells #[.int .i64 0, .slice none 0 0, .slice none 0 0] 28)) := ((Ext.refl w).alloc _).alloc _
  have hbx0 := hbx.ext ((Ext.refl _).alloc (.cells #[.int .i64 0, .slice none 0 0, .slice none 0 0] 28))
  have hm0 := hm.ext hE0
  have hf0 := hf.ext hE0
  have HM0 := Lib.hid hm0
  have HT := Lib.hid (hT.ext hE0)
  obtain ⟨m0, m1, m2⟩ := hbx0
  dsimp only at m0 m1 m2
  have HE := Lib.hid hE0
  have HR := Lib.hid (OutAt.new1 w (.cells #[.int .i64 M.worlds, .slice va M.val.length vc, .slice ra M.rel.length rc] 28) (.int .i64 0) (.slice none 0 0) (.slice none 0 0) 28)
  clear hm hf hbx hE0 hT
  by_cases hM : reqErr M f = 0
  rotate_left
  · have hq : (reqErr M f != 0) = true := by simpa using hM
    have hn : upErr M f = reqErr M f := if_pos hM
    have hn2 : upM M f = ⟨0, [], []⟩ := if_neg (by rw [hn]; exact hM)
    have hn3 : upL M f = [] := if_neg (by rw [hn]; exact hM)
    clear hM
    have HN := Lib.hid hn
    have HN2 := Lib.hid hn2
    have HN3 := Lib.hid hn3
    clear hn hn2 hn3
    go_enter Tryd.func9, Tryd.ntmps9
    go_wp2_with ((go_at_call 25; refine (holds_any M va ra vc rc fa fc f _ hm0 hf0).mono ?_; rintro e w1 ⟨rfl, hE1⟩; obtain ⟨r0, r1, r2, rfz⟩ := HR.out.ext hE1; have f0 := rfz 0; have f1 := rfz 1; have f2 := rfz 2; have HO : Hid (OutAt w1 _ _ _ _) := Lib.hid ⟨r0, r1, r2, rfz⟩; clear rfz; have q0 := hE1.cell m0; have q1 := hE1.cell m1; have q2 := hE1.cell m2; have HE1 := Lib.hid (HE.out.trans hE1)))
    obtain ⟨d0, d1, d2, -⟩ := ((HO.out.set0 (.int .i64 0)).set1 (.slice none 0 0)).set2 (.slice none 0 0)
    have hEx : Ext w (((w1.setCell ⟨w.heap.size + 1, 0, none⟩ (.int .i64 0)).setCell ⟨w.heap.size + 1, 1, none⟩ (.slice none 0 0)).setCell ⟨w.heap.size + 1, 2, none⟩ (.slice none 0 0)) := ((HE1.out.setCell (by simp) _).setCell (by simp) _).setCell (by simp) _
    generalize (((w1.setCell ⟨w.heap.size + 1, 0, none⟩ (.int .i64 0)).setCell ⟨w.heap.size + 1, 1, none⟩ (.slice none 0 0)).setCell ⟨w.heap.size + 1, 2, none⟩ (.slice none 0 0)) = W2 at *
    refine bodyPost_ret (v := .tuple #[.agg #[(.int .i64 0), (.slice none 0 0), (.slice none 0 0)], .slice none 0 0, .int .i64 (reqErr M f)]) ?_ rfl ?_
    · rw [results_cell_two rfl]
      go_simp
    · exact ⟨none, none, none, 0, 0, 0, [], by rw [HN.out, HN2.out, HN3.out]; rfl, by rw [HN2.out]; exact FrM.zero _ _ _, fun w'' _ => by rw [HN3.out]; exact RI.nil _ _, hEx⟩
  have hq : (reqErr M f != 0) = false := by simp [hM]
  by_cases hs : holdsOf M f = 0#64
  · have hq2 : (holdsOf M f == 0#64) = true := by simp [hs]
    have hn : upErr M f = 11 := by unfold upErr; rw [if_neg (by simp [hM]), if_pos hs]
    have hn2 : upM M f = ⟨0, [], []⟩ := if_neg (by rw [hn]; decide)
    have hn3 : upL M f = [] := if_neg (by rw [hn]; decide)
    have HQ := Lib.hid hM
    clear hs hM
    have HN := Lib.hid hn
    have HN2 := Lib.hid hn2
    have HN3 := Lib.hid hn3
    clear hn hn2 hn3
    go_enter Tryd.func9, Tryd.ntmps9
    go_wp2_with ((go_at_call 25; refine (holds_any M va ra vc rc fa fc f _ hm0 hf0).mono ?_; rintro e w1 ⟨rfl, hE1⟩; obtain ⟨r0, r1, r2, rfz⟩ := HR.out.ext hE1; have f0 := rfz 0; have f1 := rfz 1; have f2 := rfz 2; have HO : Hid (OutAt w1 _ _ _ _) := Lib.hid ⟨r0, r1, r2, rfz⟩; clear rfz; have q0 := hE1.cell m0; have q1 := hE1.cell m1; have q2 := hE1.cell m2; have HE1 := Lib.hid (HE.out.trans hE1)))
    obtain ⟨d0, d1, d2, -⟩ := ((HO.out.set0 (.int .i64 0)).set1 (.slice none 0 0)).set2 (.slice none 0 0)
    have hEx : Ext w (((w1.setCell ⟨w.heap.size + 1, 0, none⟩ (.int .i64 0)).setCell ⟨w.heap.size + 1, 1, none⟩ (.slice none 0 0)).setCell ⟨w.heap.size + 1, 2, none⟩ (.slice none 0 0)) := ((HE1.out.setCell (by simp) _).setCell (by simp) _).setCell (by simp) _
    generalize (((w1.setCell ⟨w.heap.size + 1, 0, none⟩ (.int .i64 0)).setCell ⟨w.heap.size + 1, 1, none⟩ (.slice none 0 0)).setCell ⟨w.heap.size + 1, 2, none⟩ (.slice none 0 0)) = W2 at *
    refine bodyPost_ret (v := .tuple #[.agg #[(.int .i64 0), (.slice none 0 0), (.slice none 0 0)], .slice none 0 0, .int .i64 11]) ?_ rfl ?_
    · rw [results_cell_two rfl]
      go_simp
    · exact ⟨none, none, none, 0, 0, 0, [], by rw [HN.out, HN2.out, HN3.out]; rfl, by rw [HN2.out]; exact FrM.zero _ _ _, fun w'' _ => by rw [HN3.out]; exact RI.nil _ _, hEx⟩
  have hq2 : (holdsOf M f == 0#64) = false := by simpa using hs
  have hup := upErr_mk hM hs
  obtain ⟨e1, e2, e3⟩ := up_res hup
  have HRS : Hid (∀ w, RM w va ra M → Tab w → Calls Tryd.prog 26 #[.agg #[.int .i64 M.worlds, .slice va M.val.length vc, .slice ra M.rel.length rc], .int .u64 (un (holdsOf M f))] w fun e w' => RetRO (upM M f) (natI (upL M f)) 0 e w w') := Lib.hid fun w h h2 => by
    have := restrictO_any M va ra vc rc (holdsOf M f) w h h2
    rw [e1, e2, e3, hup] at this; exact this
  have HUP := Lib.hid hup
  clear hM hs e1 e2 e3 hup
  generalize upM M f = A at *
  generalize natI (upL M f) = L at *
  go_enter Tryd.func9, Tryd.ntmps9
  go_wp2_with (first | (go_at_call 25; refine (holds_any M va ra vc rc fa fc f _ hm0 hf0).mono ?_; rintro e w1 ⟨rfl, hE1⟩; obtain ⟨r0, r1, r2, rfz⟩ := HR.out.ext hE1; have f0 := rfz 0; have f1 := rfz 1; have f2 := rfz 2; have HO : Hid (OutAt w1 _ _ _ _) := Lib.hid ⟨r0, r1, r2, rfz⟩; clear rfz; have q0 := hE1.cell m0; have q1 := hE1.cell m1; have q2 := hE1.cell m2; have HE1 := Lib.hid (HE.out.trans hE1)) | (go_at_call 26; refine (HRS.out _ (HM0.out.ext hE1) (HT.out.ext hE1)).mono ?_; rintro e w3 ⟨va2, ra2, la, vc2, rc2, lc, svs, rfl, hm3, hu3, hE3⟩; obtain ⟨r0, r1, r2, rfz⟩ := HO.out.ext hE3; have f0 := rfz 0; have f1 := rfz 1; have f2 := rfz 2; have HO3 : Hid (OutAt w3 _ _ _ _) := Lib.hid ⟨r0, r1, r2, rfz⟩; clear rfz; have HM3 := Lib.hid hm3; have HU3 := Lib.hid hu3; have HB3 := Lib.hid hE3; have hw1s := hE1.size; have HE3 := Lib.hid (HE1.out.trans hE3); clear hm3 hu3))
  simp at hw1s
  have hk3 : ∀ (u : Value) (k : Nat) (W : World), Agree (w.heap.size + 2) W (W.setCell ⟨w.heap.size + 1, k, none⟩ u) := fun u k W j hj _ => heap_setCell_other W ⟨w.heap.size + 1, k, none⟩ j u (by simp; omega)
  have hag : Agree (w.heap.size + 2) w3 (((w3.setCell ⟨w.heap.size + 1, 0, none⟩ (.int .i64 A.worlds)).setCell ⟨w.heap.size + 1, 1, none⟩ (.slice va2 A.val.length vc2)).setCell ⟨w.heap.size + 1, 2, none⟩ (.slice ra2 A.rel.length rc2)) := fun j hj hl => ((hk3 _ _ _ j hj (by simpa [World.setCell] using hl)).trans (hk3 _ _ _ j hj (by simpa [World.setCell] using hl))).trans (hk3 _ _ _ j hj hl)
  have hsz : (((w3.setCell ⟨w.heap.size + 1, 0, none⟩ (.int .i64 A.worlds)).setCell ⟨w.heap.size + 1, 1, none⟩ (.slice va2 A.val.length vc2)).setCell ⟨w.heap.size + 1, 2, none⟩ (.slice ra2 A.rel.length rc2)).heap.size = w3.heap.size := by simp
  obtain ⟨d0, d1, d2, -⟩ := ((HO3.out.set0 (.int .i64 A.worlds)).set1 (.slice va2 A.val.length vc2)).set2 (.slice ra2 A.rel.length rc2)
  have hEx : Ext w (((w3.setCell ⟨w.heap.size + 1, 0, none⟩ (.int .i64 A.worlds)).setCell ⟨w.heap.size + 1, 1, none⟩ (.slice va2 A.val.length vc2)).setCell ⟨w.heap.size + 1, 2, none⟩ (.slice ra2 A.rel.length rc2)) := ((HE3.out.setCell (by simp) _).setCell (by simp) _).setCell (by simp) _
  generalize (((w3.setCell ⟨w.heap.size + 1, 0, none⟩ (.int .i64 A.worlds)).setCell ⟨w.heap.size + 1, 1, none⟩ (.slice va2 A.val.length vc2)).setCell ⟨w.heap.size + 1, 2, none⟩ (.slice ra2 A.rel.length rc2)) = W2 at *
  refine bodyPost_ret (v := .tuple #[.agg #[(.int .i64 A.worlds), (.slice va2 A.val.length vc2), (.slice ra2 A.rel.length rc2)], .slice la L.length lc, .int .i64 0]) ?_ rfl ?_
  · rw [results_cell_two rfl]
    go_simp
  · refine ⟨va2, ra2, la, vc2, rc2, lc, svs, by rw [HUP.out], (HM3.out.mono (by omega) |>.agree hag).mono (by omega), fun w'' ha => ?_, hEx⟩
    refine HU3.out w'' fun j hj hl => ?_
    exact (ha j (by omega) (by rw [hsz]; exact hl)).trans (hag j (by omega) hl)

end Wt
