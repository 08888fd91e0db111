/- Walks: model.Restrict, model.Generated. -/
import Derived.Test.YtdnpgadkklgjeaaDoorArr
namespace Wt
open Go Go.RowKit Go.Maps Go.Proofs Fm

theorem results_cell_two {fn : Func} {p u v : Tmp} {ty : TypeId} (h : fn.results = #[.cell p ty, .tmp u, .tmp v]) (tmps : Array Value) (P : Program) (w : World) :
    (results fn tmps).run P w = ((asAddr (tmps.getD p undef)).run P w).andThen fun a w₁ => ((loadVar ty a).run P w₁).andThen fun x w₂ => .ok (.tuple #[x, tmps.getD u undef, tmps.getD v undef]) w₂ := by
  simp only [results, h]
  simp [Sem.run_bind, Result.andThen]
theorem OutAt.new1 (w : World) (o : Obj) (x y z : Value) (T : Nat) : OutAt ((w.alloc o).alloc (.cells #[x, y, z] T)) (w.heap.size + 1) x y z := by
  have h := OutAt.new (w.alloc o) x y z T
  have hs : (w.alloc o).heap.size = w.heap.size + 1 := by simp
  rw [hs] at h; exact h
theorem OutAt.ext {w w' : World} {b : Nat} {x y z : Value} (h : OutAt w b x y z) (e : Ext w w') : OutAt w' b x y z := h.keep (e.block _ h.lt)
/-- A model, a list of worlds and an error. -/
def RetR (A : Mo) (l : List Int) (c : Int) (e : Ending) (w w' : World) : Prop := ∃ va ra la vc rc lc, e = .returned (.tuple #[.agg #[.int .i64 A.worlds, .slice va A.val.length vc, .slice ra A.rel.length rc], .slice la l.length lc, .int .i64 c]) ∧ (∀ w'', Agree w.heap.size w' w'' → RM w'' va ra A ∧ RI w'' la l) ∧ Ext w w'
def resErr (M : Mo) (s : BitVec 64) : Int := if moCheck M ≠ 0 then moCheck M else if s &&& ~~~ allW M.worlds.toNat ≠ 0#64 then 2 else if s = 0#64 then 6 else 0
def resM (M : Mo) (s : BitVec 64) : Mo := if resErr M s = 0 then arrM M (memL s) else ⟨0, [], []⟩
def resL (M : Mo) (s : BitVec 64) : List Int := if resErr M s = 0 then natI (memL s) else []
set_option maxRecDepth 20000 in
set_option maxHeartbeats 4000000 in
theorem restrict_any (M : Mo) (va ra : Option Addr) (vc rc : Nat) (s : BitVec 64) (w : World) (hm : RM w va ra M) (hT : Tab w) :
    Calls Tryd.prog 10 #[.agg #[.int .i64 M.worlds, .slice va M.val.length vc, .slice ra M.rel.length rc], .int .u64 (un s)] w fun e w' => RetR (resM M s) (resL M s) (resErr M s) e w w' := by
  have hbx := MoBox.new w M.worlds M.val M.rel va vc ra rc 25
  have hE0 : Ext w ((w.alloc (.cells #[.int .i64 M.worlds, .slice va M.val.length vc, .slice ra M.rel.length rc] 25)).alloc (.cells #[.int .i64 0, .slice none 0 0, .slice none 0 0] 25)) := ((Ext.refl w).alloc _).alloc _
  have hbx0 := hbx.ext ((Ext.refl _).alloc (.cells #[.int .i64 0, .slice none 0 0, .slice none 0 0] 25))
  have hm0 := hm.ext hE0
  have HM0 := Lib.hid hm0
  have HT := Lib.hid (hT.ext hE0)
  obtain ⟨m0, m1, m2⟩ := hbx0
  dsimp only at m0 m1 m2
  have HE := Lib.hid hE0
  have HR := Lib.hid (OutAt.new1 w (.cells #[.int .i64 M.worlds, .slice va M.val.length vc, .slice ra M.rel.length rc] 25) (.int .i64 0) (.slice none 0 0) (.slice none 0 0) 25)
  clear hm hbx hE0 hT
  by_cases hM : moCheck M = 0
  rotate_left
  · have hq : (moCheck M != 0) = true := by simpa using hM
    have hn : resErr M s = moCheck M := if_pos hM
    have hn2 : resM M s = ⟨0, [], []⟩ := if_neg (by rw [hn]; exact hM)
    have hn3 : resL M s = [] := if_neg (by rw [hn]; exact hM)
    clear hM
    have HN := Lib.hid hn
    have HN2 := Lib.hid hn2
    have HN3 := Lib.hid hn3
    clear hn hn2 hn3
    go_enter Tryd.func10, Tryd.ntmps10
    go_wp2_with ((go_at_call 28; refine (modelCheck_any M va ra vc rc _ hm0).mono ?_; rintro e w1 ⟨rfl, hE1⟩; obtain ⟨r0, r1, r2, rfz⟩ := HR.out.ext hE1; have f0 := rfz 0; have f1 := rfz 1; have f2 := rfz 2; have HO : Hid (OutAt w1 _ _ _ _) := Lib.hid ⟨r0, r1, r2, rfz⟩; clear rfz; have q0 := hE1.cell m0; have q1 := hE1.cell m1; have q2 := hE1.cell m2; have HE1 := Lib.hid (HE.out.trans hE1)))
    obtain ⟨d0, d1, d2, -⟩ := ((HO.out.set0 (.int .i64 0)).set1 (.slice none 0 0)).set2 (.slice none 0 0)
    have hEx : Ext w (((w1.setCell ⟨w.heap.size + 1, 0, none⟩ (.int .i64 0)).setCell ⟨w.heap.size + 1, 1, none⟩ (.slice none 0 0)).setCell ⟨w.heap.size + 1, 2, none⟩ (.slice none 0 0)) := ((HE1.out.setCell (by simp) _).setCell (by simp) _).setCell (by simp) _
    generalize ((w1.setCell ⟨w.heap.size + 1, 0, none⟩ (.int .i64 0)).setCell ⟨w.heap.size + 1, 1, none⟩ (.slice none 0 0)).setCell ⟨w.heap.size + 1, 2, none⟩ (.slice none 0 0) = W2 at *
    refine bodyPost_ret (v := .tuple #[.agg #[(.int .i64 0), (.slice none 0 0), (.slice none 0 0)], .slice none 0 0, .int .i64 (moCheck M)]) ?_ rfl ?_
    · rw [results_cell_two rfl]
      go_simp
    · exact ⟨none, none, none, 0, 0, 0, by rw [HN.out, HN2.out, HN3.out]; rfl, fun w'' _ => ⟨by rw [HN2.out]; exact ⟨RU.nil _ _, RR.nil _ _⟩, by rw [HN3.out]; exact RI.nil _ _⟩, hEx⟩
  have hq : (moCheck M != 0) = false := by simp [hM]
  obtain ⟨N, ok⟩ := moCheck_ok hM
  have hNt : M.worlds.toNat = N := by rw [ok.worlds]; exact Int.toNat_natCast N
  have HALL : Hid (∀ w, Calls Tryd.prog 30 #[.int .i64 M.worlds] w fun e w' => e = .returned (.int .u64 (un (allW N))) ∧ w = w') := by rw [ok.worlds]; exact Lib.hid fun w => all_any N w
  by_cases hs : s &&& ~~~ allW N = 0#64
  rotate_left
  · have hq2 : (s &&& ~~~ allW N != 0#64) = true := by simpa using hs
    have hn : resErr M s = 2 := by unfold resErr; rw [if_neg (by simp [hM]), hNt, if_pos hs]
    have hn2 : resM M s = ⟨0, [], []⟩ := if_neg (by rw [hn]; decide)
    have hn3 : resL M s = [] := if_neg (by rw [hn]; decide)
    clear hs
    have HN := Lib.hid hn
    have HN2 := Lib.hid hn2
    have HN3 := Lib.hid hn3
    clear hn hn2 hn3
    go_enter Tryd.func10, Tryd.ntmps10
    go_wp2_with (first | (go_at_call 28; refine (modelCheck_any M va ra vc rc _ hm0).mono ?_; rintro e w1 ⟨rfl, hE1⟩; obtain ⟨r0, r1, r2, rfz⟩ := HR.out.ext hE1; have f0 := rfz 0; have f1 := rfz 1; have f2 := rfz 2; have HO : Hid (OutAt w1 _ _ _ _) := Lib.hid ⟨r0, r1, r2, rfz⟩; clear rfz; have q0 := hE1.cell m0; have q1 := hE1.cell m1; have q2 := hE1.cell m2; have HE1 := Lib.hid (HE.out.trans hE1)) | (go_at_call 30; refine (HALL.out _).mono ?_; rintro _ _ ⟨rfl, rfl⟩))
    obtain ⟨d0, d1, d2, -⟩ := ((HO.out.set0 (.int .i64 0)).set1 (.slice none 0 0)).set2 (.slice none 0 0)
    have hEx : Ext w (((w1.setCell ⟨w.heap.size + 1, 0, none⟩ (.int .i64 0)).setCell ⟨w.heap.size + 1, 1, none⟩ (.slice none 0 0)).setCell ⟨w.heap.size + 1, 2, none⟩ (.slice none 0 0)) := ((HE1.out.setCell (by simp) _).setCell (by simp) _).setCell (by simp) _
    generalize ((w1.setCell ⟨w.heap.size + 1, 0, none⟩ (.int .i64 0)).setCell ⟨w.heap.size + 1, 1, none⟩ (.slice none 0 0)).setCell ⟨w.heap.size + 1, 2, none⟩ (.slice none 0 0) = W2 at *
    refine bodyPost_ret (v := .tuple #[.agg #[(.int .i64 0), (.slice none 0 0), (.slice none 0 0)], .slice none 0 0, .int .i64 2]) ?_ rfl ?_
    · rw [results_cell_two rfl]
      go_simp
    · exact ⟨none, none, none, 0, 0, 0, by rw [HN.out, HN2.out, HN3.out]; rfl, fun w'' _ => ⟨by rw [HN2.out]; exact ⟨RU.nil _ _, RR.nil _ _⟩, by rw [HN3.out]; exact RI.nil _ _⟩, hEx⟩
  have hq2 : (s &&& ~~~ allW N != 0#64) = false := by simp [hs]
  by_cases h0 : s = 0#64
  · have hq3 : (s == 0#64) = true := by simp [h0]
    have hn : resErr M s = 6 := by unfold resErr; rw [if_neg (by simp [hM]), hNt, if_neg (by simp [hs]), if_pos h0]
    have hn2 : resM M s = ⟨0, [], []⟩ := if_neg (by rw [hn]; decide)
    have hn3 : resL M s = [] := if_neg (by rw [hn]; decide)
    clear hs h0
    have HN := Lib.hid hn
    have HN2 := Lib.hid hn2
    have HN3 := Lib.hid hn3
    clear hn hn2 hn3
    go_enter Tryd.func10, Tryd.ntmps10
    go_wp2_with (first | (go_at_call 28; refine (modelCheck_any M va ra vc rc _ hm0).mono ?_; rintro e w1 ⟨rfl, hE1⟩; obtain ⟨r0, r1, r2, rfz⟩ := HR.out.ext hE1; have f0 := rfz 0; have f1 := rfz 1; have f2 := rfz 2; have HO : Hid (OutAt w1 _ _ _ _) := Lib.hid ⟨r0, r1, r2, rfz⟩; clear rfz; have q0 := hE1.cell m0; have q1 := hE1.cell m1; have q2 := hE1.cell m2; have HE1 := Lib.hid (HE.out.trans hE1)) | (go_at_call 30; refine (HALL.out _).mono ?_; rintro _ _ ⟨rfl, rfl⟩))
    obtain ⟨d0, d1, d2, -⟩ := ((HO.out.set0 (.int .i64 0)).set1 (.slice none 0 0)).set2 (.slice none 0 0)
    have hEx : Ext w (((w1.setCell ⟨w.heap.size + 1, 0, none⟩ (.int .i64 0)).setCell ⟨w.heap.size + 1, 1, none⟩ (.slice none 0 0)).setCell ⟨w.heap.size + 1, 2, none⟩ (.slice none 0 0)) := ((HE1.out.setCell (by simp) _).setCell (by simp) _).setCell (by simp) _
    generalize ((w1.setCell ⟨w.heap.size + 1, 0, none⟩ (.int .i64 0)).setCell ⟨w.heap.size + 1, 1, none⟩ (.slice none 0 0)).setCell ⟨w.heap.size + 1, 2, none⟩ (.slice none 0 0) = W2 at *
    refine bodyPost_ret (v := .tuple #[.agg #[(.int .i64 0), (.slice none 0 0), (.slice none 0 0)], .slice none 0 0, .int .i64 6]) ?_ rfl ?_
    · rw [results_cell_two rfl]
      go_simp
    · exact ⟨none, none, none, 0, 0, 0, by rw [HN.out, HN2.out, HN3.out]; rfl, fun w'' _ => ⟨by rw [HN2.out]; exact ⟨RU.nil _ _, RR.nil _ _⟩, by rw [HN3.out]; exact RI.nil _ _⟩, hEx⟩
  · have hq3 : (s == 0#64) = false := by simpa using h0
    have hn : resErr M s = 0 := by unfold resErr; rw [if_neg (by simp [hM]), hNt, if_neg (by simp [hs]), if_neg h0]
    have hn2 : resM M s = arrM M (memL s) := if_pos hn
    have hn3 : resL M s = natI (memL s) := if_pos hn
    have HN := Lib.hid hn
    have HN2 := Lib.hid hn2
    have HN3 := Lib.hid hn3
    have hml := memL_len s
    have HLT : Hid (∀ i, i < (memL s).length → nth (memL s) i < N) := Lib.hid fun i hi => by
      have h := mem_memL.1 (show nth (memL s) i ∈ memL s by rw [nth_eq _ _ hi]; exact List.getElem_mem _)
      have h2 := andNot_zero.1 hs _ h.1 h.2
      rw [bt_allW] at h2; simp at h2; exact h2.2
    have hnl : (natI (memL s)).length = (memL s).length := by simp [natI]
    clear hn hn2 hn3 hs h0
    go_enter Tryd.func10, Tryd.ntmps10
    go_wp2_with (first | (go_at_call 28; refine (modelCheck_any M va ra vc rc _ hm0).mono ?_; rintro e w1 ⟨rfl, hE1⟩; obtain ⟨r0, r1, r2, rfz⟩ := HR.out.ext hE1; have f0 := rfz 0; have f1 := rfz 1; have f2 := rfz 2; have HO : Hid (OutAt w1 _ _ _ _) := Lib.hid ⟨r0, r1, r2, rfz⟩; clear rfz; have q0 := hE1.cell m0; have q1 := hE1.cell m1; have q2 := hE1.cell m2; have HE1 := Lib.hid (HE.out.trans hE1)) | (go_at_call 30; refine (HALL.out _).mono ?_; rintro _ _ ⟨rfl, rfl⟩) | (go_at_call 32; refine (members_any s _ (HT.out.ext hE1)).mono ?_; rintro e w2 ⟨la, lc, rfl, hu2, hE2⟩; rw [hnl]; have HU2 := Lib.hid hu2; have hu2r := hu2 w2 (fun _ _ _ => rfl); obtain ⟨r0, r1, r2, rfz⟩ := HO.out.ext hE2; have f0 := rfz 0; have f1 := rfz 1; have f2 := rfz 2; clear rfz; have q0 := hE2.cell q0; have q1 := hE2.cell q1; have q2 := hE2.cell q2) | (go_at_call 29; refine (arrange_any M va ra vc rc (memL s) la lc _ N ok (HM0.out.ext (hE1.trans hE2)) hu2r hml HLT.out).mono ?_; rintro e w3 ⟨va2, ra2, vc2, rc2, rfl, hm3, hE3⟩; obtain ⟨r0, r1, r2, rfz⟩ := HO.out.ext (hE2.trans hE3); have f0 := rfz 0; have f1 := rfz 1; have f2 := rfz 2; have HO3 : Hid (OutAt w3 _ _ _ _) := Lib.hid ⟨r0, r1, r2, rfz⟩; clear rfz; have HM3 := Lib.hid hm3; have HB3 := Lib.hid hE3; have hw1s := hE1.size; have hw2s := hE2.size; have HE3 := Lib.hid (HE1.out.trans (hE2.trans hE3)); clear hm3 hu2 hu2r))
    simp at hw1s
    have hk3 : ∀ (u : Value) (k : Nat) (W : World), Agree (w.heap.size + 2) W (W.setCell ⟨w.heap.size + 1, k, none⟩ u) := fun u k W j hj _ => heap_setCell_other W ⟨w.heap.size + 1, k, none⟩ j u (by simp; omega)
    have hag : Agree (w.heap.size + 2) w3 (((w3.setCell ⟨w.heap.size + 1, 0, none⟩ (.int .i64 (arrM M (memL s)).worlds)).setCell ⟨w.heap.size + 1, 1, none⟩ (.slice va2 (arrM M (memL s)).val.length vc2)).setCell ⟨w.heap.size + 1, 2, none⟩ (.slice ra2 (arrM M (memL s)).rel.length rc2)) := fun j hj hl => ((hk3 _ _ _ j hj (by simpa [World.setCell] using hl)).trans (hk3 _ _ _ j hj (by simpa [World.setCell] using hl))).trans (hk3 _ _ _ j hj hl)
    have hsz : (((w3.setCell ⟨w.heap.size + 1, 0, none⟩ (.int .i64 (arrM M (memL s)).worlds)).setCell ⟨w.heap.size + 1, 1, none⟩ (.slice va2 (arrM M (memL s)).val.length vc2)).setCell ⟨w.heap.size + 1, 2, none⟩ (.slice ra2 (arrM M (memL s)).rel.length rc2)).heap.size = w3.heap.size := by simp
    obtain ⟨d0, d1, d2, -⟩ := ((HO3.out.set0 (.int .i64 (arrM M (memL s)).worlds)).set1 (.slice va2 (arrM M (memL s)).val.length vc2)).set2 (.slice ra2 (arrM M (memL s)).rel.length rc2)
    have hEx : Ext w (((w3.setCell ⟨w.heap.size + 1, 0, none⟩ (.int .i64 (arrM M (memL s)).worlds)).setCell ⟨w.heap.size + 1, 1, none⟩ (.slice va2 (arrM M (memL s)).val.length vc2)).setCell ⟨w.heap.size + 1, 2, none⟩ (.slice ra2 (arrM M (memL s)).rel.length rc2)) := ((HE3.out.setCell (by simp) _).setCell (by simp) _).setCell (by simp) _
    generalize ((w3.setCell ⟨w.heap.size + 1, 0, none⟩ (.int .i64 (arrM M (memL s)).worlds)).setCell ⟨w.heap.size + 1, 1, none⟩ (.slice va2 (arrM M (memL s)).val.length vc2)).setCell ⟨w.heap.size + 1, 2, none⟩ (.slice ra2 (arrM M (memL s)).rel.length rc2) = W2 at *
    refine bodyPost_ret (v := .tuple #[.agg #[(.int .i64 (arrM M (memL s)).worlds), (.slice va2 (arrM M (memL s)).val.length vc2), (.slice ra2 (arrM M (memL s)).rel.length rc2)], .slice la (memL s).length lc, .int .i64 0]) ?_ rfl ?_
    · rw [results_cell_two rfl]
      go_simp
    · refine ⟨va2, ra2, la, vc2, rc2, lc, by rw [HN.out, HN2.out, HN3.out, hnl], fun w'' ha => ⟨?_, ?_⟩, hEx⟩
      · rw [HN2.out]
        exact HM3.out w'' fun j hj hl => (ha j (by omega) (by rw [hsz]; exact hl)).trans (hag j (by omega) hl)
      · rw [HN3.out]
        refine HU2.out w'' fun j hj hl => ?_
        have hl3 : j < w3.heap.size := Nat.lt_of_lt_of_le hl HB3.out.size
        exact ((ha j (by omega) (by rw [hsz]; exact hl3)).trans (hag j (by omega) hl3)).trans (HB3.out.block j hl)
end Wt
