/- The walk of CheckerTables. -/
import Derived.Test.YtdnpgadkklgjeaaLawE
namespace Wt
open Go Go.RowKit Go.Maps Go.Proofs Fm

theorem iff_law {x y : BitVec 64} {N : Nat} (hx : Sub x (allW N)) (hy : Sub y (allW N)) : (x &&& y) ||| (allW N &&& ~~~ (x ||| y)) = allW N &&& ~~~ (x ^^^ y) := bt_ext fun k hk => by
  have h1 := hx k hk
  have h2 := hy k hk
  simp only [bt_or, bt_and, bt_not, bt_xor]
  cases h3 : bt x k <;> cases h4 : bt y k <;> simp_all
set_option maxRecDepth 20000 in
set_option maxHeartbeats 8000000 in
theorem checkerTables_any (M : Mo) (va ra : Option Addr) (vc rc : Nat) (fa : Option Addr) (fc : Nat) (f : List Nd) (ha : Option Addr) (hc : Nat) (h : List Nd) (w : World) (hm : RM w va ra M) (hf : RN w fa f) (hh : RN w ha h) :
    Calls Try.prog 9 #[.agg #[.int .i64 M.worlds, .slice va M.val.length vc, .slice ra M.rel.length rc], .slice fa f.length fc, .slice ha h.length hc] w fun e w' => e = .returned (.bool true) ∧ Ext w w' := by
  have hE0 := (Ext.refl w).alloc (.cells #[.int .i64 M.worlds, .slice va M.val.length vc, .slice ra M.rel.length rc] 25)
  have hbx := MoBox.new w M.worlds M.val M.rel va vc ra rc 25
  have Hf := Lib.hid (hf.ext hE0)
  have Hh := Lib.hid (hh.ext hE0)
  have HM := Lib.hid (hm.ext hE0)
  have HE := Lib.hid hE0
  have HBX := Lib.hid hbx
  have hrl := hm.rel.len
  clear hm hf hh hE0 hbx
  go_enter Try.func9, Try.ntmps9
  go_wp2_with fail
  refine (awake_any _).mono ?_
  rintro _ w1 ⟨rfl, hX1⟩
  dsimp only
  obtain ⟨m0, m1, m2⟩ := HBX.out.ext hX1
  dsimp only at m0 m1 m2
  go_wp2_with fail
  refine (few_any M va ra vc rc _ 2 [f, h] _ (HM.out.ext (hX1.alloc _)) (RNN.two _ fa ha fc hc f h 26 (Hf.out.ext hX1) (Hh.out.ext hX1))).mono ?_
  rintro _ w2 ⟨b, rfl, hE2, hsm⟩
  dsimp only
  have hX2 := (hX1.alloc (.cells #[.slice fa f.length fc, .slice ha h.length hc] 26)).trans hE2
  cases b
  · go_wp2_with fail
    refine (awake_any _).mono ?_
    rintro _ w3 ⟨rfl, hE3⟩
    dsimp only
    go_wp2_with fail
    go_ret
    exact ⟨rfl, HE.out.trans (hX2.trans hE3)⟩
  have hlf : f.length ≤ 60 := hsm rfl 0 (by simp)
  have hlh : h.length ≤ 60 := hsm rfl 1 (by simp)
  clear hsm m0 m1 m2
  obtain ⟨m0, m1, m2⟩ := HBX.out.ext hX2
  dsimp only at m0 m1 m2
  go_wp2_with fail
  refine (r13Check_any M va ra vc rc _ (HM.out.ext hX2)).mono ?_
  rintro _ w3 ⟨rfl, hE3⟩
  dsimp only
  have hX3 := hX2.trans hE3
  clear m0 m1 m2
  obtain ⟨m0, m1, m2⟩ := HBX.out.ext hX3
  dsimp only at m0 m1 m2
  by_cases hM : moCheck M = 0
  rotate_left
  · have hq : (moCheck M != 0) = true := by simpa using hM
    go_wp2_with fail
    refine (awake_any _).mono ?_
    rintro _ w4 ⟨rfl, hE4⟩
    dsimp only
    go_wp2_with fail
    go_ret
    exact ⟨rfl, HE.out.trans (hX3.trans hE4)⟩
  have hq : (moCheck M != 0) = false := by simp [hM]
  obtain ⟨N, ok⟩ := moCheck_ok hM
  go_wp2_with fail
  refine (set_any M va ra vc rc fa fc f _ (HM.out.ext hX3) (Hf.out.ext hX3)).mono ?_
  rintro _ w4 ⟨rfl, hE4⟩
  dsimp only
  have hX4 := hX3.trans hE4
  clear m0 m1 m2
  obtain ⟨m0, m1, m2⟩ := HBX.out.ext hX4
  dsimp only at m0 m1 m2
  go_wp2_with fail
  refine (set_any M va ra vc rc ha hc h _ (HM.out.ext hX4) (Hh.out.ext hX4)).mono ?_
  rintro _ w5 ⟨rfl, hE5⟩
  dsimp only
  have hX5 := hX4.trans hE5
  clear m0 m1 m2
  obtain ⟨m0, m1, m2⟩ := HBX.out.ext hX5
  dsimp only at m0 m1 m2
  by_cases hq3 : (reqErr M f == 0) = true
  rotate_left
  · have hq3' : (reqErr M f == 0) = false := by simpa using hq3
    go_wp2_with fail
    go_ret
    exact ⟨rfl, HE.out.trans hX5⟩
  by_cases hq4 : (reqErr M h == 0) = true
  rotate_left
  · have hq4' : (reqErr M h == 0) = false := by simpa using hq4
    go_wp2_with fail
    go_ret
    exact ⟨rfl, HE.out.trans hX5⟩
  obtain ⟨_, If, Sf⟩ := set_ok hq3
  obtain ⟨_, Ih, Sh⟩ := set_ok hq4
  have hNt : M.worlds.toNat = N := by rw [ok.worlds]; exact Int.toNat_natCast N
  have HAll : Hid (∀ w, Calls Try.prog 28 #[.int .i64 M.worlds] w fun e w' => e = .returned (.int .u64 (un (allW N))) ∧ w = w') := by rw [ok.worlds]; exact Lib.hid fun w => r13All_any N w
  have z1 : fsize (rt f) ≤ 60 := Nat.le_trans If.sz hlf
  have z2 : fsize (rt h) ≤ 60 := Nat.le_trans Ih.sz hlh
  have f1 := If.fk
  have f2 := Ih.fk
  have e1 : (semT M (rt f)).2 = true := by rw [Sf]
  have e2 : (semT M (rt h)).2 = true := by rw [Sh]
  have v1 : (semT M (rt f)).1 = holdsOf M f := by rw [Sf]
  have v2 : (semT M (rt h)).1 = holdsOf M h := by rw [Sh]
  have I1 := Lib.hid (isF_un If (fok_not f1) (Nat.le_trans (fsize_un 4 0 0 0) (by omega)))
  have S1 : Hid (semT M (.un 4 0 0 0 (rt f)) = (allW N &&& ~~~ holdsOf M f, true)) := Lib.hid (by rw [semT_un _ _ _ _ e1, v1]; simp [valN, hNt])
  have hin1 : Sub (holdsOf M f) (allW N) := by rw [← v1]; exact semT_in ok _
  have hin2 : Sub (holdsOf M h) (allW N) := by rw [← v2]; exact semT_in ok _
  have I2 := Lib.hid (isF_bin If Ih (fok_and f1 f2) (Nat.le_trans (fsize_bin 5 0 0 0) (by omega)) rfl)
  have S2 : Hid (semT M (.bin 5 0 0 0 (rt f) (rt h)) = (holdsOf M f &&& holdsOf M h, true)) := Lib.hid (by rw [semT_bin _ _ _ _ e1 e2, v1, v2]; simp [valN])
  have I3 := Lib.hid (isF_bin If Ih (fok_or f1 f2) (Nat.le_trans (fsize_bin 6 0 0 0) (by omega)) rfl)
  have S3 : Hid (semT M (.bin 6 0 0 0 (rt f) (rt h)) = (holdsOf M f ||| holdsOf M h, true)) := Lib.hid (by rw [semT_bin _ _ _ _ e1 e2, v1, v2]; simp [valN])
  have I4 := Lib.hid (isF_bin If Ih (fok_imp f1 f2) (Nat.le_trans (fsize_bin 7 0 0 0) (by omega)) rfl)
  have S4 : Hid (semT M (.bin 7 0 0 0 (rt f) (rt h)) = ((allW N &&& ~~~ holdsOf M f) ||| holdsOf M h, true)) := Lib.hid (by rw [semT_bin _ _ _ _ e1 e2, v1, v2]; simp [valN, hNt])
  have I5 := Lib.hid (isF_bin If Ih (fok_iff f1 f2) (Nat.le_trans (fsize_bin 8 0 0 0) (by omega)) rfl)
  have S5 : Hid (semT M (.bin 8 0 0 0 (rt f) (rt h)) = (allW N &&& ~~~ (holdsOf M f ^^^ holdsOf M h), true)) := Lib.hid (by rw [semT_bin _ _ _ _ e1 e2, v1, v2]; simp [valN, hNt])
  have hN64 := ok.most
  have hiff : (holdsOf M f &&& holdsOf M h) ||| (allW N &&& ~~~ (holdsOf M f ||| holdsOf M h)) = allW N &&& ~~~ (holdsOf M f ^^^ holdsOf M h) := iff_law hin1 hin2
  clear e1 e2 v1 v2 z1 z2 f1 f2 hin1 hin2 If Ih Sf Sh hNt hlf hlh ok
  go_wp2_with (go_at_call 28; refine (HAll.out _).mono ?_; rintro _ _ ⟨rfl, rfl⟩)
  have HK5 : Hid (∀ w', Ext w5 w' → w'.cell? ⟨w.heap.size, 0, none⟩ = some (.int .i64 M.worlds) ∧ w'.cell? ⟨w.heap.size, 1, none⟩ = some (.slice va M.val.length vc) ∧ w'.cell? ⟨w.heap.size, 2, none⟩ = some (.slice ra M.rel.length rc)) := Lib.hid fun w' e => ⟨e.cell m0, e.cell m1, e.cell m2⟩
  have HX5 : Hid (∀ w', Ext w5 w' → Ext (w.alloc (.cells #[.int .i64 M.worlds, .slice va M.val.length vc, .slice ra M.rel.length rc] 25)) w') := Lib.hid fun w' e => hX5.trans e
  go_wp2_with fail
  clear m0 m1 m2
  go_region_held3 (fun w' => w'.cell? ⟨w.heap.size, 0, none⟩ = some (.int .i64 M.worlds) ∧ w'.cell? ⟨w.heap.size, 1, none⟩ = some (.slice va M.val.length vc) ∧ w'.cell? ⟨w.heap.size, 2, none⟩ = some (.slice ra M.rel.length rc)) (first | exact HK5.out _ (Ext.refl _) | exact HK5.out _ ((Ext.refl _).drew) | exact HK5.out _ (by assumption) | go_keep)
    (first | (go_at_call 24; refine (cNot_any _ _ _ _ (by first | assumption | exact Hf.out.ext (HX5.out _ (by first | exact Ext.refl _ | exact (Ext.refl _).drew | assumption)) | exact Hh.out.ext (HX5.out _ (by first | exact Ext.refl _ | exact (Ext.refl _).drew | assumption)))).mono ?_; rintro _ wa ⟨la, lc, rfl, hr, hY⟩; have hZ : Ext w5 wa := Ext.trans (by first | exact Ext.refl _ | exact (Ext.refl _).drew | assumption) hY) | (go_at_call 22; refine (setT hM I1.out S1.out va ra vc rc _ _ _ (HM.out.ext (HX5.out _ (by assumption))) (by assumption)).mono ?_; rintro _ w6 ⟨rfl, hY2⟩; have hE6 : Ext w5 w6 := Ext.trans (by assumption) hY2) | fail)
  have hX6 := hX5.trans hE6
  obtain ⟨m0, m1, m2⟩ := HBX.out.ext hX6
  dsimp only at m0 m1 m2
  have HK6 : Hid (∀ w', Ext w6 w' → w'.cell? ⟨w.heap.size, 0, none⟩ = some (.int .i64 M.worlds) ∧ w'.cell? ⟨w.heap.size, 1, none⟩ = some (.slice va M.val.length vc) ∧ w'.cell? ⟨w.heap.size, 2, none⟩ = some (.slice ra M.rel.length rc)) := Lib.hid fun w' e => ⟨e.cell m0, e.cell m1, e.cell m2⟩
  have HX6 : Hid (∀ w', Ext w6 w' → Ext (w.alloc (.cells #[.int .i64 M.worlds, .slice va M.val.length vc, .slice ra M.rel.length rc] 25)) w') := Lib.hid fun w' e => hX6.trans e
  go_wp2_with fail
  clear m0 m1 m2
  go_region_held3 (fun w' => w'.cell? ⟨w.heap.size, 0, none⟩ = some (.int .i64 M.worlds) ∧ w'.cell? ⟨w.heap.size, 1, none⟩ = some (.slice va M.val.length vc) ∧ w'.cell? ⟨w.heap.size, 2, none⟩ = some (.slice ra M.rel.length rc)) (first | exact HK6.out _ (Ext.refl _) | exact HK6.out _ ((Ext.refl _).drew) | exact HK6.out _ (by assumption) | go_keep)
    (first | (go_at_call 31; refine (cAnd_any _ _ _ _ _ _ _ (by first | assumption | exact Hf.out.ext (HX6.out _ (by first | exact Ext.refl _ | exact (Ext.refl _).drew | assumption)) | exact Hh.out.ext (HX6.out _ (by first | exact Ext.refl _ | exact (Ext.refl _).drew | assumption))) (by first | assumption | exact Hf.out.ext (HX6.out _ (by first | exact Ext.refl _ | exact (Ext.refl _).drew | assumption)) | exact Hh.out.ext (HX6.out _ (by first | exact Ext.refl _ | exact (Ext.refl _).drew | assumption)))).mono ?_; rintro _ wa ⟨la, lc, rfl, hr, hY⟩; have hZ : Ext w6 wa := Ext.trans (by first | exact Ext.refl _ | exact (Ext.refl _).drew | assumption) hY) | (go_at_call 22; refine (setT hM I2.out S2.out va ra vc rc _ _ _ (HM.out.ext (HX6.out _ (by assumption))) (by assumption)).mono ?_; rintro _ w7 ⟨rfl, hY2⟩; have hE7 : Ext w6 w7 := Ext.trans (by assumption) hY2) | fail)
  have hX7 := hX6.trans hE7
  obtain ⟨m0, m1, m2⟩ := HBX.out.ext hX7
  dsimp only at m0 m1 m2
  have HK7 : Hid (∀ w', Ext w7 w' → w'.cell? ⟨w.heap.size, 0, none⟩ = some (.int .i64 M.worlds) ∧ w'.cell? ⟨w.heap.size, 1, none⟩ = some (.slice va M.val.length vc) ∧ w'.cell? ⟨w.heap.size, 2, none⟩ = some (.slice ra M.rel.length rc)) := Lib.hid fun w' e => ⟨e.cell m0, e.cell m1, e.cell m2⟩
  have HX7 : Hid (∀ w', Ext w7 w' → Ext (w.alloc (.cells #[.int .i64 M.worlds, .slice va M.val.length vc, .slice ra M.rel.length rc] 25)) w') := Lib.hid fun w' e => hX7.trans e
  go_wp2_with fail
  clear m0 m1 m2
  go_region_held3 (fun w' => w'.cell? ⟨w.heap.size, 0, none⟩ = some (.int .i64 M.worlds) ∧ w'.cell? ⟨w.heap.size, 1, none⟩ = some (.slice va M.val.length vc) ∧ w'.cell? ⟨w.heap.size, 2, none⟩ = some (.slice ra M.rel.length rc)) (first | exact HK7.out _ (Ext.refl _) | exact HK7.out _ ((Ext.refl _).drew) | exact HK7.out _ (by assumption) | go_keep)
    (first | (go_at_call 32; refine (cOr_any _ _ _ _ _ _ _ (by first | assumption | exact Hf.out.ext (HX7.out _ (by first | exact Ext.refl _ | exact (Ext.refl _).drew | assumption)) | exact Hh.out.ext (HX7.out _ (by first | exact Ext.refl _ | exact (Ext.refl _).drew | assumption))) (by first | assumption | exact Hf.out.ext (HX7.out _ (by first | exact Ext.refl _ | exact (Ext.refl _).drew | assumption)) | exact Hh.out.ext (HX7.out _ (by first | exact Ext.refl _ | exact (Ext.refl _).drew | assumption)))).mono ?_; rintro _ wa ⟨la, lc, rfl, hr, hY⟩; have hZ : Ext w7 wa := Ext.trans (by first | exact Ext.refl _ | exact (Ext.refl _).drew | assumption) hY) | (go_at_call 22; refine (setT hM I3.out S3.out va ra vc rc _ _ _ (HM.out.ext (HX7.out _ (by assumption))) (by assumption)).mono ?_; rintro _ w8 ⟨rfl, hY2⟩; have hE8 : Ext w7 w8 := Ext.trans (by assumption) hY2) | fail)
  have hX8 := hX7.trans hE8
  obtain ⟨m0, m1, m2⟩ := HBX.out.ext hX8
  dsimp only at m0 m1 m2
  have HK8 : Hid (∀ w', Ext w8 w' → w'.cell? ⟨w.heap.size, 0, none⟩ = some (.int .i64 M.worlds) ∧ w'.cell? ⟨w.heap.size, 1, none⟩ = some (.slice va M.val.length vc) ∧ w'.cell? ⟨w.heap.size, 2, none⟩ = some (.slice ra M.rel.length rc)) := Lib.hid fun w' e => ⟨e.cell m0, e.cell m1, e.cell m2⟩
  have HX8 : Hid (∀ w', Ext w8 w' → Ext (w.alloc (.cells #[.int .i64 M.worlds, .slice va M.val.length vc, .slice ra M.rel.length rc] 25)) w') := Lib.hid fun w' e => hX8.trans e
  go_wp2_with fail
  clear m0 m1 m2
  go_region_held3 (fun w' => w'.cell? ⟨w.heap.size, 0, none⟩ = some (.int .i64 M.worlds) ∧ w'.cell? ⟨w.heap.size, 1, none⟩ = some (.slice va M.val.length vc) ∧ w'.cell? ⟨w.heap.size, 2, none⟩ = some (.slice ra M.rel.length rc)) (first | exact HK8.out _ (Ext.refl _) | exact HK8.out _ ((Ext.refl _).drew) | exact HK8.out _ (by assumption) | go_keep)
    (first | (go_at_call 30; refine (cImp_any _ _ _ _ _ _ _ (by first | assumption | exact Hf.out.ext (HX8.out _ (by first | exact Ext.refl _ | exact (Ext.refl _).drew | assumption)) | exact Hh.out.ext (HX8.out _ (by first | exact Ext.refl _ | exact (Ext.refl _).drew | assumption))) (by first | assumption | exact Hf.out.ext (HX8.out _ (by first | exact Ext.refl _ | exact (Ext.refl _).drew | assumption)) | exact Hh.out.ext (HX8.out _ (by first | exact Ext.refl _ | exact (Ext.refl _).drew | assumption)))).mono ?_; rintro _ wa ⟨la, lc, rfl, hr, hY⟩; have hZ : Ext w8 wa := Ext.trans (by first | exact Ext.refl _ | exact (Ext.refl _).drew | assumption) hY) | (go_at_call 22; refine (setT hM I4.out S4.out va ra vc rc _ _ _ (HM.out.ext (HX8.out _ (by assumption))) (by assumption)).mono ?_; rintro _ w9 ⟨rfl, hY2⟩; have hE9 : Ext w8 w9 := Ext.trans (by assumption) hY2) | fail)
  have hX9 := hX8.trans hE9
  obtain ⟨m0, m1, m2⟩ := HBX.out.ext hX9
  dsimp only at m0 m1 m2
  have HK9 : Hid (∀ w', Ext w9 w' → w'.cell? ⟨w.heap.size, 0, none⟩ = some (.int .i64 M.worlds) ∧ w'.cell? ⟨w.heap.size, 1, none⟩ = some (.slice va M.val.length vc) ∧ w'.cell? ⟨w.heap.size, 2, none⟩ = some (.slice ra M.rel.length rc)) := Lib.hid fun w' e => ⟨e.cell m0, e.cell m1, e.cell m2⟩
  have HX9 : Hid (∀ w', Ext w9 w' → Ext (w.alloc (.cells #[.int .i64 M.worlds, .slice va M.val.length vc, .slice ra M.rel.length rc] 25)) w') := Lib.hid fun w' e => hX9.trans e
  go_wp2_with fail
  clear m0 m1 m2
  go_region_held3 (fun w' => w'.cell? ⟨w.heap.size, 0, none⟩ = some (.int .i64 M.worlds) ∧ w'.cell? ⟨w.heap.size, 1, none⟩ = some (.slice va M.val.length vc) ∧ w'.cell? ⟨w.heap.size, 2, none⟩ = some (.slice ra M.rel.length rc)) (first | exact HK9.out _ (Ext.refl _) | exact HK9.out _ ((Ext.refl _).drew) | exact HK9.out _ (by assumption) | go_keep)
    (first | (go_at_call 33; refine (cIff_any _ _ _ _ _ _ _ (by first | assumption | exact Hf.out.ext (HX9.out _ (by first | exact Ext.refl _ | exact (Ext.refl _).drew | assumption)) | exact Hh.out.ext (HX9.out _ (by first | exact Ext.refl _ | exact (Ext.refl _).drew | assumption))) (by first | assumption | exact Hf.out.ext (HX9.out _ (by first | exact Ext.refl _ | exact (Ext.refl _).drew | assumption)) | exact Hh.out.ext (HX9.out _ (by first | exact Ext.refl _ | exact (Ext.refl _).drew | assumption)))).mono ?_; rintro _ wa ⟨la, lc, rfl, hr, hY⟩; have hZ : Ext w9 wa := Ext.trans (by first | exact Ext.refl _ | exact (Ext.refl _).drew | assumption) hY) | (go_at_call 22; refine (setT hM I5.out S5.out va ra vc rc _ _ _ (HM.out.ext (HX9.out _ (by assumption))) (by assumption)).mono ?_; rintro _ w10 ⟨rfl, hY2⟩; have hE10 : Ext w9 w10 := Ext.trans (by assumption) hY2) | fail)
  have hX10 := hX9.trans hE10
  obtain ⟨m0, m1, m2⟩ := HBX.out.ext hX10
  dsimp only at m0 m1 m2
  have HI := Lib.hid hiff
  clear hiff
  go_wp2_with fail
  go_ret
  exact ⟨by rw [HI.out]; simp, HE.out.trans hX10⟩
end Wt
