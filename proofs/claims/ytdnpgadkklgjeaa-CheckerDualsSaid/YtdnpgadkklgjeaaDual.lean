/- The walk of CheckerDuals. -/
import Derived.Test.YtdnpgadkklgjeaaGrp
namespace Wt
open Go Go.RowKit Go.Maps Go.Proofs Fm

/-- The two cells of an array. -/
structure ArrAt (w : World) (b : Nat) (x y : Int) : Prop where
  c0 : w.cell? ⟨b, 0, none⟩ = some (.int .u8 x)
  c1 : w.cell? ⟨b, 1, none⟩ = some (.int .u8 y)
theorem ArrAt.ext {w w' : World} {b : Nat} {x y : Int} (h : ArrAt w b x y) (e : Ext w w') : ArrAt w' b x y := ⟨e.cell h.c0, e.cell h.c1⟩
theorem ArrAt.new (w : World) (x y : Int) (T : Nat) : ArrAt (w.alloc (.cells #[.int .u8 x, .int .u8 y] T)) w.heap.size x y := ⟨by simp, by simp⟩
theorem ArrAt.new2 (w : World) (o : Obj) (x y : Int) (T : Nat) : ArrAt ((w.alloc o).alloc (.cells #[.int .u8 x, .int .u8 y] T)) (w.heap.size + 1) x y := by
  have h := ArrAt.new (w.alloc o) x y T
  have hs : (w.alloc o).heap.size = w.heap.size + 1 := by simp
  rw [hs] at h; exact h
theorem i64_255 {n : Int} (h : 0 ≤ n ∧ n ≤ 255) : IntKind.i64.wrap n = n := IntWalk.i64_in _ (by omega)
theorem p2_nat {R : Nat} (h1 : 1 ≤ R) (h4 : R ≤ 4) : ∃ P : Nat, p2 R - 1 = (P : Int) ∧ 1 ≤ P ∧ P ≤ 15 := by
  obtain ⟨h5, h6⟩ := p2_small h1 h4
  obtain ⟨P, hP⟩ := Int.eq_ofNat_of_zero_le (show 0 ≤ p2 R - 1 by omega)
  exact ⟨P, hP, by omega, by omega⟩
theorem small_nat {P : Nat} (h1 : 1 ≤ P) (h15 : P ≤ 15) : (P : Int) ≤ 16 ∧ (0 : Int) ≤ (P : Int) ∧ IntKind.i64.wrap (P : Int) = (P : Int) ∧ wrap64 (P : Int) = (P : Int) ∧ (P : Int) ≠ 0 ∧ P ≠ 0 ∧ ((P : Int) == 0) = false :=
  ⟨by omega, by omega, IntWalk.i64_in _ (by omega), IntWalk.wrap64_in _ (by omega), by omega, by omega, by rw [beq_eq_false_iff_ne]; omega⟩
theorem rem_nat {n : Int} {R : Nat} (h : 0 ≤ n) (hR : 1 ≤ R) : ∃ A : Nat, A < R ∧ n.tmod (R : Int) = (A : Int) := by
  obtain ⟨k, rfl⟩ := Int.eq_ofNat_of_zero_le h
  exact ⟨k % R, Nat.mod_lt _ (by omega), by rw [Int.tmod_eq_emod_of_nonneg (by omega)]; simp⟩
set_option maxRecDepth 20000 in
set_option maxHeartbeats 8000000 in
theorem checkerDuals_any (M : Mo) (va ra : Option Addr) (vc rc : Nat) (fa : Option Addr) (fc : Nat) (f : List Nd) (n0 n1 : Int) (hn0 : 0 ≤ n0 ∧ n0 ≤ 255) (hn1 : 0 ≤ n1 ∧ n1 ≤ 255) (w : World) (hm : RM w va ra M) (hf : RN w fa f) :
    Calls Try.prog 5 #[.agg #[.int .i64 M.worlds, .slice va M.val.length vc, .slice ra M.rel.length rc], .slice fa f.length fc, .agg #[.int .u8 n0, .int .u8 n1]] w fun e w' => e = .returned (.bool true) ∧ Ext w w' := by
  have hE0 : Ext w ((w.alloc (.cells #[.int .i64 M.worlds, .slice va M.val.length vc, .slice ra M.rel.length rc] 25)).alloc (.cells #[.int .u8 n0, .int .u8 n1] 40)) := ((Ext.refl w).alloc _).alloc _
  have hbx := (MoBox.new w M.worlds M.val M.rel va vc ra rc 25).ext ((Ext.refl _).alloc (.cells #[.int .u8 n0, .int .u8 n1] 40))
  have hab : ArrAt ((w.alloc (.cells #[.int .i64 M.worlds, .slice va M.val.length vc, .slice ra M.rel.length rc] 25)).alloc (.cells #[.int .u8 n0, .int .u8 n1] 40)) (w.heap.size + 1) n0 n1 := ArrAt.new2 w _ _ _ _
  have HAB := Lib.hid hab
  clear hab
  have Hf := Lib.hid (hf.ext hE0)
  have HM := Lib.hid (hm.ext hE0)
  have HE := Lib.hid hE0
  have HBX := Lib.hid hbx
  have hrl := hm.rel.len
  clear hm hf hE0 hbx
  go_enter Try.func5, Try.ntmps5
  go_wp2_with fail
  refine (awake_any _).mono ?_
  rintro _ w1 ⟨rfl, hX1⟩
  dsimp only
  obtain ⟨m0, m1, m2⟩ := HBX.out.ext hX1
  dsimp only at m0 m1 m2
  go_wp2_with fail
  refine (few_any M va ra vc rc _ 1 [f] _ (HM.out.ext (hX1.alloc _)) (RNN.one _ fa fc f 26 (Hf.out.ext hX1))).mono ?_
  rintro _ w2 ⟨b, rfl, hE2, hsm⟩
  dsimp only
  have hX2 := (hX1.alloc (.cells #[.slice fa f.length fc] 26)).trans hE2
  cases b
  · go_wp2_with fail
    refine (awake_any _).mono ?_
    rintro _ w3 ⟨rfl, hE3⟩
    dsimp only
    go_wp2_with fail
    go_ret
    exact ⟨rfl, HE.out.trans (hX2.trans hE3)⟩
  have hlf : f.length ≤ 60 := hsm rfl 0 (by simp)
  clear hsm m0 m1 m2
  obtain ⟨m0, m1, m2⟩ := HBX.out.ext hX2
  dsimp only at m0 m1 m2
  go_wp2_with fail
  refine (r13Check_any M va ra vc rc _ (HM.out.ext hX2)).mono ?_
  rintro _ w3 ⟨rfl, hE3⟩
  dsimp only
  have hX3 := hX2.trans hE3
  clear m0 m1 m2
  obtain ⟨m0, m1, m2⟩ := HBX.out.ext hX3
  dsimp only at m0 m1 m2
  by_cases hM : moCheck M = 0
  rotate_left
  · have hq : (moCheck M != 0) = true := by simpa using hM
    go_wp2_with fail
    refine (awake_any _).mono ?_
    rintro _ w4 ⟨rfl, hE4⟩
    dsimp only
    go_wp2_with fail
    go_ret
    exact ⟨rfl, HE.out.trans (hX3.trans hE4)⟩
  have hq : (moCheck M != 0) = false := by simp [hM]
  obtain ⟨N, ok⟩ := moCheck_ok hM
  by_cases hR : M.rel.length = 0
  · have hq2 : ((M.rel.length : Int) == 0) = true := by rw [beq_iff_eq]; omega
    go_wp2_with fail
    refine (awake_any _).mono ?_
    rintro _ w4 ⟨rfl, hE4⟩
    dsimp only
    go_wp2_with fail
    go_ret
    exact ⟨rfl, HE.out.trans (hX3.trans hE4)⟩
  have hq2 : ((M.rel.length : Int) == 0) = false := by rw [beq_eq_false_iff_ne]; omega
  go_wp2_with fail
  refine (set_any M va ra vc rc fa fc f _ (HM.out.ext hX3) (Hf.out.ext hX3)).mono ?_
  rintro _ w4 ⟨rfl, hE4⟩
  dsimp only
  have hX4 := hX3.trans hE4
  clear m0 m1 m2
  obtain ⟨m0, m1, m2⟩ := HBX.out.ext hX4
  dsimp only at m0 m1 m2
  by_cases hq3 : (reqErr M f == 0) = true
  rotate_left
  · have hq3' : (reqErr M f == 0) = false := by simpa using hq3
    go_wp2_with fail
    go_ret
    exact ⟨rfl, HE.out.trans hX4⟩
  obtain ⟨_, If, Sf⟩ := set_ok hq3
  have hNt : M.worlds.toNat = N := by rw [ok.worlds]; exact Int.toNat_natCast N
  have zf : fsize (rt f) ≤ 60 := Nat.le_trans If.sz hlf
  have kf := If.fk
  have ef : (semT M (rt f)).2 = true := by rw [Sf]
  have vf : (semT M (rt f)).1 = holdsOf M f := by rw [Sf]
  have hR1 : 1 ≤ M.rel.length := by omega
  have hR4 := ok.rel
  have hN64 := ok.most
  obtain ⟨A, hA, hrem⟩ : ∃ A : Nat, A < M.rel.length ∧ n0.tmod (M.rel.length : Int) = (A : Int) := rem_nat hn0.1 hR1
  obtain ⟨hp1, hp2⟩ := p2_small hR1 hR4
  obtain ⟨P, hP, hP1, hP15⟩ := p2_nat hR1 hR4
  obtain ⟨B, hB, hrem2⟩ : ∃ B : Nat, B < P ∧ n1.tmod (P : Int) = (B : Int) := rem_nat hn1.1 (by omega)
  have hG1 : 1 ≤ 1 + B := by omega
  have hG2 : ((1 + B : Nat) : Int) < p2 M.rel.length := by omega
  have I1 := Lib.hid (isF_un (o := 10) (i := (A : Int)) (e := 0) (q := 0) If (fok_poss A (by omega) kf) (Nat.le_trans (fsize_un 10 (A : Int) 0 0) (by omega)))
  have S1 : Hid (semT M (.un 10 (A : Int) 0 0 (rt f)) = (relDia (nth M.rel A) (holdsOf M f), true)) := Lib.hid (by
    rw [semT_un _ _ _ _ ef, vf]
    have hng : ¬ ((M.rel.length : Int) ≤ (A : Int)) := by omega
    simp [valN, hng])
  have J1 := isF_un (o := 4) (i := 0) (e := 0) (q := 0) If (fok_not kf) (Nat.le_trans (fsize_un 4 0 0 0) (by omega))
  have J2 := isF_un (o := 9) (i := (A : Int)) (e := 0) (q := 0) J1 (fok_know A (by omega) J1.fk) (Nat.le_trans (fsize_un 9 (A : Int) 0 0) (by have := fsize_un (a := rt f) 4 0 0 0; omega))
  have I2 := Lib.hid (isF_un (o := 4) (i := 0) (e := 0) (q := 0) J2 (fok_not J2.fk) (Nat.le_trans (fsize_un 4 0 0 0) (by have := fsize_un (a := rt f) 4 0 0 0; have := fsize_un (a := .un 4 0 0 0 (rt f)) 9 (A : Int) 0 0; omega)))
  have T1 : semT M (.un 4 0 0 0 (rt f)) = (allW N &&& ~~~ holdsOf M f, true) := by rw [semT_un _ _ _ _ ef, vf]; simp [valN, hNt]
  have T2 : semT M (.un 9 (A : Int) 0 0 (.un 4 0 0 0 (rt f))) = (relBox (nth M.rel A) (allW N &&& ~~~ holdsOf M f), true) := by
    rw [semT_un _ _ _ _ (by rw [T1]), T1]
    have hng : ¬ ((M.rel.length : Int) ≤ (A : Int)) := by omega
    simp [valN, hng]
  have S2 : Hid (semT M (.un 4 0 0 0 (.un 9 (A : Int) 0 0 (.un 4 0 0 0 (rt f)))) = (relDia (nth M.rel A) (holdsOf M f), true)) := Lib.hid (by
    rw [semT_un _ _ _ _ (by rw [T2]), T2, ← dual_law ok hA]
    simp [valN, hNt])
  have I3 := Lib.hid (isF_un (o := 11) (i := 0) (e := 0) (q := ((1 + B : Nat) : Int)) If (fok_every _ (by omega) kf) (Nat.le_trans (fsize_un 11 0 0 _) (by omega)))
  have S3 : Hid (semT M (.un 11 0 0 ((1 + B : Nat) : Int) (rt f)) = (wantK M (1 + B) N (holdsOf M f) M.rel.length, true)) := Lib.hid (by
    rw [semT_un _ _ _ _ ef, vf, ← every_law ok hG1 hG2]
    have hng : ¬ (p2 M.rel.length ≤ ((1 + B : Nat) : Int)) := by omega
    simp only [valN, if_neg hng]
    simp)
  have I4 := Lib.hid (isF_un (o := 12) (i := 0) (e := 0) (q := ((1 + B : Nat) : Int)) If (fok_dist _ (by omega) kf) (Nat.le_trans (fsize_un 12 0 0 _) (by omega)))
  have S4 : Hid (semT M (.un 12 0 0 ((1 + B : Nat) : Int) (rt f)) = (relBox (meetOf M ((1 + B : Nat) : Int)) (holdsOf M f), true)) := Lib.hid (by
    rw [semT_un _ _ _ _ ef, vf]
    have hng : ¬ (p2 M.rel.length ≤ ((1 + B : Nat) : Int)) := by omega
    simp only [valN, if_neg hng]
    simp)
  have HD := Lib.hid (dist_law ok hG1 hG2 (holdsOf M f))
  have IK : Hid (∀ q : Nat, q < M.rel.length → IsF (fB ⟨9, (q : Int), 0, 0, 0, 0⟩ [f]) (.un 9 (q : Int) 0 0 (rt f))) := Lib.hid fun q hq5 => isF_un (o := 9) (i := (q : Int)) (e := 0) (q := 0) If (fok_know q (by omega) kf) (Nat.le_trans (fsize_un 9 (q : Int) 0 0) (by omega))
  have SK : Hid (∀ q : Nat, q < M.rel.length → semT M (.un 9 (q : Int) 0 0 (rt f)) = (relBox (nth M.rel q) (holdsOf M f), true)) := Lib.hid fun q hq5 => by
    rw [semT_un _ _ _ _ ef, vf]
    have hng : ¬ ((M.rel.length : Int) ≤ (q : Int)) := by omega
    simp [valN, hng]
  have HW := Lib.hid ok.worlds
  clear zf kf ef vf hlf If Sf hNt J1 J2 T1 T2 ok hG1
  generalize hGG : 1 + B = G at *
  obtain ⟨a0, a1⟩ := HAB.out.ext hX4
  have hge : 1 + (B : Int) = (G : Int) := by omega
  have h63 : M.rel.length < 63 := by omega
  have hwn1 : IntKind.i64.wrap n1 = n1 := i64_255 hn1
  have hwG : IntKind.i64.wrap (1 + (B : Int)) = (G : Int) := by rw [hge]; exact i64_255 ⟨by omega, by omega⟩
  have hGlt : G < 9223372036854775808 := by omega
  have hwGG : IntKind.i64.wrap (G : Int) = (G : Int) := i64_255 ⟨by omega, by omega⟩
  go_wp2_with fail
  obtain ⟨hP16, hP0, hwP, hwP2, hpz, hpz2, hp0⟩ := small_nat hP1 hP15
  go_region_held3 (fun w' => w'.cell? ⟨w.heap.size + 1, 1, none⟩ = some (.int .u8 n1) ∧ w'.cell? ⟨w.heap.size, 2, none⟩ = some (.slice ra M.rel.length rc)) (first | exact ⟨a1, m2⟩ | go_keep) (fail)
  have hX5 := hX4.drew
  clear m0 m1 m2 a0 a1
  generalize w4.drew = w5 at hX5 ⊢
  obtain ⟨m0, m1, m2⟩ := HBX.out.ext hX5
  dsimp only at m0 m1 m2
  have HK5 : Hid (∀ w', Ext w5 w' → w'.cell? ⟨w.heap.size, 0, none⟩ = some (.int .i64 M.worlds) ∧ w'.cell? ⟨w.heap.size, 1, none⟩ = some (.slice va M.val.length vc) ∧ w'.cell? ⟨w.heap.size, 2, none⟩ = some (.slice ra M.rel.length rc)) := Lib.hid fun w' e => ⟨e.cell m0, e.cell m1, e.cell m2⟩
  have HX5 : Hid (∀ w', Ext w5 w' → Ext ((w.alloc (.cells #[.int .i64 M.worlds, .slice va M.val.length vc, .slice ra M.rel.length rc] 25)).alloc (.cells #[.int .u8 n0, .int .u8 n1] 40)) w') := Lib.hid fun w' e => hX5.trans e
  go_wp2_with fail
  clear m0 m1 m2
  go_region_held3 (fun w' => w'.cell? ⟨w.heap.size, 0, none⟩ = some (.int .i64 M.worlds) ∧ w'.cell? ⟨w.heap.size, 1, none⟩ = some (.slice va M.val.length vc) ∧ w'.cell? ⟨w.heap.size, 2, none⟩ = some (.slice ra M.rel.length rc)) (first | exact HK5.out _ (Ext.refl _) | exact HK5.out _ ((Ext.refl _).drew) | exact HK5.out _ (by assumption) | go_keep)
    (first | (go_at_call 23; refine (cPoss_any _ _ _ _ _ (by first | assumption | exact Hf.out.ext (HX5.out _ (by first | exact Ext.refl _ | exact (Ext.refl _).drew | assumption)))).mono ?_; rintro _ wa ⟨la, lc, rfl, hr, hY⟩; have hZ : Ext w5 wa := Ext.trans (by first | exact Ext.refl _ | exact (Ext.refl _).drew | assumption) hY) | (go_at_call 22; refine (setT hM I1.out S1.out va ra vc rc _ _ _ (HM.out.ext (HX5.out _ (by assumption))) (by assumption)).mono ?_; rintro _ w6 ⟨rfl, hY2⟩; have hE6 : Ext w5 w6 := Ext.trans (by assumption) hY2) | fail)
  have hX6 := hX5.trans hE6
  obtain ⟨m0, m1, m2⟩ := HBX.out.ext hX6
  dsimp only at m0 m1 m2
  have HK6 : Hid (∀ w', Ext w6 w' → w'.cell? ⟨w.heap.size, 0, none⟩ = some (.int .i64 M.worlds) ∧ w'.cell? ⟨w.heap.size, 1, none⟩ = some (.slice va M.val.length vc) ∧ w'.cell? ⟨w.heap.size, 2, none⟩ = some (.slice ra M.rel.length rc)) := Lib.hid fun w' e => ⟨e.cell m0, e.cell m1, e.cell m2⟩
  have HX6 : Hid (∀ w', Ext w6 w' → Ext ((w.alloc (.cells #[.int .i64 M.worlds, .slice va M.val.length vc, .slice ra M.rel.length rc] 25)).alloc (.cells #[.int .u8 n0, .int .u8 n1] 40)) w') := Lib.hid fun w' e => hX6.trans e
  go_wp2_with fail
  clear m0 m1 m2
  go_region_held3 (fun w' => w'.cell? ⟨w.heap.size, 0, none⟩ = some (.int .i64 M.worlds) ∧ w'.cell? ⟨w.heap.size, 1, none⟩ = some (.slice va M.val.length vc) ∧ w'.cell? ⟨w.heap.size, 2, none⟩ = some (.slice ra M.rel.length rc)) (first | exact HK6.out _ (Ext.refl _) | exact HK6.out _ ((Ext.refl _).drew) | exact HK6.out _ (by assumption) | go_keep)
    (first | (go_at_call 24; refine (cNot_any _ _ _ _ (by first | assumption | exact Hf.out.ext (HX6.out _ (by first | exact Ext.refl _ | exact (Ext.refl _).drew | assumption)))).mono ?_; rintro _ wa ⟨la, lc, rfl, hr, hY⟩; have hZ : Ext w6 wa := Ext.trans (by first | exact Ext.refl _ | exact (Ext.refl _).drew | assumption) hY) | (go_at_call 25; refine (cKnow_any _ _ _ _ _ (by first | assumption | exact Hf.out.ext (HX6.out _ (by first | exact Ext.refl _ | exact (Ext.refl _).drew | assumption)))).mono ?_; rintro _ wa ⟨la, lc, rfl, hr, hY⟩; have hZ : Ext w6 wa := Ext.trans (by first | exact Ext.refl _ | exact (Ext.refl _).drew | assumption) hY) | (go_at_call 22; refine (setT hM I2.out S2.out va ra vc rc _ _ _ (HM.out.ext (HX6.out _ (by assumption))) (by assumption)).mono ?_; rintro _ w7 ⟨rfl, hY2⟩; have hE7 : Ext w6 w7 := Ext.trans (by assumption) hY2) | fail)
  have hX7 := hX6.trans hE7
  obtain ⟨m0, m1, m2⟩ := HBX.out.ext hX7
  dsimp only at m0 m1 m2
  have HK7 : Hid (∀ w', Ext w7 w' → w'.cell? ⟨w.heap.size, 0, none⟩ = some (.int .i64 M.worlds) ∧ w'.cell? ⟨w.heap.size, 1, none⟩ = some (.slice va M.val.length vc) ∧ w'.cell? ⟨w.heap.size, 2, none⟩ = some (.slice ra M.rel.length rc)) := Lib.hid fun w' e => ⟨e.cell m0, e.cell m1, e.cell m2⟩
  have HX7 : Hid (∀ w', Ext w7 w' → Ext ((w.alloc (.cells #[.int .i64 M.worlds, .slice va M.val.length vc, .slice ra M.rel.length rc] 25)).alloc (.cells #[.int .u8 n0, .int .u8 n1] 40)) w') := Lib.hid fun w' e => hX7.trans e
  go_wp2_with fail
  clear m0 m1 m2
  go_region_held3 (fun w' => w'.cell? ⟨w.heap.size, 0, none⟩ = some (.int .i64 M.worlds) ∧ w'.cell? ⟨w.heap.size, 1, none⟩ = some (.slice va M.val.length vc) ∧ w'.cell? ⟨w.heap.size, 2, none⟩ = some (.slice ra M.rel.length rc)) (first | exact HK7.out _ (Ext.refl _) | exact HK7.out _ ((Ext.refl _).drew) | exact HK7.out _ (by assumption) | go_keep)
    (first | (go_at_call 26; refine (cEvery_any _ _ _ _ _ (by first | assumption | exact Hf.out.ext (HX7.out _ (by first | exact Ext.refl _ | exact (Ext.refl _).drew | assumption)))).mono ?_; rintro _ wa ⟨la, lc, rfl, hr, hY⟩; have hZ : Ext w7 wa := Ext.trans (by first | exact Ext.refl _ | exact (Ext.refl _).drew | assumption) hY) | (go_at_call 22; refine (setT hM I3.out S3.out va ra vc rc _ _ _ (HM.out.ext (HX7.out _ (by assumption))) (by assumption)).mono ?_; rintro _ w8 ⟨rfl, hY2⟩; have hE8 : Ext w7 w8 := Ext.trans (by assumption) hY2) | fail)
  have hX8 := hX7.trans hE8
  obtain ⟨m0, m1, m2⟩ := HBX.out.ext hX8
  dsimp only at m0 m1 m2
  have HK8 : Hid (∀ w', Ext w8 w' → w'.cell? ⟨w.heap.size, 0, none⟩ = some (.int .i64 M.worlds) ∧ w'.cell? ⟨w.heap.size, 1, none⟩ = some (.slice va M.val.length vc) ∧ w'.cell? ⟨w.heap.size, 2, none⟩ = some (.slice ra M.rel.length rc)) := Lib.hid fun w' e => ⟨e.cell m0, e.cell m1, e.cell m2⟩
  have HX8 : Hid (∀ w', Ext w8 w' → Ext ((w.alloc (.cells #[.int .i64 M.worlds, .slice va M.val.length vc, .slice ra M.rel.length rc] 25)).alloc (.cells #[.int .u8 n0, .int .u8 n1] 40)) w') := Lib.hid fun w' e => hX8.trans e
  go_wp2_with fail
  clear m0 m1 m2
  go_region_held3 (fun w' => w'.cell? ⟨w.heap.size, 0, none⟩ = some (.int .i64 M.worlds) ∧ w'.cell? ⟨w.heap.size, 1, none⟩ = some (.slice va M.val.length vc) ∧ w'.cell? ⟨w.heap.size, 2, none⟩ = some (.slice ra M.rel.length rc)) (first | exact HK8.out _ (Ext.refl _) | exact HK8.out _ ((Ext.refl _).drew) | exact HK8.out _ (by assumption) | go_keep)
    (first | (go_at_call 27; refine (cDist_any _ _ _ _ _ (by first | assumption | exact Hf.out.ext (HX8.out _ (by first | exact Ext.refl _ | exact (Ext.refl _).drew | assumption)))).mono ?_; rintro _ wa ⟨la, lc, rfl, hr, hY⟩; have hZ : Ext w8 wa := Ext.trans (by first | exact Ext.refl _ | exact (Ext.refl _).drew | assumption) hY) | (go_at_call 22; refine (setT hM I4.out S4.out va ra vc rc _ _ _ (HM.out.ext (HX8.out _ (by assumption))) (by assumption)).mono ?_; rintro _ w9 ⟨rfl, hY2⟩; have hE9 : Ext w8 w9 := Ext.trans (by assumption) hY2) | fail)
  have hX9 := hX8.trans hE9
  obtain ⟨m0, m1, m2⟩ := HBX.out.ext hX9
  dsimp only at m0 m1 m2
  have HAll : Hid (∀ w, Calls Try.prog 28 #[.int .i64 M.worlds] w fun e w' => e = .returned (.int .u64 (un (allW N))) ∧ w = w') := by rw [HW.out]; exact Lib.hid fun w => r13All_any N w
  go_wp2_with (go_at_call 28; refine (HAll.out _).mono ?_; rintro _ _ ⟨rfl, rfl⟩)
  try simp only [hq3, hM]
  go_loopw [19, 20, 121] (fun a b i wz => ∃ q : Nat, q ≤ M.rel.length ∧ i = .int .i64 (q : Int) ∧ a = .int .u64 (un (wantK M G N (holdsOf M f) q)) ∧ b = .int .u64 (un (someK M G (holdsOf M f) q)) ∧ Ext w9 wz) (fun _ _ i _ => M.rel.length - (intOf i).toNat)
  case atStart => exact ⟨0, Nat.zero_le _, rfl, rfl, rfl, Ext.refl _⟩
  case round =>
    obtain ⟨q, hqR, rfl, rfl, rfl, hEz⟩ := hrel
    have hX10 := hX9.trans hEz
    clear m0 m1 m2
    obtain ⟨m0, m1, m2⟩ := HBX.out.ext hX10
    dsimp only at m0 m1 m2
    by_cases hql : q < M.rel.length
    · cases hb : G.testBit q
      · have hb1 : b01 G q = 0 := by unfold b01; rw [hb]; rfl
        have hs1 : wantK M G N (holdsOf M f) (q + 1) = wantK M G N (holdsOf M f) q := if_neg (by simp [hb])
        have hs2 : someK M G (holdsOf M f) (q + 1) = someK M G (holdsOf M f) q := if_neg (by simp [hb])
        have HS1 := Lib.hid hs1
        have HS2 := Lib.hid hs2
        clear hs1 hs2
        go_wp2
        go_roundw
        case rel => exact ⟨q + 1, hql, by go_num, by rw [HS1.out], by rw [HS2.out], hEz⟩
        case measure => simp [intOf]; omega
      · have hb1 : b01 G q = 1 := by unfold b01; rw [hb]; rfl
        have hs1 : wantK M G N (holdsOf M f) (q + 1) = wantK M G N (holdsOf M f) q &&& relBox (nth M.rel q) (holdsOf M f) := if_pos hb
        have hs2 : someK M G (holdsOf M f) (q + 1) = someK M G (holdsOf M f) q ||| relBox (nth M.rel q) (holdsOf M f) := if_pos hb
        have HS1 := Lib.hid hs1
        have HS2 := Lib.hid hs2
        clear hs1 hs2
        have HK10 : Hid (∀ w', Ext wr w' → w'.cell? ⟨w.heap.size, 0, none⟩ = some (.int .i64 M.worlds) ∧ w'.cell? ⟨w.heap.size, 1, none⟩ = some (.slice va M.val.length vc) ∧ w'.cell? ⟨w.heap.size, 2, none⟩ = some (.slice ra M.rel.length rc)) := Lib.hid fun w' e => ⟨e.cell m0, e.cell m1, e.cell m2⟩
        have HX10 : Hid (∀ w', Ext wr w' → Ext ((w.alloc (.cells #[.int .i64 M.worlds, .slice va M.val.length vc, .slice ra M.rel.length rc] 25)).alloc (.cells #[.int .u8 n0, .int .u8 n1] 40)) w') := Lib.hid fun w' e => hX10.trans e
        go_wp2_with fail
        clear m0 m1 m2
        go_region_held3 (fun w' => w'.cell? ⟨w.heap.size, 0, none⟩ = some (.int .i64 M.worlds) ∧ w'.cell? ⟨w.heap.size, 1, none⟩ = some (.slice va M.val.length vc) ∧ w'.cell? ⟨w.heap.size, 2, none⟩ = some (.slice ra M.rel.length rc)) (first | exact HK10.out _ (Ext.refl _) | exact HK10.out _ ((Ext.refl _).drew) | exact HK10.out _ (by assumption) | go_keep)
          (first | (go_at_call 25; refine (cKnow_any _ _ _ _ _ (by first | assumption | exact Hf.out.ext (HX10.out _ (by first | exact Ext.refl _ | exact (Ext.refl _).drew | assumption)))).mono ?_; rintro _ wa ⟨la, lc, rfl, hr, hY⟩; have hZ : Ext wr wa := Ext.trans (by first | exact Ext.refl _ | exact (Ext.refl _).drew | assumption) hY) | (go_at_call 22; refine (setT hM (IK.out q hql) (SK.out q hql) va ra vc rc _ _ _ (HM.out.ext (HX10.out _ (by assumption))) (by assumption)).mono ?_; rintro _ w11 ⟨rfl, hY2⟩; have hE11 : Ext wr w11 := Ext.trans (by assumption) hY2) | fail)
        have hX11 := hX10.trans hE11
        obtain ⟨m0, m1, m2⟩ := HBX.out.ext hX11
        dsimp only at m0 m1 m2
        go_wp2
        go_roundw
        case rel => exact ⟨q + 1, hql, by go_num, by rw [HS1.out], by rw [HS2.out], hEz.trans hE11⟩
        case measure => simp [intOf]; omega
    · obtain rfl : q = M.rel.length := by omega
      have hd := HD.out
      go_wp2
      go_ret
      exact ⟨by simp, HE.out.trans hX10⟩
end Wt
