/- What the examples of chapter 32 come to (tables by the kernel); literal lists of turns, pairs and numbers. -/
import Derived.Test.YtoacdccachhjdaaGreatDoorMACg
import Derived.Test.YtoacdccachhjdaaGreatDoorMACb
import Derived.Test.YtoacdccachhjdaaGreatDoorMACd
import Derived.Test.YtoacdccachhjdaaGreatDoorMACe
import Derived.Test.YtoacdccachhjdaaGreatDoorMACf
import Derived.Test.YtoacdccachhjdaaGreatDoorMACc
namespace Wt
open Go Go.RowKit Go.Maps Go.Proofs Fm

theorem RI.litZ (w : World) (l : List Int) (cs : Array Value) (T : Nat) (h : cs = (l.map iv).toArray) (hl : l.length ≤ 1000) : RI (w.alloc (.cells cs T)) (some ⟨w.heap.size, 0, none⟩) l := by
  subst h
  refine ⟨by omega, fun k hk => ⟨w.heap.size, 0, rfl, ?_⟩⟩
  simp [iv, hk, nth_eq l k hk]
theorem RTu.lit (w : World) (l : List (Bool × Nat)) (cs : Array Value) (T : Nat) (h : cs = (rowT l).toArray) (hl : l.length ≤ 1000) : RTu (w.alloc (.cells cs T)) (some ⟨w.heap.size, 0, none⟩) l := by
  subst h
  refine ⟨by omega, fun k hk => ⟨w.heap.size, 0, rfl, ?_, ?_⟩⟩
  · have h := rowT_get l k 0 hk (by omega)
    simp [tuCells] at h
    simp [h]
  · have h := rowT_get l k 1 hk (by omega)
    simp [tuCells] at h
    simp [h]
theorem RPe.lit (w : World) (l : List (Nat × Nat)) (cs : Array Value) (T : Nat) (h : cs = (rowE l).toArray) (hl : l.length ≤ 1000) : RPe (w.alloc (.cells cs T)) (some ⟨w.heap.size, 0, none⟩) l := by
  subst h
  refine ⟨by omega, fun k hk => ⟨w.heap.size, 0, rfl, ?_, ?_⟩⟩
  · have h := rowE_get l k 0 hk (by omega)
    simp [peCells] at h
    simp [h]
  · have h := rowE_get l k 1 hk (by omega)
    simp [peCells] at h
    simp [h]
/-- The examples' model. -/
def awM : Mo := ⟨4, [10#64, 12#64], [[3#64, 3#64, 12#64, 12#64], [5#64, 10#64, 5#64, 10#64]]⟩
theorem aw_sen : senM 2 [2, 1] = awM := by decide +kernel
theorem aw_play : playErr awM 3 [decF 2 (someT 2 1), allTo (silL 2) 2, allTo (silL 2) 2] = 0 ∧ playOf awM 3 [decF 2 (someT 2 1), allTo (silL 2) 2, allTo (silL 2) 2] = [(true, 3), (true, 1), (false, 1)] := by decide +kernel
theorem aw_num : numL 3 = [(0, 1), (1, 0), (1, 2), (2, 1), (2, 3), (3, 2)] := by decide +kernel
theorem aw_sum : sumE 1 5 = 0 ∧ sumL 1 5 = [(1, 2), (1, 3), (1, 4), (2, 3)] := by decide +kernel
theorem aw_deal : (deaM 2 3).worlds = 6 := by decide +kernel
theorem aw_rou : rouK 3 5 = 2 ∧ rouE 3 5 = 0 := by decide +kernel
end Wt

/- Walk: wittinglaw32.awake. -/
namespace Wt
open Go Go.RowKit Go.Maps Go.Proofs Fm

theorem RNN.threeZ (w : World) (fa ga ha : Option Addr) (fc gc hc : Nat) (f g h : List Nd) (T : Nat) (h1 : RN w fa f) (h2 : RN w ga g) (h3 : RN w ha h) : RNN (w.alloc (.cells #[.slice fa f.length fc, .slice ga g.length gc, .slice ha h.length hc] T)) (some ⟨w.heap.size, 0, none⟩) [f, g, h] :=
  ⟨by simp, fun k hk => by
    rcases (show k = 0 ∨ k = 1 ∨ k = 2 by simp at hk; omega) with rfl | rfl | rfl
    · exact ⟨w.heap.size, 0, fa, fc, rfl, by simp, by simp [nth], h1.ext ((Ext.refl w).alloc _)⟩
    · exact ⟨w.heap.size, 0, ga, gc, rfl, by simp, by simp [nth], h2.ext ((Ext.refl w).alloc _)⟩
    · exact ⟨w.heap.size, 0, ha, hc, rfl, by simp, by simp [nth], h3.ext ((Ext.refl w).alloc _)⟩⟩
def RetM2 (A : Mo) (W : Int) (x y : Nat) (e : Ending) (w w' : World) : Prop := ∃ va ra vc rc, e = .returned (.tuple #[.agg #[.int .i64 W, .slice va x vc, .slice ra y rc], .int .i64 0]) ∧ RM w' va ra A ∧ Ext w w'
def RetT3 (l : List (Bool × Nat)) (n : Nat) (e : Ending) (w w' : World) : Prop := ∃ a cp, e = .returned (.tuple #[.slice a n cp, .int .i64 0]) ∧ RTu w' a l ∧ Ext w w'
def RetP2 (l : List (Nat × Nat)) (n : Nat) (e : Ending) (w w' : World) : Prop := ∃ W x y z va ra la vc rc lc, z = n ∧ e = .returned (.tuple #[.agg #[.int .i64 W, .slice va x vc, .slice ra y rc], .slice la z lc, .int .i64 0]) ∧ RPe w' la l ∧ Ext w w'
def RetD2 (W : Int) (e : Ending) (w w' : World) : Prop := ∃ x y z va ra la vc rc lc, e = .returned (.tuple #[.agg #[.int .i64 W, .slice va x vc, .slice ra y rc], .slice la z lc, .int .i64 0]) ∧ Ext w w'
set_option maxRecDepth 20000 in
set_option maxHeartbeats 8000000 in
theorem awake32_any (w : World) (hT : Tab w) : Calls Tryz.prog 11 #[] w fun e w' => e = .returned (.bool true) ∧ Ext w w' := by
  have XS : Hid (∀ W la lc, RI W la [2, 1] → Calls Tryz.prog 12 #[.int .i64 2, .slice la 2 lc] W fun e w' => RetM2 awM 4 2 2 e W w') := Lib.hid fun W la lc h => by
    have h := seen_ok 2 (by decide) [2, 1] rfl (by decide) la lc W h
    rw [aw_sen] at h
    exact h
  have XF : Hid (∀ W, Calls Tryz.prog 28 #[.int .i64 2, .int .i64 1] W fun e w' => RetNzZ (decF 2 (someT 2 1)) e W w') := Lib.hid fun W => some_any 2 1 (by decide) W
  have XQ : Hid (∀ W, Calls Tryz.prog 29 #[.int .i64 2] W fun e w' => RetNzZ (allTo (silL 2) 2) e W w') := Lib.hid fun W => silence_any 2 (by decide) W
  have XP : Hid (∀ W va ra vc rc oa oc, RM W va ra awM → RNN W oa [decF 2 (someT 2 1), allTo (silL 2) 2, allTo (silL 2) 2] → Tab W → Calls Tryz.prog 24 #[.agg #[.int .i64 4, .slice va 2 vc, .slice ra 2 rc], .int .i64 3, .slice oa 3 oc] W fun e w' => RetT3 [(true, 3), (true, 1), (false, 1)] 3 e W w') := Lib.hid fun W va ra vc rc oa oc hm hl hT => by
    have h := play_any awM 3 va ra vc rc oa oc _ W hm hl hT
    rw [aw_play.1, aw_play.2] at h
    exact h
  have XN : Hid (∀ W, Calls Tryz.prog 15 #[.int .i64 3] W fun e w' => RetP2 [(0, 1), (1, 0), (1, 2), (2, 1), (2, 3), (3, 2)] 6 e W w') := Lib.hid fun W => (numbers_any 3 (by decide) (by decide) W).mono fun _ _ hr => by
    obtain ⟨va, ra, la, vc, rc, lc, h1, h2, h3, h4⟩ := hr
    rw [aw_num] at h1 h3
    exact ⟨_, _, _, _, va, ra, la, vc, rc, lc, rfl, h1, h3, h4⟩
  have XU : Hid (∀ W, Calls Tryz.prog 18 #[.int .i64 1, .int .i64 5] W fun e w' => RetP2 [(1, 2), (1, 3), (1, 4), (2, 3)] 4 e W w') := Lib.hid fun W => (sums_any 1 5 aw_sum.1 W).mono fun _ _ hr => by
    obtain ⟨va, ra, la, vc, rc, lc, h1, h2, h3, h4⟩ := hr
    rw [aw_sum.2] at h1 h3
    exact ⟨_, _, _, _, va, ra, la, vc, rc, lc, rfl, h1, h3, h4⟩
  have XD : Hid (∀ W, Calls Tryz.prog 20 #[.int .i64 2, .int .i64 3] W fun e w' => RetD2 6 e W w') := Lib.hid fun W => (deal_any 2 3 (by decide) (by decide) (by decide) W).mono fun _ _ hr => by
    obtain ⟨va, ra, la, vc, rc, lc, h1, h2, h3, h4⟩ := hr
    rw [aw_deal] at h1
    exact ⟨_, _, _, va, ra, la, vc, rc, lc, h1, h4⟩
  have XR : Hid (∀ W, Calls Tryz.prog 27 #[.int .i64 3, .int .i64 5] W fun e w' => e = .returned (.tuple #[.int .i64 2, .int .i64 0]) ∧ W = w') := Lib.hid fun W => by
    have h := rounds_any 3 5 W
    rw [aw_rou.1, aw_rou.2] at h
    exact h
  have XT : Hid (∀ W a b c d, RTu W a [(true, 3), (true, 1), (false, 1)] → RTu W b [(true, 3), (true, 1), (false, 1)] → Calls Tryz.prog 26 #[.slice a 3 c, .slice b 3 d] W fun e w' => e = .returned (.bool true) ∧ Ext W w') := Lib.hid fun W a b c d h1 h2 => by have h := sameTurns_any a b c d [(true, 3), (true, 1), (false, 1)] W h1 h2; exact h
  have XA : Hid (∀ W a b c d, RPe W a [(0, 1), (1, 0), (1, 2), (2, 1), (2, 3), (3, 2)] → RPe W b [(0, 1), (1, 0), (1, 2), (2, 1), (2, 3), (3, 2)] → Calls Tryz.prog 17 #[.slice a 6 c, .slice b 6 d] W fun e w' => e = .returned (.bool true) ∧ Ext W w') := Lib.hid fun W a b c d h1 h2 => by have h := samePairs32_any a b c d [(0, 1), (1, 0), (1, 2), (2, 1), (2, 3), (3, 2)] W h1 h2; exact h
  have XB : Hid (∀ W a b c d, RPe W a [(1, 2), (1, 3), (1, 4), (2, 3)] → RPe W b [(1, 2), (1, 3), (1, 4), (2, 3)] → Calls Tryz.prog 17 #[.slice a 4 c, .slice b 4 d] W fun e w' => e = .returned (.bool true) ∧ Ext W w') := Lib.hid fun W a b c d h1 h2 => by have h := samePairs32_any a b c d [(1, 2), (1, 3), (1, 4), (2, 3)] W h1 h2; exact h
  have XI : Hid (∀ W a b c d, RU W a [3#64, 3#64, 12#64, 12#64] → RU W b [3#64, 3#64, 12#64, 12#64] → Calls Tryz.prog 50 #[.slice a 4 c, .slice b 4 d] W fun e w' => e = .returned (.bool true) ∧ Ext W w') := Lib.hid fun W a b c d h1 h2 => by have h := r2SameZ_any [3#64, 3#64, 12#64, 12#64] a b c d W h1 h2; exact h
  have XJ : Hid (∀ W a b c d, RU W a [5#64, 10#64, 5#64, 10#64] → RU W b [5#64, 10#64, 5#64, 10#64] → Calls Tryz.prog 50 #[.slice a 4 c, .slice b 4 d] W fun e w' => e = .returned (.bool true) ∧ Ext W w') := Lib.hid fun W a b c d h1 h2 => by have h := r2SameZ_any [5#64, 10#64, 5#64, 10#64] a b c d W h1 h2; exact h
  have HT := Lib.hid hT
  clear hT
  generalize decF 2 (someT 2 1) = sF at *
  generalize allTo (silL 2) 2 = qF at *
  go_enter Tryz.func11, Tryz.ntmps11
  go_wp2_with fail
  refine (XS.out _ _ _ (RI.litZ w [2, 1] _ _ rfl (by decide))).mono ?_
  rintro _ w1 ⟨va, ra, vc, rc, rfl, hm1, hE1⟩
  have hA1 : Ext w1 (w1.alloc (.cells #[.int .i64 4, .slice va 2 vc, .slice ra 2 rc] 28)) := (Ext.refl w1).alloc _
  have HO1 := Lib.hid (OutAt.new w1 (.int .i64 4) (.slice va 2 vc) (.slice ra 2 rc) 28)
  have HM1 := Lib.hid (hm1.ext hA1)
  have HE1 := Lib.hid (((Ext.refl w).alloc _).trans (hE1.trans hA1))
  clear hm1 hE1 hA1
  dsimp only
  go_wp2_with fail
  generalize w1.alloc (.cells #[.int .i64 4, .slice va 2 vc, .slice ra 2 rc] 28) = w2 at *
  refine (XF.out _).mono ?_
  rintro _ w3 ⟨fa, fc, rfl, hf, hE3⟩
  have HF := Lib.hid hf
  have HX3 := Lib.hid hE3
  clear hf hE3
  dsimp only
  go_wp2_with fail
  refine (XQ.out _).mono ?_
  rintro _ w4 ⟨qa, qc, rfl, hq, hE4⟩
  have HQ := Lib.hid hq
  have HF4 := Lib.hid (HF.out.ext hE4)
  have HX4 := Lib.hid (HX3.out.trans hE4)
  obtain ⟨o0, o1, o2, -⟩ := HO1.out.ext HX4.out
  have ol := World.block_lt_of_cell? _ _ o0
  dsimp only at ol
  clear hq hE4 HF HX3
  dsimp only
  go_wp2_with fail
  clear o0 o1 o2 ol
  have hA4 : Ext w4 (w4.alloc (.cells #[.slice fa sF.length fc, .slice qa qF.length qc, .slice qa qF.length qc] 44)) := (Ext.refl w4).alloc _
  refine (XP.out _ va ra vc rc _ _ ((HM1.out.ext HX4.out).ext hA4) (RNN.threeZ w4 fa qa qa fc qc qc sF qF qF _ HF4.out HQ.out HQ.out) (HT.out.ext ((HE1.out.trans HX4.out).trans hA4))).mono ?_
  rintro _ w5 ⟨ta, tc, rfl, ht5, hE5⟩
  have HT5 := Lib.hid ht5
  have HX5 := Lib.hid ((HX4.out.trans hA4).trans hE5)
  clear hA4 ht5 hE5 HF4 HQ HX4
  dsimp only
  go_wp2_with fail
  refine (XN.out _).mono ?_
  rintro _ w6 ⟨nW, nx, ny, nz, nva, nra, nla, nvc, nrc, nlc, rfl, rfl, hn6, hE6⟩
  have hA6 : Ext w6 (w6.alloc (.cells #[.int .i64 nW, .slice nva nx nvc, .slice nra ny nrc] 28)) := (Ext.refl _).alloc _
  have HN6 := Lib.hid (RPe.ext hA6 hn6)
  have HX6 := Lib.hid (HX5.out.trans (hE6.trans hA6))
  have HT6 := Lib.hid (RTu.ext (hE6.trans hA6) HT5.out)
  clear hn6 hE6 hA6 HX5 HT5
  dsimp only
  go_wp2_with fail
  generalize w6.alloc (.cells #[.int .i64 nW, .slice nva nx nvc, .slice nra ny nrc] 28) = w7 at *
  refine (XU.out _).mono ?_
  rintro _ w8 ⟨sW, sx, sy, sz, sva, sra, sla, svc, src, slc, rfl, rfl, hs8, hE8⟩
  have hA8 : Ext w8 (w8.alloc (.cells #[.int .i64 sW, .slice sva sx svc, .slice sra sy src] 28)) := (Ext.refl _).alloc _
  have HS8 := Lib.hid (RPe.ext hA8 hs8)
  have HX8 := Lib.hid (HX6.out.trans (hE8.trans hA8))
  have HT8 := Lib.hid (RTu.ext (hE8.trans hA8) HT6.out)
  have HN8 := Lib.hid (RPe.ext (hE8.trans hA8) HN6.out)
  clear hs8 hE8 hA8 HX6 HT6 HN6
  dsimp only
  go_wp2_with fail
  generalize w8.alloc (.cells #[.int .i64 sW, .slice sva sx svc, .slice sra sy src] 28) = w9 at *
  refine (XD.out _).mono ?_
  rintro _ w10 ⟨dx, dy, dz, dva, dra, dla, dvc, drc, dlc, rfl, hE10⟩
  have hA10 : Ext w10 (w10.alloc (.cells #[.int .i64 6, .slice dva dx dvc, .slice dra dy drc] 28)) := (Ext.refl _).alloc _
  have HOD := Lib.hid (OutAt.new w10 (.int .i64 6) (.slice dva dx dvc) (.slice dra dy drc) 28)
  have HX10 := Lib.hid (HX8.out.trans (hE10.trans hA10))
  have HT10 := Lib.hid (RTu.ext (hE10.trans hA10) HT8.out)
  have HN10 := Lib.hid (RPe.ext (hE10.trans hA10) HN8.out)
  have HS10 := Lib.hid (RPe.ext (hE10.trans hA10) HS8.out)
  clear hE10 hA10 HX8 HT8 HN8 HS8
  dsimp only
  go_wp2_with fail
  generalize w10.alloc (.cells #[.int .i64 6, .slice dva dx dvc, .slice dra dy drc] 28) = w11 at *
  refine (XR.out _).mono ?_
  rintro _ _ ⟨rfl, rfl⟩
  obtain ⟨o0, o1, o2, -⟩ := HO1.out.ext HX10.out
  have ol := World.block_lt_of_cell? _ _ o0
  have hrm := HM1.out.ext HX10.out
  obtain ⟨b1, f1, a1, c1, rfl, hb1, hc1, hu1⟩ := hrm.rel.get (k := 0) (by decide)
  obtain ⟨b2, f2, a2, c2, e2, hb2, hc2, hu2⟩ := hrm.rel.get (k := 1) (by decide)
  cases e2
  have HU1 := Lib.hid hu1
  have HU2 := Lib.hid hu2
  change _ = some (Value.slice a1 4 c1) at hc1
  rw [Nat.add_zero] at hc1
  change _ = some (Value.slice a2 4 c2) at hc2
  clear hu1 hu2 hrm
  dsimp only at ol ⊢
  go_wp2_with fail
  have hB1 : Ext w11 (w11.alloc (.cells #[.int .u64 3, .int .u64 3, .int .u64 12, .int .u64 12] 63)) := (Ext.refl _).alloc _
  refine (XI.out _ _ _ _ _ (HU1.out.ext hB1) (RU.lit w11 [3#64, 3#64, 12#64, 12#64] _ _ rfl (by decide))).mono ?_
  rintro _ w12 ⟨rfl, hE12⟩
  have HX12 := Lib.hid (hB1.trans hE12)
  clear o0 o1 o2 ol hc1 hc2 hb1 hb2 hB1 hE12
  obtain ⟨o0, o1, o2, -⟩ := HO1.out.ext (HX10.out.trans HX12.out)
  have ol := World.block_lt_of_cell? _ _ o0
  have hrm := HM1.out.ext (HX10.out.trans HX12.out)
  obtain ⟨b2, f2, a2', c2', e2, hb2, hc2, hu2⟩ := hrm.rel.get (k := 1) (by decide)
  cases e2
  have HU2 := Lib.hid hu2
  change _ = some (Value.slice a2' 4 c2') at hc2
  clear hu2 hrm
  dsimp only at ol ⊢
  go_wp2_with fail
  have hB2 : Ext w12 (w12.alloc (.cells #[.int .u64 5, .int .u64 10, .int .u64 5, .int .u64 10] 63)) := (Ext.refl _).alloc _
  refine (XJ.out _ _ _ _ _ (HU2.out.ext hB2) (RU.lit w12 [5#64, 10#64, 5#64, 10#64] _ _ rfl (by decide))).mono ?_
  rintro _ w13 ⟨rfl, hE13⟩
  have HX13 := Lib.hid (HX12.out.trans (hB2.trans hE13))
  clear o0 o1 o2 ol hc2 hb2 hB2 hE13
  dsimp only
  go_wp2_with fail
  have hB3 : Ext w13 (w13.alloc (.cells #[.bool true, .int .i64 3, .bool true, .int .i64 1, .bool false, .int .i64 1] 60)) := (Ext.refl _).alloc _
  refine (XT.out _ _ _ _ _ (RTu.ext (HX13.out.trans hB3) HT10.out) (RTu.lit w13 [(true, 3), (true, 1), (false, 1)] _ _ rfl (by decide))).mono ?_
  rintro _ w14 ⟨rfl, hE14⟩
  have HX14 := Lib.hid (HX13.out.trans (hB3.trans hE14))
  clear hB3 hE14
  dsimp only
  go_wp2_with fail
  have hB4 : Ext w14 (w14.alloc (.cells #[.int .i64 0, .int .i64 1, .int .i64 1, .int .i64 0, .int .i64 1, .int .i64 2, .int .i64 2, .int .i64 1, .int .i64 2, .int .i64 3, .int .i64 3, .int .i64 2] 23)) := (Ext.refl _).alloc _
  refine (XA.out _ _ _ _ _ (RPe.ext (HX14.out.trans hB4) HN10.out) (RPe.lit w14 [(0, 1), (1, 0), (1, 2), (2, 1), (2, 3), (3, 2)] _ _ rfl (by decide))).mono ?_
  rintro _ w15 ⟨rfl, hE15⟩
  have HX15 := Lib.hid (HX14.out.trans (hB4.trans hE15))
  clear hB4 hE15
  dsimp only
  go_wp2_with fail
  have hB5 : Ext w15 (w15.alloc (.cells #[.int .i64 1, .int .i64 2, .int .i64 1, .int .i64 3, .int .i64 1, .int .i64 4, .int .i64 2, .int .i64 3] 23)) := (Ext.refl _).alloc _
  refine (XB.out _ _ _ _ _ (RPe.ext (HX15.out.trans hB5) HS10.out) (RPe.lit w15 [(1, 2), (1, 3), (1, 4), (2, 3)] _ _ rfl (by decide))).mono ?_
  rintro _ w16 ⟨rfl, hE16⟩
  have HX16 := Lib.hid (HX15.out.trans (hB5.trans hE16))
  clear hB5 hE16
  obtain ⟨o0, o1, o2, -⟩ := HOD.out.ext HX16.out
  have ol := World.block_lt_of_cell? _ _ o0
  dsimp only at ol ⊢
  go_wp2_with fail
  go_ret
  exact ⟨rfl, HE1.out.trans (HX10.out.trans HX16.out)⟩
end Wt

/- Equal nodes compare equal; wittingref05.Equal at equal lists (out of XNeq and XS4C). -/
namespace Wt
open Go Go.RowKit Go.Maps Go.Proofs Fm
theorem guard_nodeZ : Tryz.prog.eqGuardType Tryz.prog.depth 109 = false := by kernel_rfl
theorem fields_nodeZ : Tryz.prog.underlying 109 = some (.struct (Tryz.prog.fieldsOf 109)) := by kernel_rfl
theorem held_nodeZ : Tryz.prog.stoodInHeld 109 = false := by kernel_rfl
theorem list_nodeZ : (Tryz.prog.fieldsOf 109).toList.map (fun f => (f.name, f.type, f.offset)) = [("Op", 3, 0), ("I", 3, 1), ("E", 3, 2), ("G", 3, 3), ("X", 3, 4), ("Y", 3, 5)] := by kernel_rfl
theorem eqFields_sameZ (d : Nat) (xs : Array Value) (w : World) : ∀ fs : List Field, (∀ f ∈ fs, f.type = 3 ∧ ∃ v : Int, xs[f.offset]? = some (.int .i64 v)) → (Op.eqFields (d + 1) xs xs fs).run Tryz.prog w = .ok true w
  | [], _ => rfl
  | f :: fs, h => by
    obtain ⟨ht, v, hv⟩ := h f (by simp)
    have ih := eqFields_sameZ d xs w fs fun g hg => h g (by simp [hg])
    have hp : (part 3 xs f.offset).run Tryz.prog w = .ok (.int .i64 v) w := by
      have ha : (isAgg 3).run Tryz.prog w = .ok false w := by kernel_rfl
      simp [part, Sem.run_bind, ha, hv]
    have h0 : (Op.equalIn (d + 1) 3 (.int .i64 v) (.int .i64 v)).run Tryz.prog w = .ok true w := by rw [run_equalIn_int w d 3 .i64 .i64 v v (by kernel_rfl)]; simp
    unfold Op.eqFields
    split
    · rw [ht]
      simp [Sem.run_bind, hp, h0, ih]
    · exact ih
theorem neq_nodeZ (a b c d e f : Int) (w : World) : (binOp .neq 109 (.agg #[.int .i64 a, .int .i64 b, .int .i64 c, .int .i64 d, .int .i64 e, .int .i64 f]) (.agg #[.int .i64 a, .int .i64 b, .int .i64 c, .int .i64 d, .int .i64 e, .int .i64 f])).run Tryz.prog w = .ok (.bool false) w := by
  rw [run_neq_struct, run_equalIn_agg w 9999 _ _ _ fields_nodeZ held_nodeZ, eqFields_sameZ 9998]
  · rfl
  · intro g hg
    have hm : (g.name, g.type, g.offset) ∈ (Tryz.prog.fieldsOf 109).toList.map (fun f => (f.name, f.type, f.offset)) := List.mem_map.2 ⟨g, hg, rfl⟩
    rw [list_nodeZ] at hm
    simp only [List.mem_cons, List.not_mem_nil, or_false, Prod.mk.injEq] at hm
    rcases hm with ⟨-, h1, h2⟩ | ⟨-, h1, h2⟩ | ⟨-, h1, h2⟩ | ⟨-, h1, h2⟩ | ⟨-, h1, h2⟩ | ⟨-, h1, h2⟩
    all_goals exact ⟨h1, _, by rw [h2]; rfl⟩
set_option maxRecDepth 20000 in
set_option maxHeartbeats 2000000 in
theorem r5EqualZ_any (l : List Nd) (a b : Option Addr) (c d : Nat) (w : World) (h1 : RN w a l) (h2 : RN w b l) :
    Calls Tryz.prog 39 #[.slice a l.length c, .slice b l.length d] w fun e w' => e = .returned (.bool true) ∧ Ext w w' := by
  have H1 := Lib.hid h1
  have H2 := Lib.hid h2
  have hl := h1.len
  clear h1 h2
  go_enter Tryz.func39, Tryz.ntmps39
  go_wp2
  go_loopw [5] (fun i wr => ∃ k : Nat, k ≤ l.length ∧ i = .int .i64 (k : Int) ∧ Ext w wr) (fun i _ => l.length - (RowKit.intOf i).toNat)
  case atStart => exact ⟨0, Nat.zero_le _, rfl, Ext.refl _⟩
  case round =>
    obtain ⟨k, hk, rfl, hE⟩ := hrel
    by_cases hlt : k < l.length
    · obtain ⟨b1, o1, rfl, hb1, n0, n1, n2, n3, n4, n5⟩ := (H1.out.ext hE).get hlt
      obtain ⟨b2, o2, rfl, hb2, y0, y1, y2, y3, y4, y5⟩ := (H2.out.ext hE).get hlt
      have hgd := guard_nodeZ
      have hnq := fun (a b c d e f : Int) (w : World) => neq_nodeZ a b c d e f w
      have hlI : (k : Int) < (l.length : Int) := by omega
      generalize nth l k = nd at *
      go_wp2_with fail
      go_quiet (fail)
      go_wp2
      go_roundw
      case rel => exact ⟨k + 1, hlt, by go_num, hE.drewN _⟩
      case measure => simp [RowKit.intOf]; omega
    · go_wp2
      go_ret
      exact ⟨rfl, hE⟩
end Wt
