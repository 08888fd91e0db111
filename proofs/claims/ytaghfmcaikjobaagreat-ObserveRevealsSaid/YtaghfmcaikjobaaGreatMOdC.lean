/- Walk: observe.Product. -/
import Derived.Test.YtaghfmcaikjobaaGreatMOfB
namespace Wt
open Go Go.RowKit Go.Maps Go.Proofs Fm

theorem prErr_a {A B : Mo} (h : moCheck A ≠ 0) : prErr A B = moCheck A := if_pos h
theorem prErr_b {A B : Mo} (h : moCheck A = 0) (h2 : moCheck B ≠ 0) : prErr A B = moCheck B := by unfold prErr; rw [if_neg (by simp [h]), if_pos h2]
theorem prErr_r {A B : Mo} (h : moCheck A = 0) (h2 : moCheck B = 0) (h3 : A.rel.length ≠ B.rel.length) : prErr A B = 1 := by unfold prErr; rw [if_neg (by simp [h]), if_neg (by simp [h2]), if_pos h3]
theorem prErr_l {A B : Mo} (h : moCheck A = 0) (h2 : moCheck B = 0) (h3 : A.rel.length = B.rel.length) (h4 : 64 < A.worlds * B.worlds ∨ 8 < A.val.length + B.val.length) : prErr A B = 8 := by unfold prErr; rw [if_neg (by simp [h]), if_neg (by simp [h2]), if_neg (by simp [h3]), if_pos h4]
theorem prErr_0 {A B : Mo} (h : moCheck A = 0) (h2 : moCheck B = 0) (h3 : A.rel.length = B.rel.length) (h4 : ¬ (64 < A.worlds * B.worlds ∨ 8 < A.val.length + B.val.length)) : prErr A B = 0 := by unfold prErr; rw [if_neg (by simp [h]), if_neg (by simp [h2]), if_neg (by simp [h3]), if_neg h4]
theorem pr_bad {A B : Mo} (h : prErr A B ≠ 0) : prM A B = ⟨0, [], []⟩ ∧ prL A B = [] := by
  unfold prM prL; rw [if_neg h, if_neg h]; exact ⟨rfl, rfl⟩
theorem pairL_snd {N m i : Nat} (h : i < N * m) : (nth (pairL N m) i).2 < m ∧ (nth (pairL N m) i).1 < N := by
  rw [pairL_nth h]
  have hm : 0 < m := by
    rcases Nat.eq_zero_or_pos m with e | e
    · subst e; simp at h
    · exact e
  exact ⟨Nat.mod_lt _ hm, (Nat.div_lt_iff_lt_mul hm).2 h⟩
theorem both_maxR {N m : Nat} (hm : m ≤ 64) (s : BitVec 64) : bothS (pairL N m) s 18446744073709551615#64 = bothS (pairL N m) s (allW m) := bothS_congr fun i hi => by
  rw [pairL_len] at hi
  have h := (pairL_snd hi).1
  refine ⟨rfl, ?_⟩
  rw [bt_ones, bt_allW, decide_eq_true (show (nth (pairL N m) i).2 < 64 by omega), decide_eq_true h]; rfl
theorem both_maxL {N m : Nat} (hN : N ≤ 64) (t : BitVec 64) : bothS (pairL N m) 18446744073709551615#64 t = bothS (pairL N m) (allW N) t := bothS_congr fun i hi => by
  rw [pairL_len] at hi
  have h := (pairL_snd hi).2
  refine ⟨?_, rfl⟩
  rw [bt_ones, bt_allW, decide_eq_true (show (nth (pairL N m) i).1 < 64 by omega), decide_eq_true h]; rfl
theorem mul_wrap (a b : Nat) (ha : a ≤ 64) (hb : b ≤ 64) : IntKind.i64.wrap ((a : Int) * (b : Int)) = ((a * b : Nat) : Int) := by
  have h : a * b ≤ 64 * 64 := Nat.mul_le_mul ha hb
  rw [IntWalk.i64_in _ (by rw [← Int.natCast_mul]; omega)]
  simp
set_option maxRecDepth 20000 in
set_option maxHeartbeats 8000000 in
theorem oproduct_any (A B : Mo) (va ra vb rb : Option Addr) (vc rc vd rd : Nat) (w : World) (hA : RM w va ra A) (hB : RM w vb rb B) :
    Calls Tryz.prog 17 #[.agg #[.int .i64 A.worlds, .slice va A.val.length vc, .slice ra A.rel.length rc], .agg #[.int .i64 B.worlds, .slice vb B.val.length vd, .slice rb B.rel.length rd]] w fun e w' => RetPr (prM A B) (prL A B) (prErr A B) e w w' := by
  have hE0 : Ext w (((w.alloc (.cells #[.int .i64 A.worlds, .slice va A.val.length vc, .slice ra A.rel.length rc] 25)).alloc (.cells #[.int .i64 B.worlds, .slice vb B.val.length vd, .slice rb B.rel.length rd] 25)).alloc (.cells #[.int .i64 0, .slice none 0 0, .slice none 0 0] 25)) := (((Ext.refl w).alloc _).alloc _).alloc _
  have hbxA : MoBox (((w.alloc (.cells #[.int .i64 A.worlds, .slice va A.val.length vc, .slice ra A.rel.length rc] 25)).alloc (.cells #[.int .i64 B.worlds, .slice vb B.val.length vd, .slice rb B.rel.length rd] 25)).alloc (.cells #[.int .i64 0, .slice none 0 0, .slice none 0 0] 25)) w.heap.size A va vc ra rc := (MoBox.new w A.worlds A.val A.rel va vc ra rc 25).ext (((Ext.refl _).alloc _).alloc _)
  have hbxB : MoBox (((w.alloc (.cells #[.int .i64 A.worlds, .slice va A.val.length vc, .slice ra A.rel.length rc] 25)).alloc (.cells #[.int .i64 B.worlds, .slice vb B.val.length vd, .slice rb B.rel.length rd] 25)).alloc (.cells #[.int .i64 0, .slice none 0 0, .slice none 0 0] 25)) (w.heap.size + 1) B vb vd rb rd := by
    have h := MoBox.new (w.alloc (.cells #[.int .i64 A.worlds, .slice va A.val.length vc, .slice ra A.rel.length rc] 25)) B.worlds B.val B.rel vb vd rb rd 25
    rw [show (w.alloc (.cells #[.int .i64 A.worlds, .slice va A.val.length vc, .slice ra A.rel.length rc] 25)).heap.size = w.heap.size + 1 by simp] at h
    exact h.ext ((Ext.refl _).alloc _)
  have HR := Lib.hid (OutAt.new3 w (.cells #[.int .i64 A.worlds, .slice va A.val.length vc, .slice ra A.rel.length rc] 25) (.cells #[.int .i64 B.worlds, .slice vb B.val.length vd, .slice rb B.rel.length rd] 25) (.int .i64 0) (.slice none 0 0) (.slice none 0 0) 25)
  have HE := Lib.hid hE0
  have HBA := Lib.hid hbxA
  have HBB := Lib.hid hbxB
  have HMA := Lib.hid (hA.ext hE0)
  have HMB := Lib.hid (hB.ext hE0)
  have HCA := Lib.hid (modelCheck_any A va ra vc rc _ (hA.ext hE0))
  obtain ⟨m0, m1, m2⟩ := hbxA
  obtain ⟨n0, n1, n2⟩ := hbxB
  have hs0 : (((w.alloc (.cells #[.int .i64 A.worlds, .slice va A.val.length vc, .slice ra A.rel.length rc] 25)).alloc (.cells #[.int .i64 B.worlds, .slice vb B.val.length vd, .slice rb B.rel.length rd] 25)).alloc (.cells #[.int .i64 0, .slice none 0 0, .slice none 0 0] 25)).heap.size = w.heap.size + 3 := by simp
  have HS0 := Lib.hid hs0
  clear hA hB hE0 hs0
  by_cases h1 : moCheck A = 0
  rotate_left
  · have hq : (moCheck A != 0) = true := by simp [h1]
    have hn := prErr_a (B := B) h1
    have hb := pr_bad (A := A) (B := B) (by rw [hn]; exact h1)
    have HN := Lib.hid hn
    have HN2 := Lib.hid hb.1
    have HN3 := Lib.hid hb.2
    clear hn hb
    clear h1
    go_enter Tryz.func17, Tryz.ntmps17
    go_wp2_with fail
    generalize ((w.alloc (.cells #[.int .i64 A.worlds, .slice va A.val.length vc, .slice ra A.rel.length rc] 25)).alloc (.cells #[.int .i64 B.worlds, .slice vb B.val.length vd, .slice rb B.rel.length rd] 25)).alloc (.cells #[.int .i64 0, .slice none 0 0, .slice none 0 0] 25) = W0 at *
    refine HCA.out.mono ?_
    rintro _ w1 ⟨rfl, hE1⟩
    dsimp only
    have HO := Lib.hid (HR.out.ext hE1)
    have HEX := Lib.hid (HE.out.trans hE1)
    have hrl := HO.out.lt
    obtain ⟨r0, r1, r2, rfz⟩ := HO.out
    have f0 := rfz 0
    have f1 := rfz 1
    have f2 := rfz 2
    clear rfz
    go_wp2_with fail
    obtain ⟨d0, d1, d2, -⟩ := ((HO.out.set0 (.int .i64 0)).set1 (.slice none 0 0)).set2 (.slice none 0 0)
    have hEx : Ext w (((w1.setCell ⟨w.heap.size + 2, 0, none⟩ (.int .i64 0)).setCell ⟨w.heap.size + 2, 1, none⟩ (.slice none 0 0)).setCell ⟨w.heap.size + 2, 2, none⟩ (.slice none 0 0)) := HEX.out.set3 (by simp) _ _ _
    generalize ((w1.setCell ⟨w.heap.size + 2, 0, none⟩ (.int .i64 0)).setCell ⟨w.heap.size + 2, 1, none⟩ (.slice none 0 0)).setCell ⟨w.heap.size + 2, 2, none⟩ (.slice none 0 0) = W2 at *
    refine bodyPost_ret (v := .tuple #[.agg #[(.int .i64 0), (.slice none 0 0), (.slice none 0 0)], .slice none 0 0, .int .i64 (moCheck A)]) ?_ rfl ?_
    · rw [results_cell_two rfl]
      go_simp
    · rw [HN2.out, HN3.out, HN.out]
      exact RetPr.zero _ hEx
  have H1 := Lib.hid h1
  by_cases h2 : moCheck B = 0
  rotate_left
  · have hq : (moCheck B != 0) = true := by simp [h2]
    have hn := prErr_b h1 h2
    have hb := pr_bad (A := A) (B := B) (by rw [hn]; exact h2)
    have HN := Lib.hid hn
    have HN2 := Lib.hid hb.1
    have HN3 := Lib.hid hb.2
    clear hn hb
    clear h1 h2
    go_enter Tryz.func17, Tryz.ntmps17
    go_wp2_with fail
    generalize ((w.alloc (.cells #[.int .i64 A.worlds, .slice va A.val.length vc, .slice ra A.rel.length rc] 25)).alloc (.cells #[.int .i64 B.worlds, .slice vb B.val.length vd, .slice rb B.rel.length rd] 25)).alloc (.cells #[.int .i64 0, .slice none 0 0, .slice none 0 0] 25) = W0 at *
    refine HCA.out.mono ?_
    rintro _ w1 ⟨rfl, hE1⟩
    rw [H1.out]
    dsimp only
    have y0 := hE1.cell n0
    have y1 := hE1.cell n1
    have y2 := hE1.cell n2
    have HCB := Lib.hid (modelCheck_any B vb rb vd rd w1 (HMB.out.ext hE1))
    clear m0 m1 m2 n0 n1 n2
    go_wp2_with fail
    refine HCB.out.mono ?_
    rintro _ w2 ⟨rfl, hE2⟩
    dsimp only
    have hE12 := hE1.trans hE2
    have HO := Lib.hid (HR.out.ext hE12)
    have HEX := Lib.hid (HE.out.trans hE12)
    have hrl := HO.out.lt
    obtain ⟨r0, r1, r2, rfz⟩ := HO.out
    have f0 := rfz 0
    have f1 := rfz 1
    have f2 := rfz 2
    clear rfz
    go_wp2_with fail
    obtain ⟨d0, d1, d2, -⟩ := ((HO.out.set0 (.int .i64 0)).set1 (.slice none 0 0)).set2 (.slice none 0 0)
    have hEx : Ext w (((w2.setCell ⟨w.heap.size + 2, 0, none⟩ (.int .i64 0)).setCell ⟨w.heap.size + 2, 1, none⟩ (.slice none 0 0)).setCell ⟨w.heap.size + 2, 2, none⟩ (.slice none 0 0)) := HEX.out.set3 (by simp) _ _ _
    generalize ((w2.setCell ⟨w.heap.size + 2, 0, none⟩ (.int .i64 0)).setCell ⟨w.heap.size + 2, 1, none⟩ (.slice none 0 0)).setCell ⟨w.heap.size + 2, 2, none⟩ (.slice none 0 0) = W2 at *
    refine bodyPost_ret (v := .tuple #[.agg #[(.int .i64 0), (.slice none 0 0), (.slice none 0 0)], .slice none 0 0, .int .i64 (moCheck B)]) ?_ rfl ?_
    · rw [results_cell_two rfl]
      go_simp
    · rw [HN2.out, HN3.out, HN.out]
      exact RetPr.zero _ hEx
  have H2 := Lib.hid h2
  obtain ⟨N, okA⟩ := moCheck_ok h1
  obtain ⟨m, okB⟩ := moCheck_ok h2
  have hwA := okA.worlds
  have hwB := okB.worlds
  have hN64 := okA.most
  have hm64 := okB.most
  have hra4 := okA.rel
  have hrb4 := okB.rel
  have hva8 := okA.val
  have hvb8 := okB.val
  have HOA := Lib.hid okA
  have HOB := Lib.hid okB
  have hmul := mul_wrap N m hN64 hm64
  obtain ⟨K, hK⟩ : ∃ K, K = N * m := ⟨_, rfl⟩
  rw [← hK] at hmul
  have HK := Lib.hid hK
  clear hK
  have HWA := Lib.hid hwA
  have HWB := Lib.hid hwB
  by_cases h3 : A.rel.length = B.rel.length
  rotate_left
  · have hq : ((A.rel.length : Int) != (B.rel.length : Int)) = true := by simp; omega
    have hn := prErr_r h1 h2 h3
    have hb := pr_bad (A := A) (B := B) (by rw [hn]; decide)
    have HN := Lib.hid hn
    have HN2 := Lib.hid hb.1
    have HN3 := Lib.hid hb.2
    clear hn hb
    clear h1 h2 h3 hmul hwA hwB
    go_enter Tryz.func17, Tryz.ntmps17
    go_wp2_with fail
    generalize ((w.alloc (.cells #[.int .i64 A.worlds, .slice va A.val.length vc, .slice ra A.rel.length rc] 25)).alloc (.cells #[.int .i64 B.worlds, .slice vb B.val.length vd, .slice rb B.rel.length rd] 25)).alloc (.cells #[.int .i64 0, .slice none 0 0, .slice none 0 0] 25) = W0 at *
    rw [HWA.out] at m0
    rw [HWB.out] at n0
    refine HCA.out.mono ?_
    rintro _ w1 ⟨rfl, hE1⟩
    rw [H1.out]
    dsimp only
    have y0 := hE1.cell n0
    have y1 := hE1.cell n1
    have y2 := hE1.cell n2
    have HCB := Lib.hid (modelCheck_any B vb rb vd rd w1 (HMB.out.ext hE1))
    rw [HWB.out] at HCB
    go_wp2_with fail
    refine HCB.out.mono ?_
    rintro _ w2 ⟨rfl, hE2⟩
    rw [H2.out]
    dsimp only
    have hE12 := hE1.trans hE2
    have z0 := hE12.cell m0
    have z1 := hE12.cell m1
    have z2 := hE12.cell m2
    have x0 := hE2.cell y0
    have x1 := hE2.cell y1
    have x2 := hE2.cell y2
    clear m0 m1 m2 n0 n1 n2 y0 y1 y2
    have HO := Lib.hid (HR.out.ext hE12)
    have HEX := Lib.hid (HE.out.trans hE12)
    have hrl := HO.out.lt
    obtain ⟨r0, r1, r2, rfz⟩ := HO.out
    have f0 := rfz 0
    have f1 := rfz 1
    have f2 := rfz 2
    clear rfz
    go_wp2_with fail
    obtain ⟨d0, d1, d2, -⟩ := ((HO.out.set0 (.int .i64 0)).set1 (.slice none 0 0)).set2 (.slice none 0 0)
    have hEx : Ext w (((w2.setCell ⟨w.heap.size + 2, 0, none⟩ (.int .i64 0)).setCell ⟨w.heap.size + 2, 1, none⟩ (.slice none 0 0)).setCell ⟨w.heap.size + 2, 2, none⟩ (.slice none 0 0)) := HEX.out.set3 (by simp) _ _ _
    generalize ((w2.setCell ⟨w.heap.size + 2, 0, none⟩ (.int .i64 0)).setCell ⟨w.heap.size + 2, 1, none⟩ (.slice none 0 0)).setCell ⟨w.heap.size + 2, 2, none⟩ (.slice none 0 0) = W2 at *
    refine bodyPost_ret (v := .tuple #[.agg #[(.int .i64 0), (.slice none 0 0), (.slice none 0 0)], .slice none 0 0, .int .i64 1]) ?_ rfl ?_
    · rw [results_cell_two rfl]
      go_simp
    · rw [HN2.out, HN3.out, HN.out]
      exact RetPr.zero _ hEx
  have hq : ((A.rel.length : Int) != (B.rel.length : Int)) = false := by simp [h3]
  by_cases h4 : 64 < A.worlds * B.worlds ∨ 8 < A.val.length + B.val.length
  · have hd : (decide ((64 : Int) < (K : Int)) || decide (8 < (A.val.length : Int) + (B.val.length : Int))) = true := by
      rw [hwA, hwB, ← Int.natCast_mul, ← HK.out] at h4
      rcases h4 with h | h
      · rw [decide_eq_true h, Bool.true_or]
      · rw [decide_eq_true (show (8 : Int) < (A.val.length : Int) + (B.val.length : Int) by omega), Bool.or_true]
    have hn := prErr_l h1 h2 h3 h4
    have hb := pr_bad (A := A) (B := B) (by rw [hn]; decide)
    have HN := Lib.hid hn
    have HN2 := Lib.hid hb.1
    have HN3 := Lib.hid hb.2
    clear hn hb
    clear h1 h2 h3 h4 hwA hwB
    cases d1 : decide ((64 : Int) < (K : Int)) <;> cases d2 : decide (8 < (A.val.length : Int) + (B.val.length : Int))
    all_goals rw [d1, d2] at hd
    case false.false => cases hd
    all_goals
      clear hd
      go_enter Tryz.func17, Tryz.ntmps17
      go_wp2_with fail
      generalize ((w.alloc (.cells #[.int .i64 A.worlds, .slice va A.val.length vc, .slice ra A.rel.length rc] 25)).alloc (.cells #[.int .i64 B.worlds, .slice vb B.val.length vd, .slice rb B.rel.length rd] 25)).alloc (.cells #[.int .i64 0, .slice none 0 0, .slice none 0 0] 25) = W0 at *
      rw [HWA.out] at m0
      rw [HWB.out] at n0
      refine HCA.out.mono ?_
      rintro _ w1 ⟨rfl, hE1⟩
      rw [H1.out]
      dsimp only
      have y0 := hE1.cell n0
      have y1 := hE1.cell n1
      have y2 := hE1.cell n2
      have HCB := Lib.hid (modelCheck_any B vb rb vd rd w1 (HMB.out.ext hE1))
      rw [HWB.out] at HCB
      go_wp2_with fail
      refine HCB.out.mono ?_
      rintro _ w2 ⟨rfl, hE2⟩
      rw [H2.out]
      dsimp only
      have hE12 := hE1.trans hE2
      have z0 := hE12.cell m0
      have z1 := hE12.cell m1
      have z2 := hE12.cell m2
      have x0 := hE2.cell y0
      have x1 := hE2.cell y1
      have x2 := hE2.cell y2
      clear m0 m1 m2 n0 n1 n2 y0 y1 y2
      have HO := Lib.hid (HR.out.ext hE12)
      have HEX := Lib.hid (HE.out.trans hE12)
      have hrl := HO.out.lt
      obtain ⟨r0, r1, r2, rfz⟩ := HO.out
      have f0 := rfz 0
      have f1 := rfz 1
      have f2 := rfz 2
      clear rfz
      go_wp2_with fail
      obtain ⟨d0, d1, d2, -⟩ := ((HO.out.set0 (.int .i64 0)).set1 (.slice none 0 0)).set2 (.slice none 0 0)
      have hEx : Ext w (((w2.setCell ⟨w.heap.size + 2, 0, none⟩ (.int .i64 0)).setCell ⟨w.heap.size + 2, 1, none⟩ (.slice none 0 0)).setCell ⟨w.heap.size + 2, 2, none⟩ (.slice none 0 0)) := HEX.out.set3 (by simp) _ _ _
      generalize ((w2.setCell ⟨w.heap.size + 2, 0, none⟩ (.int .i64 0)).setCell ⟨w.heap.size + 2, 1, none⟩ (.slice none 0 0)).setCell ⟨w.heap.size + 2, 2, none⟩ (.slice none 0 0) = W2 at *
      refine bodyPost_ret (v := .tuple #[.agg #[(.int .i64 0), (.slice none 0 0), (.slice none 0 0)], .slice none 0 0, .int .i64 8]) ?_ rfl ?_
      · rw [results_cell_two rfl]
        go_simp
      · rw [HN2.out, HN3.out, HN.out]
        exact RetPr.zero _ hEx
  · have h5 : K ≤ 64 ∧ A.val.length + B.val.length ≤ 8 := by
      rw [hwA, hwB, ← Int.natCast_mul, ← HK.out] at h4
      omega
    obtain ⟨h5, h6⟩ := h5
    have d1 : decide ((64 : Int) < (K : Int)) = false := decide_eq_false (by omega)
    have d2 : decide (8 < (A.val.length : Int) + (B.val.length : Int)) = false := decide_eq_false (by omega)
    have HZ := Lib.hid (prErr_0 h1 h2 h3 h4)
    have HQ := Lib.hid h3
    clear h1 h2 h3 h4 hwA hwB
    obtain ⟨i0, hi1, hz0, hz1, hz2⟩ := info_parts u64_info
    obtain ⟨i2, hj1, hy0, hy1, hy2⟩ := info_parts sl_info
    obtain ⟨i3, hk1, hx0, hx1, hx2⟩ := info_parts pair_info
    go_enter Tryz.func17, Tryz.ntmps17
    go_wp2_with fail
    generalize ((w.alloc (.cells #[.int .i64 A.worlds, .slice va A.val.length vc, .slice ra A.rel.length rc] 25)).alloc (.cells #[.int .i64 B.worlds, .slice vb B.val.length vd, .slice rb B.rel.length rd] 25)).alloc (.cells #[.int .i64 0, .slice none 0 0, .slice none 0 0] 25) = W0 at *
    rw [HWA.out] at m0
    rw [HWB.out] at n0
    refine HCA.out.mono ?_
    rintro _ w1 ⟨rfl, hE1⟩
    rw [H1.out]
    dsimp only
    have y0 := hE1.cell n0
    have y1 := hE1.cell n1
    have y2 := hE1.cell n2
    have HCB := Lib.hid (modelCheck_any B vb rb vd rd w1 (HMB.out.ext hE1))
    rw [HWB.out] at HCB
    go_wp2_with fail
    refine HCB.out.mono ?_
    rintro _ w2 ⟨rfl, hE2⟩
    rw [H2.out]
    dsimp only
    have hE12 := hE1.trans hE2
    have z0 := hE12.cell m0
    have z1 := hE12.cell m1
    have z2 := hE12.cell m2
    have x0 := hE2.cell y0
    have x1 := hE2.cell y1
    have x2 := hE2.cell y2
    clear m0 m1 m2 n0 n1 n2 y0 y1 y2
    have HEE := Lib.hid hE12
    have hp3 : w.heap.size + 3 ≤ w2.heap.size := by have := hE12.size; rw [HS0.out] at this; exact this
    have HP3 := Lib.hid hp3
    have hl0 : w.heap.size < w2.heap.size := by omega
    have hl1 : w.heap.size + 1 < w2.heap.size := by omega
    have hl2 : w.heap.size + 1 + 1 < w2.heap.size := by omega
    clear hE1 hE2 hE12 HCB
    go_wp2_with fail
    have hP0 := PrS.new w2 49
    have HP0 := Lib.hid hP0
    clear hP0
    generalize w2.alloc (.cells #[.slice none 0 0] 49) = w3 at *
    go_loopw [61] (fun i wr => ∃ v : Nat, v ≤ N ∧ i = .int .i64 (v : Int) ∧ ∃ u, PrS w2 (plK m (v * m)) u wr) (fun i _ => N - (intOf i).toNat)
    case atStart => exact ⟨0, Nat.zero_le _, rfl, _, by rw [Nat.zero_mul]; exact HP0.out⟩
    case round =>
      obtain ⟨v, hv, rfl, u, hP⟩ := hrel
      have HP := Lib.hid hP
      by_cases hvl : v < N
      · have k0 := hP.e.cell x0
        have hlb : w.heap.size + 1 < wr.heap.size := World.block_lt_of_cell? _ _ k0
        clear hP
        go_wp2_with fail
        clear k0
        go_loopw [66] (fun i wy => ∃ x : Nat, x ≤ m ∧ i = .int .i64 (x : Int) ∧ ∃ u, PrS w2 (plK m (v * m + x)) u wy) (fun i _ => m - (intOf i).toNat)
        case atStart => exact ⟨0, Nat.zero_le _, rfl, u, HP.out⟩
        case round =>
          rename World => wy
          obtain ⟨x, hx, rfl, u, hP⟩ := hrel
          have HP := Lib.hid hP
          by_cases hxl : x < m
          · have hb : v * m + x < K := by
              have h := Nat.mul_le_mul_right m (show v + 1 ≤ N by omega)
              rw [Nat.succ_mul, ← HK.out] at h
              omega
            have hc := hP.c
            have hlt := World.block_lt_of_cell? _ _ hc
            have HPL := Lib.hid (plK_len m (v * m + x))
            have HO : Hid (∀ o, (wy.alloc o).ownsRow (w2.heap.size + 1) 68 2 u (v * m + x) (rowP (plK m (v * m + x)))) := Lib.hid fun o => by
              have h := own_ext hP.own ((Ext.refl wy).alloc o)
              rw [plK_len] at h; exact h
            have HPA : Hid (∀ o, PrS w2 (plK m (v * m + x)) u (wy.alloc o)) := Lib.hid fun o => HP.out.ext' ((Ext.refl wy).alloc o)
            have HST : Hid (plK m (v * m + (x + 1)) = plK m (v * m + x) ++ [(v, x)]) := Lib.hid (by rw [← Nat.add_assoc, plK_step, (plK_at hxl).1, (plK_at hxl).2])
            have HNW := fun o => Lib.hid (pair_news wy v x o)
            have HON := Lib.hid (pair_one (v, x))
            have hsz : w2.heap.size + 1 ≤ wy.heap.size := hlt
            obtain ⟨q, hq⟩ : ∃ q, q = v * m + x := ⟨_, rfl⟩
            rw [← hq] at HO HPA HST HPL hb HP
            have HQ2 := Lib.hid hq
            clear hP hq
            go_wp2_with (at_builtin; refine wpList_append_lies _ rfl _ _ 49 rfl (w2.heap.size + 1) 68 i3 _ 2 16 Tryz.underlying49 hk1 hx0 hx1 hx2 rfl (by decide) u q _ rfl (HO.out _) ⟨wy.heap.size, 0, none⟩ 1 1 (prCells (v, x)) rfl rfl (HNW _).out HON.out (by decide) (by unfold maxLen; omega) (by omega) (by simp; omega) (wy.heap.size + 1) (by simp) ?_; intro gx cap W1 hown hgrow hat hlt2; obtain ⟨y0, y1, y2⟩ := (HPA.out _).keep hgrow; have hpush := (HPA.out _).push (p := (v, x)) (by rw [HPL.out]; exact hown) hgrow; have HPU := Lib.hid hpush; clear hpush hown hgrow hat)
            go_roundw
            case rel => exact ⟨x + 1, hxl, by go_num, _, by rw [HST.out]; exact HPU.out⟩
            case measure => simp [intOf]; omega
          · obtain rfl : x = m := by omega
            have HP2 := Lib.hid hP
            rw [← Nat.succ_mul] at HP2
            clear hP HP
            go_wp2
            go_roundw
            case rel => exact ⟨v + 1, hvl, by go_num, _, HP2.out⟩
            case measure => simp [intOf]; omega
      · obtain rfl : v = N := by omega
        obtain ⟨pa, pc, rfl, hrp⟩ := hP.rp (by rw [plK_len, ← HK.out]; omega)
        rw [plK_all] at hrp
        have hpl : (plK m (v * m)).length = K := by rw [plK_len, HK.out]
        rw [hpl] at HP
        have hrx := hrp
        have HRP := Lib.hid hrx
        have HPN : Hid ((pairL v m).length = K) := Lib.hid (by rw [pairL_len, HK.out])
        rw [hpl] at hP
        have HPF := Lib.hid hP
        have hc := hP.c
        have hltp := World.block_lt_of_cell? _ _ hc
        have k0 := hP.e.cell z0
        have k1 := hP.e.cell z1
        have k2 := hP.e.cell z2
        have l0 := hP.e.cell x0
        have l1 := hP.e.cell x1
        have l2 := hP.e.cell x2
        have hb0 : w.heap.size < wr.heap.size := World.block_lt_of_cell? _ _ k0
        have hb1 : w.heap.size + 1 < wr.heap.size := World.block_lt_of_cell? _ _ l0
        have HCL : Hid (∀ s t W, Ext wr W → Calls Tryz.prog 31 #[.int .u64 (un s), .int .u64 (un t), .pointer (some ⟨w2.heap.size, 0, none⟩)] W fun e w' => e = .returned (.int .u64 (un (bothS (pairL v m) s t))) ∧ Ext W w') :=
          Lib.hid fun s t W hW => product1_any s t w2.heap.size pa pc (pairL v m) W (by rw [HPN.out]; exact hW.cell hc) (hrp.ext hW)
        have HCV : Hid (∀ s W, Ext wr W → Calls Tryz.prog 31 #[.int .u64 (un s), .int .u64 18446744073709551615, .pointer (some ⟨w2.heap.size, 0, none⟩)] W fun e w' => e = .returned (.int .u64 (un (bothS (pairL v m) s (allW m)))) ∧ Ext W w') :=
          Lib.hid fun s W hW => by have h := HCL.out s 18446744073709551615#64 W hW; rw [both_maxR hm64, un_max] at h; exact h
        have HCW : Hid (∀ t W, Ext wr W → Calls Tryz.prog 31 #[.int .u64 18446744073709551615, .int .u64 (un t), .pointer (some ⟨w2.heap.size, 0, none⟩)] W fun e w' => e = .returned (.int .u64 (un (bothS (pairL v m) (allW v) t))) ∧ Ext W w') :=
          Lib.hid fun t W hW => by have h := HCL.out 18446744073709551615#64 t W hW; rw [both_maxL hN64, un_max] at h; exact h
        have hF : ∀ args W, (callFunc 31 args).run Tryz.prog W = .ok (.enter 31 args) W := cf_product1
        have HVA := Lib.hid (HMA.out.val.ext (HEE.out.trans hP.e))
        have HVB := Lib.hid (HMB.out.val.ext (HEE.out.trans hP.e))
        have HRA := Lib.hid (HMA.out.rel.ext (HEE.out.trans hP.e))
        have HRB := Lib.hid (HMB.out.rel.ext (HEE.out.trans hP.e))
        have HEr := Lib.hid (HEE.out.trans hP.e)
        have HBAr := Lib.hid (And.intro k0 (And.intro k1 k2))
        have HBBr := Lib.hid (And.intro l0 (And.intro l1 l2))
        have hZ := ZR.new wr (K : Int)
        have HZ0 := Lib.hid hZ
        generalize hLVE : A.val.map (fun s => bothS (pairL v m) s (allW m)) = LV
        have hLVl : LV.length = A.val.length := by rw [← hLVE]; simp
        have HLV : Hid (∀ k, k < A.val.length → nth LV k = bothS (pairL v m) (nth A.val k) (allW m)) := Lib.hid fun k hk => by rw [← hLVE]; exact nth_mapN _ _ hk
        have HLVE := Lib.hid hLVE
        have HLVL := Lib.hid hLVl
        clear hrp hrx hpl hP hZ hLVE hLVl hp3 hl0 hl1 hl2 z0 z1 z2 x0 x1 x2
        go_wp2_with fail
        generalize wr.alloc (.cells #[.int .i64 (K : Int), .slice none 0 0, .slice none 0 0] 25) = w4 at *
        clear k0 k1 k2 l0 l1 l2
        go_loopw [84] (fun i wy => ∃ k : Nat, k ≤ A.val.length ∧ i = .int .i64 (k : Int) ∧ ∃ vv, ZR wr (K : Int) (LV.take k) vv [] [] (.slice none 0 0) wy) (fun i _ => A.val.length - (intOf i).toNat)
        case atStart => exact ⟨0, Nat.zero_le _, rfl, _, HZ0.out⟩
        case round =>
          rename World => wy
          obtain ⟨k, hk, rfl, vv, hI⟩ := hrel
          have HI := Lib.hid hI
          by_cases hkl : k < A.val.length
          · obtain ⟨b, off, rfl, hb, hc3⟩ := (HVA.out.ext hI.e).get hkl
            obtain ⟨o0, o1, o2, ofz⟩ := hI.out
            have hol := hI.out.lt
            have hfz := ofz 1
            have HLN : Hid ((LV.take k).length = k) := Lib.hid (by rw [List.length_take, HLVL.out]; omega)
            have HPA : Hid (∀ W o, Ext wy W → ZR wr (K : Int) (LV.take k) vv [] [] (.slice none 0 0) (W.alloc o)) := Lib.hid fun W o hW => HI.out.ext' (hW.alloc o)
            have HOUT : Hid (∀ W, Ext wy W → OutAt W wr.heap.size (.int .i64 (K : Int)) vv (.slice none 0 0)) := Lib.hid fun W hW => HI.out.out.ext hW
            have HOW : Hid (∀ W o, Ext wy W → (W.alloc o).ownsRow (wr.heap.size + 1) 44 1 vv k ((LV.take k).map uv)) := Lib.hid fun W o hW => by
              have h := (HPA.out W o hW).ov
              unfold OU at h
              rw [HLN.out] at h; exact h
            have HXE := Lib.hid hI.e
            have hone : LV.take (k + 1) = LV.take k ++ [bothS (pairL v m) (nth A.val k) (allW m)] := by
              rw [← HLV.out k hkl, nth_eq _ _ (by rw [HLVL.out]; exact hkl), List.take_add_one, List.getElem?_eq_getElem (by rw [HLVL.out]; exact hkl)]; rfl
            have HONE1 := Lib.hid hone
            have HONE : Hid (∀ u ∈ [Value.int .u64 (un (bothS (pairL v m) (nth A.val k) (allW m)))], u.oneCell' = true) := Lib.hid fun u hu => by rw [List.mem_singleton.1 hu]; rfl
            clear hI hone
            clear ofz
            go_wp2_with fail
            go_region_law (first | (refine step_go (by rfl) ?_; go_simp; refine (HCV.out _ _ (HXE.out.trans (Ext.refl _).drew)).mono ?_; rintro _ w5 ⟨rfl, hE5⟩; have hE6 := (Ext.refl wy).drew.trans hE5; obtain ⟨p0, p1, p2, pfz⟩ := HOUT.out _ hE6; have pf := pfz 1; have hl5 := (HOUT.out _ hE6).lt; clear pfz; have HE6 := Lib.hid hE6; clear hE5 hE6; dsimp only) | (refine step_append_lies _ (by rfl) _ _ 22 (by rfl) (wr.heap.size + 1) 44 i0 _ 1 8 Tryz.underlying22 hi1 hz0 hz1 hz2 rfl (by decide) vv k _ (by rfl) (HOW.out _ _ HE6.out) _ 1 1 [.int .u64 (un (bothS (pairL v m) (nth A.val k) (allW m)))] (by rfl) (by rfl) (cell_one_new _ _ _) HONE.out (by decide) (by unfold maxLen; omega) (by omega) (by have := HE6.out.size; simp; omega) (w5.heap.size + 1) (by simp) ?_; intro gx cap W1 hown hgrow hat hlt2; have hnew := (HPA.out _ _ HE6.out).pushV (x := bothS (pairL v m) (nth A.val k) (allW m)) (by rw [HLN.out]; exact hown) hgrow; obtain ⟨q0, q1, q2, qfz⟩ := (HPA.out _ _ HE6.out).outV hgrow; have qf := qfz 1; clear qfz; have HNEW := Lib.hid hnew; clear hnew hown hgrow hat))
            all_goals
              go_wp2
              go_roundw
              case rel => exact ⟨k + 1, hkl, by go_num, _, by rw [HONE1.out]; exact HNEW.out⟩
              case measure => simp [intOf]; omega
          · obtain rfl : k = A.val.length := by omega
            have hfullA : LV.take A.val.length = LV := by rw [← HLVL.out]; exact List.take_length
            rw [hfullA] at hI
            have HZ3 := Lib.hid hI
            generalize hLBE : B.val.map (fun t => bothS (pairL v m) (allW v) t) = LB
            have hLBl : LB.length = B.val.length := by rw [← hLBE]; simp
            have HLB : Hid (∀ k, k < B.val.length → nth LB k = bothS (pairL v m) (allW v) (nth B.val k)) := Lib.hid fun k hk => by rw [← hLBE]; exact nth_mapN _ _ hk
            have HLBE := Lib.hid hLBE
            have HLBL := Lib.hid hLBl
            have k1 := hI.e.cell (HBBr.out.2.1)
            have hby : w.heap.size + 1 < wy.heap.size := World.block_lt_of_cell? _ _ k1
            clear hI HI hfullA hLBE hLBl
            rename World => wA
            go_wp2_with fail
            clear k1
            go_loopw [100] (fun i wy => ∃ k : Nat, k ≤ B.val.length ∧ i = .int .i64 (k : Int) ∧ ∃ vv, ZR wr (K : Int) (LV ++ LB.take k) vv [] [] (.slice none 0 0) wy) (fun i _ => B.val.length - (intOf i).toNat)
            case atStart => exact ⟨0, Nat.zero_le _, rfl, _, by rw [List.take_zero, List.append_nil]; exact HZ3.out⟩
            case round =>
              rename World => wy
              obtain ⟨k, hk, rfl, vv, hI⟩ := hrel
              have HI := Lib.hid hI
              by_cases hkl : k < B.val.length
              · obtain ⟨b, off, rfl, hb, hc3⟩ := (HVB.out.ext hI.e).get hkl
                obtain ⟨o0, o1, o2, ofz⟩ := hI.out
                have hol := hI.out.lt
                have hfz := ofz 1
                have HLN : Hid ((LV ++ LB.take k).length = A.val.length + k) := Lib.hid (by rw [List.length_append, List.length_take, HLVL.out, HLBL.out]; omega)
                have HPA : Hid (∀ W o, Ext wy W → ZR wr (K : Int) (LV ++ LB.take k) vv [] [] (.slice none 0 0) (W.alloc o)) := Lib.hid fun W o hW => HI.out.ext' (hW.alloc o)
                have HOUT : Hid (∀ W, Ext wy W → OutAt W wr.heap.size (.int .i64 (K : Int)) vv (.slice none 0 0)) := Lib.hid fun W hW => HI.out.out.ext hW
                have HOW : Hid (∀ W o, Ext wy W → (W.alloc o).ownsRow (wr.heap.size + 1) 44 1 vv (A.val.length + k) ((LV ++ LB.take k).map uv)) := Lib.hid fun W o hW => by
                  have h := (HPA.out W o hW).ov
                  unfold OU at h
                  rw [HLN.out] at h; exact h
                have HXE := Lib.hid hI.e
                have hone : LV ++ LB.take (k + 1) = (LV ++ LB.take k) ++ [bothS (pairL v m) (allW v) (nth B.val k)] := by
                  rw [← HLB.out k hkl, nth_eq _ _ (by rw [HLBL.out]; exact hkl), List.take_add_one, List.getElem?_eq_getElem (by rw [HLBL.out]; exact hkl), List.append_assoc]; rfl
                have HONE1 := Lib.hid hone
                have HONE : Hid (∀ u ∈ [Value.int .u64 (un (bothS (pairL v m) (allW v) (nth B.val k)))], u.oneCell' = true) := Lib.hid fun u hu => by rw [List.mem_singleton.1 hu]; rfl
                clear hI hone
                clear ofz
                go_wp2_with fail
                go_region_law (first | (refine step_go (by rfl) ?_; go_simp; refine (HCW.out _ _ (HXE.out.trans (Ext.refl _).drew)).mono ?_; rintro _ w5 ⟨rfl, hE5⟩; have hE6 := (Ext.refl wy).drew.trans hE5; obtain ⟨p0, p1, p2, pfz⟩ := HOUT.out _ hE6; have pf := pfz 1; have hl5 := (HOUT.out _ hE6).lt; clear pfz; have HE6 := Lib.hid hE6; clear hE5 hE6; dsimp only) | (refine step_append_lies _ (by rfl) _ _ 22 (by rfl) (wr.heap.size + 1) 44 i0 _ 1 8 Tryz.underlying22 hi1 hz0 hz1 hz2 rfl (by decide) vv (A.val.length + k) _ (by rfl) (HOW.out _ _ HE6.out) _ 1 1 [.int .u64 (un (bothS (pairL v m) (allW v) (nth B.val k)))] (by rfl) (by rfl) (cell_one_new _ _ _) HONE.out (by decide) (by unfold maxLen; omega) (by omega) (by have := HE6.out.size; simp; omega) (w5.heap.size + 1) (by simp) ?_; intro gx cap W1 hown hgrow hat hlt2; have hnew := (HPA.out _ _ HE6.out).pushV (x := bothS (pairL v m) (allW v) (nth B.val k)) (by rw [HLN.out]; exact hown) hgrow; obtain ⟨q0, q1, q2, qfz⟩ := (HPA.out _ _ HE6.out).outV hgrow; have qf := qfz 1; clear qfz; have HNEW := Lib.hid hnew; clear hnew hown hgrow hat))
                all_goals
                  go_wp2
                  go_roundw
                  case rel => exact ⟨k + 1, hkl, by go_num, _, by rw [HONE1.out]; exact HNEW.out⟩
                  case measure => simp [intOf]; omega
              · obtain rfl : k = B.val.length := by omega
                have hfullB : LB.take B.val.length = LB := by rw [← HLBL.out]; exact List.take_length
                rw [hfullB] at hI
                have HZ5 := Lib.hid hI
                generalize hLRE : (List.range A.rel.length).map (fun i => prR (pairL v m) (nth A.rel i) (nth B.rel i)) = LR
                have hLRl : LR.length = A.rel.length := by rw [← hLRE]; simp
                have HLR : Hid (∀ q, q < A.rel.length → nth LR q = prR (pairL v m) (nth A.rel q) (nth B.rel q)) := Lib.hid fun q hq => by
                  rw [← hLRE, nth_mapN _ _ (by simpa using hq), nth_range hq]
                have HLRE := Lib.hid hLRE
                have HLRL := Lib.hid hLRl
                have k2 := hI.e.cell (HBAr.out.2.2)
                have hby2 : w.heap.size < wy.heap.size := World.block_lt_of_cell? _ _ k2
                have hLVB : (LV ++ LB).length ≤ 8 := by rw [List.length_append, HLVL.out, HLBL.out]; exact h6
                clear hI HI hfullB hLRE hLRl
                rename World => wB
                go_wp2_with fail
                clear k2
                go_loopw [116] (fun i wy => ∃ q : Nat, q ≤ A.rel.length ∧ i = .int .i64 (q : Int) ∧ ∃ svs vr, ZR wr (K : Int) (LV ++ LB) vv (LR.take q) svs vr wy) (fun i _ => A.rel.length - (intOf i).toNat)
                case atStart => exact ⟨0, Nat.zero_le _, rfl, _, _, HZ5.out⟩
                case round =>
                  rename World => wy
                  obtain ⟨q, hq, rfl, svs, vr, hI⟩ := hrel
                  have HI := Lib.hid hI
                  by_cases hql : q < A.rel.length
                  · have hcp := hI.e.cell HPF.out.c
                    have hltp2 := World.block_lt_of_cell? _ _ hcp
                    generalize hrwE : prR (pairL v m) (nth A.rel q) (nth B.rel q) = row
                    have hrl : row.length = K := by rw [← hrwE]; unfold prR; rw [List.length_map]; exact HPN.out
                    have HRW : Hid (∀ j, j < K → nth row j = bothS (pairL v m) (nth (nth A.rel q) (nth (pairL v m) j).1) (nth (nth B.rel q) (nth (pairL v m) j).2)) := Lib.hid fun j hj => by
                      rw [← hrwE]; unfold prR; rw [nth_mapN _ _ (by rw [HPN.out]; exact hj)]
                    have HRWE : Hid (nth LR q = row) := Lib.hid (by rw [HLR.out q hql, hrwE])
                    have HRWL := Lib.hid hrl
                    clear hI hrwE hrl
                    go_wp2_with fail
                    clear hcp
                    go_loopw [19, 121] (fun r i wz => ∃ j : Nat, j ≤ K ∧ i = .int .i64 (j : Int) ∧ GLE wy row j r wz) (fun _ i _ => K - (intOf i).toNat)
                    case atStart => exact ⟨0, Nat.zero_le _, rfl, Ext.refl _, World.ownsRow_nil _ _ _ _⟩
                    case round =>
                      rename World => wz
                      obtain ⟨j, hj, rfl, hGL⟩ := hrel
                      have hGL : GL wy 44 uv (row.take j) u19 wz := hGL
                      have HGL := Lib.hid hGL
                      by_cases hjl : j < K
                      · have hEz := HI.out.e.trans hGL.e
                        have HEZ := Lib.hid hEz
                        obtain ⟨bp, op, rfl, hbp, hcp0, hcp1⟩ := (HRP.out.ext hEz).get (k := j) (by rw [HPN.out]; exact hjl)
                        obtain ⟨hp2, hp1⟩ := pairL_snd (N := v) (m := m) (i := j) (by rw [← HK.out]; exact hjl)
                        have hx := HRW.out j hjl
                        have hrA := HOA.out.row _ (nth_mem hql)
                        have hqB : q < B.rel.length := by rw [← HQ.out]; exact hql
                        have hrB := HOB.out.row _ (nth_mem hqB)
                        generalize (nth (pairL v m) j).1 = p0 at *
                        generalize (nth (pairL v m) j).2 = p1 at *
                        have k2 := HBAr.out.2.2
                        have l2 := HBBr.out.2.2
                        obtain ⟨b1, o1, a1, c1, rfl, hb1z, hc1, hu1⟩ := HRA.out.get hql
                        obtain ⟨b2, o2, a2, c2, rfl, hb2z, hc2, hu2⟩ := HRB.out.get hqB
                        obtain ⟨b3, o3, rfl, hb3, hc3⟩ := hu1.get (k := p0) (by omega)
                        obtain ⟨b4, o4, rfl, hb4, hc4⟩ := hu2.get (k := p1) (by omega)
                        have hkr : w.heap.size < wr.heap.size := World.block_lt_of_cell? _ _ k2
                        have hlr : w.heap.size + 1 < wr.heap.size := World.block_lt_of_cell? _ _ l2
                        rw [hrA] at hc1
                        rw [hrB] at hc2
                        have htk : (row.take j).length = j := by rw [List.length_take, HRWL.out]; omega
                        have HTK := Lib.hid htk
                        have hone : row.take (j + 1) = row.take j ++ [bothS (pairL v m) (nth (nth A.rel q) p0) (nth (nth B.rel q) p1)] := by
                          rw [← hx, nth_eq _ _ (by rw [HRWL.out]; exact hjl), List.take_add_one, List.getElem?_eq_getElem (by rw [HRWL.out]; exact hjl)]; rfl
                        have HONE1 := Lib.hid hone
                        have hszr : wr.heap.size ≤ wy.heap.size := HI.out.e.size
                        have hszz : wy.heap.size ≤ wz.heap.size := hGL.e.size
                        have HBK : Hid (∀ g, u19.ownBlock = some g → wy.heap.size ≤ g ∧ g < wz.heap.size) := Lib.hid fun g hg => hGL.own.lt g hg
                        have HPAz : Hid (∀ W o, Ext wz W → GL wy 44 uv (row.take j) u19 (W.alloc o)) := Lib.hid fun W o hW => HGL.out.ext' (hW.alloc o)
                        have k2z := hEz.cell k2
                        have l2z := hEz.cell l2
                        have hc1z := hEz.cell hc1
                        have hc2z := hEz.cell hc2
                        have hc3z := hEz.cell hc3
                        have hc4z := hEz.cell hc4
                        have hkz : w.heap.size < wz.heap.size := by omega
                        have hlz : w.heap.size + 1 < wz.heap.size := by omega
                        generalize nth (nth A.rel q) p0 = ea at *
                        generalize nth (nth B.rel q) p1 = eb at *
                        have HBB4 : Hid (b1 < wr.heap.size ∧ b2 < wr.heap.size ∧ b3 < wr.heap.size ∧ b4 < wr.heap.size) := Lib.hid ⟨hb1z, hb2z, hb3, hb4⟩
                        clear hGL hu1 hu2 hx htk hone hrA hrB hb1z hb2z hb3 hb4 k2 l2 hc1 hc2 hc3 hc4
                        go_wp2_with fail
                        clear hcp0 hcp1 hEz
                        have hEq0 : Ext wz (wz.alloc (.cells #[.int .i64 (p0 : Int), .int .i64 (p1 : Int)] 68)) := (Ext.refl _).alloc _
                        have s1 := hEq0.cell k2z
                        have s2 := hEq0.cell l2z
                        have s3 := hEq0.cell hc1z
                        have s4 := hEq0.cell hc2z
                        have s5 := hEq0.cell hc3z
                        have s6 := hEq0.cell hc4z
                        have s7 : (wz.alloc (.cells #[.int .i64 (p0 : Int), .int .i64 (p1 : Int)] 68)).cell? ⟨wz.heap.size, 0, none⟩ = some (.int .i64 (p0 : Int)) := by simp
                        have s8 : (wz.alloc (.cells #[.int .i64 (p0 : Int), .int .i64 (p1 : Int)] 68)).cell? ⟨wz.heap.size, 1, none⟩ = some (.int .i64 (p1 : Int)) := by simp
                        have HB12 : Hid (b1 < wr.heap.size ∧ b2 < wr.heap.size ∧ b3 < wr.heap.size ∧ b4 < wr.heap.size) := HBB4
                        have HEq0 := Lib.hid hEq0
                        clear hEq0 k2z l2z hc1z hc2z hc3z hc4z
                        generalize hpz : wz.heap.size = pz at *
                        have HPZ := Lib.hid hpz
                        generalize wz.alloc (.cells #[.int .i64 (p0 : Int), .int .i64 (p1 : Int)] 68) = wq at *
                        clear hpz
                        have HPA : Hid (∀ W o, Ext wq.drew W → GL wy 44 uv (row.take j) u19 (W.alloc o)) := Lib.hid fun W o hW => HPAz.out W o (HEq0.out.drew.trans hW)
                        have HOW : Hid (∀ W o, Ext wq.drew W → (W.alloc o).ownsRow wy.heap.size 44 1 u19 j ((row.take j).map uv)) := Lib.hid fun W o hW => by
                          have h := (HPA.out W o hW).own
                          rw [HTK.out] at h; exact h
                        have HCQ := Lib.hid (HCL.out ea eb wq.drew (HEZ.out.trans HEq0.out.drew))
                        have HK1 : Hid (∀ w3, Ext wq.drew w3 → w3.cell? ⟨w.heap.size, 2, none⟩ = some (.slice (some ⟨b1, o1, none⟩) A.rel.length rc) ∧ w3.cell? ⟨w.heap.size + 1, 2, none⟩ = some (.slice (some ⟨b2, o2, none⟩) B.rel.length rd) ∧ w3.cell? ⟨b1, o1 + q, none⟩ = some (.slice (some ⟨b3, o3, none⟩) v c1) ∧ w3.cell? ⟨b2, o2 + q, none⟩ = some (.slice (some ⟨b4, o4, none⟩) m c2) ∧ w3.cell? ⟨b3, o3 + p0, none⟩ = some (.int .u64 (un ea)) ∧ w3.cell? ⟨b4, o4 + p1, none⟩ = some (.int .u64 (un eb)) ∧ w3.cell? ⟨pz, 0, none⟩ = some (.int .i64 (p0 : Int)) ∧ w3.cell? ⟨pz, 1, none⟩ = some (.int .i64 (p1 : Int))) := Lib.hid fun w3 e => ⟨e.cell s1, e.cell s2, e.cell s3, e.cell s4, e.cell s5, e.cell s6, e.cell s7, e.cell s8⟩
                        have HK2 : Hid (∀ w3 W1, Ext wq.drew w3 → w3.grownBy W1 u19.ownBlock → W1.cell? ⟨w.heap.size, 2, none⟩ = some (.slice (some ⟨b1, o1, none⟩) A.rel.length rc) ∧ W1.cell? ⟨w.heap.size + 1, 2, none⟩ = some (.slice (some ⟨b2, o2, none⟩) B.rel.length rd) ∧ W1.cell? ⟨b1, o1 + q, none⟩ = some (.slice (some ⟨b3, o3, none⟩) v c1) ∧ W1.cell? ⟨b2, o2 + q, none⟩ = some (.slice (some ⟨b4, o4, none⟩) m c2) ∧ W1.cell? ⟨b3, o3 + p0, none⟩ = some (.int .u64 (un ea)) ∧ W1.cell? ⟨b4, o4 + p1, none⟩ = some (.int .u64 (un eb)) ∧ W1.cell? ⟨pz, 0, none⟩ = some (.int .i64 (p0 : Int)) ∧ W1.cell? ⟨pz, 1, none⟩ = some (.int .i64 (p1 : Int))) := Lib.hid fun w3 W1 e g => by
                          obtain ⟨t1, t2, t3, t4, t5, t6, t7, t8⟩ := HK1.out w3 e
                          obtain ⟨hB1, hB2, hB3, hB4⟩ := HB12.out
                          have hne : ∀ b, b < wr.heap.size → some b ≠ u19.ownBlock := fun b hb e => by have := (HBK.out b e.symm).1; omega
                          have hnz : some pz ≠ u19.ownBlock := fun e => by have := (HBK.out pz e.symm).2; have := HPZ.out; omega
                          exact ⟨g.cell t1 (hne _ hkr), g.cell t2 (hne _ hlr), g.cell t3 (hne _ hB1), g.cell t4 (hne _ hB2), g.cell t5 (hne _ hB3), g.cell t6 (hne _ hB4), g.cell t7 hnz, g.cell t8 hnz⟩
                        have HONE : Hid (∀ u ∈ [Value.int .u64 (un (bothS (pairL v m) ea eb))], u.oneCell' = true) := Lib.hid fun u hu => by rw [List.mem_singleton.1 hu]; rfl
                        have HSZ : Hid (∀ W o, Ext wq.drew W → wy.heap.size ≤ (W.alloc o).heap.size) := Lib.hid fun W o e => (HPA.out W o e).e.size
                        have HONE1' := HONE1
                        go_region_held3 (fun w' => w'.cell? ⟨w.heap.size, 2, none⟩ = some (.slice (some ⟨b1, o1, none⟩) A.rel.length rc) ∧ w'.cell? ⟨w.heap.size + 1, 2, none⟩ = some (.slice (some ⟨b2, o2, none⟩) B.rel.length rd) ∧ w'.cell? ⟨b1, o1 + q, none⟩ = some (.slice (some ⟨b3, o3, none⟩) v c1) ∧ w'.cell? ⟨b2, o2 + q, none⟩ = some (.slice (some ⟨b4, o4, none⟩) m c2) ∧ w'.cell? ⟨b3, o3 + p0, none⟩ = some (.int .u64 (un ea)) ∧ w'.cell? ⟨b4, o4 + p1, none⟩ = some (.int .u64 (un eb)) ∧ w'.cell? ⟨pz, 0, none⟩ = some (.int .i64 (p0 : Int)) ∧ w'.cell? ⟨pz, 1, none⟩ = some (.int .i64 (p1 : Int))) (first | go_keep | assumption | exact HK1.out _ (by assumption) | exact HK1.out _ (Ext.refl _) | exact HK1.out _ (Ext.alloc (by assumption) _))
                          (first | (refine step_append_lies _ (by rfl) _ _ 22 (by rfl) wy.heap.size 44 i0 _ 1 8 Tryz.underlying22 hi1 hz0 hz1 hz2 rfl (by decide) u19 j _ (by rfl) (HOW.out _ _ (by assumption)) _ 1 1 [.int .u64 (un (bothS (pairL v m) ea eb))] (by rfl) (by rfl) (cell_one_new _ _ _) HONE.out (by decide) (by unfold maxLen; omega) (by omega) (HSZ.out _ _ (by assumption)) _ rfl ?_; intro gx cap W1 hown hgrow hat hlt2; have hpush := (HPA.out _ _ (by assumption)).push (by rw [HTK.out]; exact hown) hgrow; have k6 := HK2.out _ _ (Ext.alloc (by assumption) _) hgrow; have HPU := Lib.hid hpush; clear hpush hown hgrow hat) | ((with_reducible refine HCQ.out.mono ?_); rintro e w3 ⟨rfl, hE3⟩) | fail)
                        go_wp2
                        go_roundw
                        case rel => exact ⟨j + 1, hjl, by go_num, by show GL _ _ _ (row.take (j + 1)) _ _; rw [HONE1.out]; exact HPU.out⟩
                        case measure => simp [intOf]; omega
                      · obtain rfl : j = K := by omega
                        have hfullR : row.take j = row := by rw [← HRWL.out]; exact List.take_length
                        rw [hfullR] at hGL
                        have hou : OU wz wy.heap.size u19 row := hGL.own
                        obtain ⟨a3, c3, rfl, -⟩ := RU_of_OU hou (by rw [HRWL.out]; omega)
                        have hI2 := HI.out.ext' hGL.e
                        have hou2 : OU wz (wr.heap.size + 1) (.slice a3 row.length c3) row := OU.mono hou (by have := HI.out.out.lt; omega)
                        rw [HRWL.out]
                        rw [HRWL.out] at hou2
                        obtain ⟨o0, o1, o2, ofz⟩ := hI2.out
                        have hol := hI2.out.lt
                        have hfz := ofz 2
                        have hsl : svs.length = q := by have h := hI2.rl; rw [List.length_take, HLRL.out] at h; omega
                        have HSL := Lib.hid hsl
                        have HPA : Hid (∀ o, ZR wr (j : Int) (LV ++ LB) vv (LR.take q) svs vr (wz.alloc o)) := Lib.hid fun o => hI2.ext' ((Ext.refl wz).alloc o)
                        have HR3 : Hid (∀ o, OU (wz.alloc o) (wr.heap.size + 1) (.slice a3 j c3) row) := Lib.hid fun o => OU.ext hou2 ((Ext.refl wz).alloc o)
                        have HONE : Hid (∀ u ∈ [Value.slice a3 j c3], u.oneCell' = true) := Lib.hid fun u hu => by rw [List.mem_singleton.1 hu]; rfl
                        have HOW : Hid (∀ o, (wz.alloc o).ownsRow (wr.heap.size + 1) 22 1 vr q svs) := Lib.hid fun o => by
                          have h := (HPA.out o).orr
                          rw [HSL.out] at h; exact h
                        have hone : LR.take (q + 1) = LR.take q ++ [row] := by
                          rw [← HRWE.out, nth_eq _ _ (by rw [HLRL.out]; exact hql), List.take_add_one, List.getElem?_eq_getElem (by rw [HLRL.out]; exact hql)]; rfl
                        have HONE1 := Lib.hid hone
                        clear hGL HGL hou hou2 hI2 hfullR hone hsl ofz
                        go_wp2_with (at_builtin; refine wpList_append_lies _ rfl _ _ 23 rfl (wr.heap.size + 1) 22 i2 _ 1 24 Tryz.underlying23 hj1 hy0 hy1 hy2 rfl (by decide) vr q svs rfl (HOW.out _) ⟨wz.heap.size, 0, none⟩ 1 1 [.slice a3 j c3] rfl rfl (cell_one_new _ _ _) HONE.out (by decide) (by unfold maxLen; omega) (by omega) (by simp; omega) (wz.heap.size + 1) (by simp) ?_; intro gx cap W1 hown hgrow hat hlt2; obtain ⟨p0, p1, p2, pfz⟩ := (HPA.out _).outR hgrow; have pf := pfz 2; clear pfz; have hnew := (HPA.out _).pushR (HR3.out _) (by rw [HSL.out]; exact hown) hgrow; have HNEW := Lib.hid hnew; clear hnew hown hgrow hat)
                        go_roundw
                        case rel => exact ⟨q + 1, hql, by go_num, _, _, by rw [HONE1.out]; exact HNEW.out⟩
                        case measure => simp [intOf]; omega
                  · obtain rfl : q = A.rel.length := by omega
                    have hfullQ : LR.take A.rel.length = LR := by rw [← HLRL.out]; exact List.take_length
                    rw [hfullQ] at hI
                    obtain ⟨va5, vc5, ra5, rc5, hvv, rfl, hrm⟩ := hI.rm3 (by rw [HLRL.out]; omega) (fun j hj => by
                      rw [HLRL.out] at hj
                      rw [HLR.out j hj]; unfold prR; rw [List.length_map, HPN.out]; omega) (by omega)
                    have HRM := Lib.hid hrm
                    obtain ⟨o0, o1, o2, -⟩ := hI.out
                    rw [hvv] at o1
                    have hol := hI.out.lt
                    have hcp := hI.e.cell HPF.out.c
                    have hltp2 := World.block_lt_of_cell? _ _ hcp
                    have hh := HR.out.ext (HEr.out.trans hI.e)
                    have HH := Lib.hid hh
                    obtain ⟨r0, r1, r2, rfz⟩ := hh
                    have f0 := rfz 0
                    have f1 := rfz 1
                    have f2 := rfz 2
                    have hrl9 := HH.out.lt
                    have HEW := Lib.hid (HE.out.trans (HEr.out.trans hI.e))
                    have HOWN := Lib.hid (own_ext HPF.out.own hI.e)
                    have HVV := Lib.hid hvv
                    have hne1 : ¬ (w2.heap.size = w.heap.size + 1 + 1) := by have := HP3.out; omega
                    have hne2 : ¬ (w.heap.size + 1 + 1 = w2.heap.size) := by have := HP3.out; omega
                    have hLVL2 : (LV ++ LB).length = LV.length + LB.length := by simp
                    have HLV2 := Lib.hid hLVL2
                    clear hLVL2
                    clear hI hrm rfz hfullQ hvv HI
                    go_wp2_with fail
                    go_region
                    go_wp2_with fail
                    have hEx : Ext w (((wy.setCell ⟨w.heap.size + 2, 0, none⟩ (.int .i64 (K : Int))).setCell ⟨w.heap.size + 2, 1, none⟩ (.slice va5 (LV ++ LB).length vc5)).setCell ⟨w.heap.size + 2, 2, none⟩ (.slice ra5 LR.length rc5)) := HEW.out.set3 (by omega) _ _ _
                    obtain ⟨d0, d1', d2', -⟩ := (((HH.out.set0 (.int .i64 (K : Int))).set1 (.slice va5 (LV ++ LB).length vc5)).set2 (.slice ra5 LR.length rc5)).ext (Ext.refl _).drew
                    have hag : Agree (w.heap.size + 3) wy (((wy.setCell ⟨w.heap.size + 2, 0, none⟩ (.int .i64 (K : Int))).setCell ⟨w.heap.size + 2, 1, none⟩ (.slice va5 (LV ++ LB).length vc5)).setCell ⟨w.heap.size + 2, 2, none⟩ (.slice ra5 LR.length rc5)).drew := Agree.set3 (B := w.heap.size + 3) wy (b := w.heap.size + 2) (by omega) (.int .i64 (K : Int)) (.slice va5 (LV ++ LB).length vc5) (.slice ra5 LR.length rc5)
                    have hEx2 := hEx.drew
                    have hp3 := HP3.out
                    have hrm2 := HRM.out _ (hag.mono (by omega))
                    have hrp2 := RP_of_own (own_agree HOWN.out (hag.mono (by omega))) (by rw [plK_len, ← HK.out]; omega)
                    rw [HLV2.out] at d0 d1' d2' hEx2 hrm2 hrp2
                    clear hEx hag
                    generalize (((wy.setCell ⟨w.heap.size + 2, 0, none⟩ (.int .i64 (K : Int))).setCell ⟨w.heap.size + 2, 1, none⟩ (.slice va5 (LV.length + LB.length) vc5)).setCell ⟨w.heap.size + 2, 2, none⟩ (.slice ra5 LR.length rc5)).drew = W2 at *
                    have e0 : W2.cell? ⟨w.heap.size + 1 + 1, 0, none⟩ = some (.int .i64 (K : Int)) := d0
                    have e1 : W2.cell? ⟨w.heap.size + 1 + 1, 1, none⟩ = some (.slice va5 (LV.length + LB.length) vc5) := d1'
                    have e2 : W2.cell? ⟨w.heap.size + 1 + 1, 2, none⟩ = some (.slice ra5 LR.length rc5) := d2'
                    refine bodyPost_ret (v := .tuple #[.agg #[.int .i64 (K : Int), .slice va5 (LV.length + LB.length) vc5, .slice ra5 LR.length rc5], .slice pa K pc, .int .i64 0]) ?_ rfl ?_
                    · rw [results_cell_two rfl]
                      go_simp
                    · obtain ⟨pa2, pc2, hpe, hrp3⟩ := hrp2
                      simp only [Value.slice.injEq] at hpe
                      obtain ⟨rfl, -, -⟩ := hpe
                      rw [prM_eq HOA.out HOB.out HZ.out, prL_eq HOA.out HOB.out HZ.out, HZ.out, HLVE.out, HLBE.out, HLRE.out, ← HK.out]
                      refine ⟨va5, ra5, pa, vc5, rc5, pc, ?_, hrm2, hrp3, hEx2⟩
                      simp only [List.length_append, HPN.out]
end Wt
