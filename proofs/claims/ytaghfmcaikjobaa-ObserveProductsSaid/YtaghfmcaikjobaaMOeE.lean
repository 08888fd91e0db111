/- Walk: wittingref22.Product. -/
import Derived.Test.YtaghfmcaikjobaaMOdC
import Derived.Test.YtaghfmcaikjobaaMRgn
namespace Wt
open Go Go.RowKit Go.Maps Go.Proofs Fm

/-- The list of pairs under way, in a slot. -/
structure PrV (W0 : World) (l : List (Nat × Nat)) (v : Value) (w : World) : Prop where
  e : Ext W0 w
  own : w.ownsRow W0.heap.size 53 2 v l.length (rowP l)
section
variable {W0 w w' W1 : World} {l : List (Nat × Nat)} {v v' : Value}
theorem PrV.new (W0 : World) : PrV W0 [] (.slice none 0 0) W0 := ⟨Ext.refl _, World.ownsRow_nil _ _ _ _⟩
theorem PrV.ext' (h : PrV W0 l v w) (e : Ext w w') : PrV W0 l v w' := ⟨h.e.trans e, own_ext h.own e⟩
theorem PrV.push (h : PrV W0 l v w) {p : Nat × Nat} (ho : W1.ownsRow W0.heap.size 53 2 v' (l.length + 1) (rowP l ++ prCells p)) (g : w.grownBy W1 v.ownBlock) : PrV W0 (l ++ [p]) v' W1 := by
  refine ⟨Below.grown h.e g h.e.size (fun k hk => (h.own.lt k hk).1), ?_⟩
  rw [rowP_append, List.length_append]
  simpa [rowP] using ho
theorem PrV.rp (h : PrV W0 l v w) (hl : l.length ≤ 1000) : ∃ a c, v = .slice a l.length c ∧ RP w a l := RP_of_own h.own (by omega)
end
set_option maxRecDepth 20000 in
set_option maxHeartbeats 8000000 in
theorem r22product_any (A B : Mo) (va ra vb rb : Option Addr) (vc rc vd rd : Nat) (w : World) (hA : RM w va ra A) (hB : RM w vb rb B) :
    Calls Try.prog 23 #[.agg #[.int .i64 A.worlds, .slice va A.val.length vc, .slice ra A.rel.length rc], .agg #[.int .i64 B.worlds, .slice vb B.val.length vd, .slice rb B.rel.length rd]] w fun e w' => RetPr (prM A B) (prL A B) (prErr A B) e w w' := by
  have hE0 : Ext w (((w.alloc (.cells #[.int .i64 A.worlds, .slice va A.val.length vc, .slice ra A.rel.length rc] 29)).alloc (.cells #[.int .i64 B.worlds, .slice vb B.val.length vd, .slice rb B.rel.length rd] 29)).alloc (.cells #[.int .i64 0, .slice none 0 0, .slice none 0 0] 29)) := (((Ext.refl w).alloc _).alloc _).alloc _
  have hbxA : MoBox (((w.alloc (.cells #[.int .i64 A.worlds, .slice va A.val.length vc, .slice ra A.rel.length rc] 29)).alloc (.cells #[.int .i64 B.worlds, .slice vb B.val.length vd, .slice rb B.rel.length rd] 29)).alloc (.cells #[.int .i64 0, .slice none 0 0, .slice none 0 0] 29)) w.heap.size A va vc ra rc := (MoBox.new w A.worlds A.val A.rel va vc ra rc 29).ext (((Ext.refl _).alloc _).alloc _)
  have hbxB : MoBox (((w.alloc (.cells #[.int .i64 A.worlds, .slice va A.val.length vc, .slice ra A.rel.length rc] 29)).alloc (.cells #[.int .i64 B.worlds, .slice vb B.val.length vd, .slice rb B.rel.length rd] 29)).alloc (.cells #[.int .i64 0, .slice none 0 0, .slice none 0 0] 29)) (w.heap.size + 1) B vb vd rb rd := by
    have h := MoBox.new (w.alloc (.cells #[.int .i64 A.worlds, .slice va A.val.length vc, .slice ra A.rel.length rc] 29)) B.worlds B.val B.rel vb vd rb rd 29
    rw [show (w.alloc (.cells #[.int .i64 A.worlds, .slice va A.val.length vc, .slice ra A.rel.length rc] 29)).heap.size = w.heap.size + 1 by simp] at h
    exact h.ext ((Ext.refl _).alloc _)
  have HR := Lib.hid (OutAt.new3 w (.cells #[.int .i64 A.worlds, .slice va A.val.length vc, .slice ra A.rel.length rc] 29) (.cells #[.int .i64 B.worlds, .slice vb B.val.length vd, .slice rb B.rel.length rd] 29) (.int .i64 0) (.slice none 0 0) (.slice none 0 0) 29)
  have HE := Lib.hid hE0
  have HBA := Lib.hid hbxA
  have HBB := Lib.hid hbxB
  have HMA := Lib.hid (hA.ext hE0)
  have HMB := Lib.hid (hB.ext hE0)
  have HCA := Lib.hid (r13Check_any A va ra vc rc _ (hA.ext hE0))
  obtain ⟨m0, m1, m2⟩ := hbxA
  obtain ⟨n0, n1, n2⟩ := hbxB
  have hs0 : (((w.alloc (.cells #[.int .i64 A.worlds, .slice va A.val.length vc, .slice ra A.rel.length rc] 29)).alloc (.cells #[.int .i64 B.worlds, .slice vb B.val.length vd, .slice rb B.rel.length rd] 29)).alloc (.cells #[.int .i64 0, .slice none 0 0, .slice none 0 0] 29)).heap.size = w.heap.size + 3 := by simp
  have HS0 := Lib.hid hs0
  clear hA hB hE0 hs0
  by_cases h1 : moCheck A = 0
  rotate_left
  · have hq : (moCheck A != 0) = true := by simp [h1]
    have hn := prErr_a (B := B) h1
    have hb := pr_bad (A := A) (B := B) (by rw [hn]; exact h1)
    have HN := Lib.hid hn
    have HN2 := Lib.hid hb.1
    have HN3 := Lib.hid hb.2
    clear hn hb
    clear h1
    go_enter Try.func23, Try.ntmps23
    go_wp2_with fail
    generalize ((w.alloc (.cells #[.int .i64 A.worlds, .slice va A.val.length vc, .slice ra A.rel.length rc] 29)).alloc (.cells #[.int .i64 B.worlds, .slice vb B.val.length vd, .slice rb B.rel.length rd] 29)).alloc (.cells #[.int .i64 0, .slice none 0 0, .slice none 0 0] 29) = W0 at *
    refine HCA.out.mono ?_
    rintro _ w1 ⟨rfl, hE1⟩
    dsimp only
    have HO := Lib.hid (HR.out.ext hE1)
    have HEX := Lib.hid (HE.out.trans hE1)
    have hrl := HO.out.lt
    obtain ⟨r0, r1, r2, rfz⟩ := HO.out
    have f0 := rfz 0
    have f1 := rfz 1
    have f2 := rfz 2
    clear rfz
    go_wp2_with fail
    obtain ⟨d0, d1, d2, -⟩ := ((HO.out.set0 (.int .i64 0)).set1 (.slice none 0 0)).set2 (.slice none 0 0)
    have hEx : Ext w (((w1.setCell ⟨w.heap.size + 2, 0, none⟩ (.int .i64 0)).setCell ⟨w.heap.size + 2, 1, none⟩ (.slice none 0 0)).setCell ⟨w.heap.size + 2, 2, none⟩ (.slice none 0 0)) := HEX.out.set3 (by simp) _ _ _
    generalize ((w1.setCell ⟨w.heap.size + 2, 0, none⟩ (.int .i64 0)).setCell ⟨w.heap.size + 2, 1, none⟩ (.slice none 0 0)).setCell ⟨w.heap.size + 2, 2, none⟩ (.slice none 0 0) = W2 at *
    refine bodyPost_ret (v := .tuple #[.agg #[(.int .i64 0), (.slice none 0 0), (.slice none 0 0)], .slice none 0 0, .int .i64 (moCheck A)]) ?_ rfl ?_
    · rw [results_cell_two rfl]
      go_simp
    · rw [HN2.out, HN3.out, HN.out]
      exact RetPr.zero _ hEx
  have H1 := Lib.hid h1
  by_cases h2 : moCheck B = 0
  rotate_left
  · have hq : (moCheck B != 0) = true := by simp [h2]
    have hn := prErr_b h1 h2
    have hb := pr_bad (A := A) (B := B) (by rw [hn]; exact h2)
    have HN := Lib.hid hn
    have HN2 := Lib.hid hb.1
    have HN3 := Lib.hid hb.2
    clear hn hb
    clear h1 h2
    go_enter Try.func23, Try.ntmps23
    go_wp2_with fail
    generalize ((w.alloc (.cells #[.int .i64 A.worlds, .slice va A.val.length vc, .slice ra A.rel.length rc] 29)).alloc (.cells #[.int .i64 B.worlds, .slice vb B.val.length vd, .slice rb B.rel.length rd] 29)).alloc (.cells #[.int .i64 0, .slice none 0 0, .slice none 0 0] 29) = W0 at *
    refine HCA.out.mono ?_
    rintro _ w1 ⟨rfl, hE1⟩
    rw [H1.out]
    dsimp only
    have y0 := hE1.cell n0
    have y1 := hE1.cell n1
    have y2 := hE1.cell n2
    have HCB := Lib.hid (r13Check_any B vb rb vd rd w1 (HMB.out.ext hE1))
    clear m0 m1 m2 n0 n1 n2
    go_wp2_with fail
    refine HCB.out.mono ?_
    rintro _ w2 ⟨rfl, hE2⟩
    dsimp only
    have hE12 := hE1.trans hE2
    have HO := Lib.hid (HR.out.ext hE12)
    have HEX := Lib.hid (HE.out.trans hE12)
    have hrl := HO.out.lt
    obtain ⟨r0, r1, r2, rfz⟩ := HO.out
    have f0 := rfz 0
    have f1 := rfz 1
    have f2 := rfz 2
    clear rfz
    go_wp2_with fail
    obtain ⟨d0, d1, d2, -⟩ := ((HO.out.set0 (.int .i64 0)).set1 (.slice none 0 0)).set2 (.slice none 0 0)
    have hEx : Ext w (((w2.setCell ⟨w.heap.size + 2, 0, none⟩ (.int .i64 0)).setCell ⟨w.heap.size + 2, 1, none⟩ (.slice none 0 0)).setCell ⟨w.heap.size + 2, 2, none⟩ (.slice none 0 0)) := HEX.out.set3 (by simp) _ _ _
    generalize ((w2.setCell ⟨w.heap.size + 2, 0, none⟩ (.int .i64 0)).setCell ⟨w.heap.size + 2, 1, none⟩ (.slice none 0 0)).setCell ⟨w.heap.size + 2, 2, none⟩ (.slice none 0 0) = W2 at *
    refine bodyPost_ret (v := .tuple #[.agg #[(.int .i64 0), (.slice none 0 0), (.slice none 0 0)], .slice none 0 0, .int .i64 (moCheck B)]) ?_ rfl ?_
    · rw [results_cell_two rfl]
      go_simp
    · rw [HN2.out, HN3.out, HN.out]
      exact RetPr.zero _ hEx
  have H2 := Lib.hid h2
  obtain ⟨N, okA⟩ := moCheck_ok h1
  obtain ⟨m, okB⟩ := moCheck_ok h2
  have hwA := okA.worlds
  have hwB := okB.worlds
  have hN64 := okA.most
  have hm64 := okB.most
  have hra4 := okA.rel
  have hrb4 := okB.rel
  have hva8 := okA.val
  have hvb8 := okB.val
  have HOA := Lib.hid okA
  have HOB := Lib.hid okB
  have hmul := mul_wrap N m hN64 hm64
  obtain ⟨K, hK⟩ : ∃ K, K = N * m := ⟨_, rfl⟩
  rw [← hK] at hmul
  have HK := Lib.hid hK
  clear hK
  have HWA := Lib.hid hwA
  have HWB := Lib.hid hwB
  by_cases h3 : A.rel.length = B.rel.length
  rotate_left
  · have hq : ((A.rel.length : Int) != (B.rel.length : Int)) = true := by simp; omega
    have hn := prErr_r h1 h2 h3
    have hb := pr_bad (A := A) (B := B) (by rw [hn]; decide)
    have HN := Lib.hid hn
    have HN2 := Lib.hid hb.1
    have HN3 := Lib.hid hb.2
    clear hn hb
    clear h1 h2 h3 hmul hwA hwB
    go_enter Try.func23, Try.ntmps23
    go_wp2_with fail
    generalize ((w.alloc (.cells #[.int .i64 A.worlds, .slice va A.val.length vc, .slice ra A.rel.length rc] 29)).alloc (.cells #[.int .i64 B.worlds, .slice vb B.val.length vd, .slice rb B.rel.length rd] 29)).alloc (.cells #[.int .i64 0, .slice none 0 0, .slice none 0 0] 29) = W0 at *
    rw [HWA.out] at m0
    rw [HWB.out] at n0
    refine HCA.out.mono ?_
    rintro _ w1 ⟨rfl, hE1⟩
    rw [H1.out]
    dsimp only
    have y0 := hE1.cell n0
    have y1 := hE1.cell n1
    have y2 := hE1.cell n2
    have HCB := Lib.hid (r13Check_any B vb rb vd rd w1 (HMB.out.ext hE1))
    rw [HWB.out] at HCB
    go_wp2_with fail
    refine HCB.out.mono ?_
    rintro _ w2 ⟨rfl, hE2⟩
    rw [H2.out]
    dsimp only
    have hE12 := hE1.trans hE2
    have z0 := hE12.cell m0
    have z1 := hE12.cell m1
    have z2 := hE12.cell m2
    have x0 := hE2.cell y0
    have x1 := hE2.cell y1
    have x2 := hE2.cell y2
    clear m0 m1 m2 n0 n1 n2 y0 y1 y2
    have HO := Lib.hid (HR.out.ext hE12)
    have HEX := Lib.hid (HE.out.trans hE12)
    have hrl := HO.out.lt
    obtain ⟨r0, r1, r2, rfz⟩ := HO.out
    have f0 := rfz 0
    have f1 := rfz 1
    have f2 := rfz 2
    clear rfz
    go_wp2_with fail
    obtain ⟨d0, d1, d2, -⟩ := ((HO.out.set0 (.int .i64 0)).set1 (.slice none 0 0)).set2 (.slice none 0 0)
    have hEx : Ext w (((w2.setCell ⟨w.heap.size + 2, 0, none⟩ (.int .i64 0)).setCell ⟨w.heap.size + 2, 1, none⟩ (.slice none 0 0)).setCell ⟨w.heap.size + 2, 2, none⟩ (.slice none 0 0)) := HEX.out.set3 (by simp) _ _ _
    generalize ((w2.setCell ⟨w.heap.size + 2, 0, none⟩ (.int .i64 0)).setCell ⟨w.heap.size + 2, 1, none⟩ (.slice none 0 0)).setCell ⟨w.heap.size + 2, 2, none⟩ (.slice none 0 0) = W2 at *
    refine bodyPost_ret (v := .tuple #[.agg #[(.int .i64 0), (.slice none 0 0), (.slice none 0 0)], .slice none 0 0, .int .i64 1]) ?_ rfl ?_
    · rw [results_cell_two rfl]
      go_simp
    · rw [HN2.out, HN3.out, HN.out]
      exact RetPr.zero _ hEx
  have hq : ((A.rel.length : Int) != (B.rel.length : Int)) = false := by simp [h3]
  by_cases h4 : 64 < A.worlds * B.worlds ∨ 8 < A.val.length + B.val.length
  · have hd : (decide ((64 : Int) < (K : Int)) || decide (8 < (A.val.length : Int) + (B.val.length : Int))) = true := by
      rw [hwA, hwB, ← Int.natCast_mul, ← HK.out] at h4
      rcases h4 with h | h
      · rw [decide_eq_true h, Bool.true_or]
      · rw [decide_eq_true (show (8 : Int) < (A.val.length : Int) + (B.val.length : Int) by omega), Bool.or_true]
    have hn := prErr_l h1 h2 h3 h4
    have hb := pr_bad (A := A) (B := B) (by rw [hn]; decide)
    have HN := Lib.hid hn
    have HN2 := Lib.hid hb.1
    have HN3 := Lib.hid hb.2
    clear hn hb
    clear h1 h2 h3 h4 hwA hwB
    cases d1 : decide ((64 : Int) < (K : Int)) <;> cases d2 : decide (8 < (A.val.length : Int) + (B.val.length : Int))
    all_goals rw [d1, d2] at hd
    case false.false => cases hd
    all_goals
      clear hd
      go_enter Try.func23, Try.ntmps23
      go_wp2_with fail
      generalize ((w.alloc (.cells #[.int .i64 A.worlds, .slice va A.val.length vc, .slice ra A.rel.length rc] 29)).alloc (.cells #[.int .i64 B.worlds, .slice vb B.val.length vd, .slice rb B.rel.length rd] 29)).alloc (.cells #[.int .i64 0, .slice none 0 0, .slice none 0 0] 29) = W0 at *
      rw [HWA.out] at m0
      rw [HWB.out] at n0
      refine HCA.out.mono ?_
      rintro _ w1 ⟨rfl, hE1⟩
      rw [H1.out]
      dsimp only
      have y0 := hE1.cell n0
      have y1 := hE1.cell n1
      have y2 := hE1.cell n2
      have HCB := Lib.hid (r13Check_any B vb rb vd rd w1 (HMB.out.ext hE1))
      rw [HWB.out] at HCB
      go_wp2_with fail
      refine HCB.out.mono ?_
      rintro _ w2 ⟨rfl, hE2⟩
      rw [H2.out]
      dsimp only
      have hE12 := hE1.trans hE2
      have z0 := hE12.cell m0
      have z1 := hE12.cell m1
      have z2 := hE12.cell m2
      have x0 := hE2.cell y0
      have x1 := hE2.cell y1
      have x2 := hE2.cell y2
      clear m0 m1 m2 n0 n1 n2 y0 y1 y2
      have HO := Lib.hid (HR.out.ext hE12)
      have HEX := Lib.hid (HE.out.trans hE12)
      have hrl := HO.out.lt
      obtain ⟨r0, r1, r2, rfz⟩ := HO.out
      have f0 := rfz 0
      have f1 := rfz 1
      have f2 := rfz 2
      clear rfz
      go_wp2_with fail
      obtain ⟨d0, d1, d2, -⟩ := ((HO.out.set0 (.int .i64 0)).set1 (.slice none 0 0)).set2 (.slice none 0 0)
      have hEx : Ext w (((w2.setCell ⟨w.heap.size + 2, 0, none⟩ (.int .i64 0)).setCell ⟨w.heap.size + 2, 1, none⟩ (.slice none 0 0)).setCell ⟨w.heap.size + 2, 2, none⟩ (.slice none 0 0)) := HEX.out.set3 (by simp) _ _ _
      generalize ((w2.setCell ⟨w.heap.size + 2, 0, none⟩ (.int .i64 0)).setCell ⟨w.heap.size + 2, 1, none⟩ (.slice none 0 0)).setCell ⟨w.heap.size + 2, 2, none⟩ (.slice none 0 0) = W2 at *
      refine bodyPost_ret (v := .tuple #[.agg #[(.int .i64 0), (.slice none 0 0), (.slice none 0 0)], .slice none 0 0, .int .i64 8]) ?_ rfl ?_
      · rw [results_cell_two rfl]
        go_simp
      · rw [HN2.out, HN3.out, HN.out]
        exact RetPr.zero _ hEx
  · have h5 : K ≤ 64 ∧ A.val.length + B.val.length ≤ 8 := by
      rw [hwA, hwB, ← Int.natCast_mul, ← HK.out] at h4
      omega
    obtain ⟨h5, h6⟩ := h5
    have d1 : decide ((64 : Int) < (K : Int)) = false := decide_eq_false (by omega)
    have d2 : decide (8 < (A.val.length : Int) + (B.val.length : Int)) = false := decide_eq_false (by omega)
    have HZ := Lib.hid (prErr_0 h1 h2 h3 h4)
    have HQ := Lib.hid h3
    clear h1 h2 h3 h4 hwA hwB
    obtain ⟨i0, hi1, hz0, hz1, hz2⟩ := info_parts u64_info
    obtain ⟨i2, hj1, hy0, hy1, hy2⟩ := info_parts sl_info
    obtain ⟨i3, hk1, hx0, hx1, hx2⟩ := info_parts pair_info
    go_enter Try.func23, Try.ntmps23
    go_wp2_with fail
    generalize ((w.alloc (.cells #[.int .i64 A.worlds, .slice va A.val.length vc, .slice ra A.rel.length rc] 29)).alloc (.cells #[.int .i64 B.worlds, .slice vb B.val.length vd, .slice rb B.rel.length rd] 29)).alloc (.cells #[.int .i64 0, .slice none 0 0, .slice none 0 0] 29) = W0 at *
    rw [HWA.out] at m0
    rw [HWB.out] at n0
    refine HCA.out.mono ?_
    rintro _ w1 ⟨rfl, hE1⟩
    rw [H1.out]
    dsimp only
    have y0 := hE1.cell n0
    have y1 := hE1.cell n1
    have y2 := hE1.cell n2
    have HCB := Lib.hid (r13Check_any B vb rb vd rd w1 (HMB.out.ext hE1))
    rw [HWB.out] at HCB
    go_wp2_with fail
    refine HCB.out.mono ?_
    rintro _ w2 ⟨rfl, hE2⟩
    rw [H2.out]
    dsimp only
    have hE12 := hE1.trans hE2
    have z0 := hE12.cell m0
    have z1 := hE12.cell m1
    have z2 := hE12.cell m2
    have x0 := hE2.cell y0
    have x1 := hE2.cell y1
    have x2 := hE2.cell y2
    clear m0 m1 m2 n0 n1 n2 y0 y1 y2
    have HEE := Lib.hid hE12
    have hp3 : w.heap.size + 3 ≤ w2.heap.size := by have := hE12.size; rw [HS0.out] at this; exact this
    have HP3 := Lib.hid hp3
    have hl0 : w.heap.size < w2.heap.size := by omega
    have hl1 : w.heap.size + 1 < w2.heap.size := by omega
    have hl2 : w.heap.size + 1 + 1 < w2.heap.size := by omega
    clear hE1 hE2 hE12 HCB
    go_wp2_with fail
    go_loopw [9, 10] (fun l i wr => ∃ v : Nat, v ≤ N ∧ i = .int .i64 (v : Int) ∧ PrV w2 (plK m (v * m)) l wr) (fun _ i _ => N - (intOf i).toNat)
    case atStart => exact ⟨0, Nat.zero_le _, rfl, by rw [Nat.zero_mul]; exact PrV.new w2⟩
    case round =>
      obtain ⟨v, hv, rfl, hP⟩ := hrel
      have HP := Lib.hid hP
      have k0 := hP.e.cell z0
      have hka : w.heap.size < wr.heap.size := World.block_lt_of_cell? _ _ k0
      by_cases hvl : v < N
      · clear hP
        go_wp2_with fail
        clear k0
        go_loopw [9, 11] (fun l i wy => ∃ x : Nat, x ≤ m ∧ i = .int .i64 (x : Int) ∧ PrV w2 (plK m (v * m + x)) l wy) (fun _ i _ => m - (intOf i).toNat)
        case atStart => exact ⟨0, Nat.zero_le _, rfl, HP.out⟩
        case round =>
          rename World => wy
          obtain ⟨x, hx, rfl, hP⟩ := hrel
          have HP := Lib.hid hP
          have k0 := hP.e.cell x0
          have hkb : w.heap.size + 1 < wy.heap.size := World.block_lt_of_cell? _ _ k0
          by_cases hxl : x < m
          · have hb : v * m + x < K := by
              have h := Nat.mul_le_mul_right m (show v + 1 ≤ N by omega)
              rw [Nat.succ_mul, ← HK.out] at h
              omega
            have HPL := Lib.hid (plK_len m (v * m + x))
            have HO : Hid (∀ o, (wy.alloc o).ownsRow w2.heap.size 53 2 u9 (v * m + x) (rowP (plK m (v * m + x)))) := Lib.hid fun o => by
              have h := own_ext hP.own ((Ext.refl wy).alloc o)
              rw [plK_len] at h; exact h
            have HPA : Hid (∀ o, PrV w2 (plK m (v * m + x)) u9 (wy.alloc o)) := Lib.hid fun o => HP.out.ext' ((Ext.refl wy).alloc o)
            have HST : Hid (plK m (v * m + (x + 1)) = plK m (v * m + x) ++ [(v, x)]) := Lib.hid (by rw [← Nat.add_assoc, plK_step, (plK_at hxl).1, (plK_at hxl).2])
            have HNW := fun o => Lib.hid (pair_news wy v x o)
            have HON := Lib.hid (pair_one (v, x))
            have hsz : w2.heap.size ≤ wy.heap.size := hP.e.size
            obtain ⟨q, hq⟩ : ∃ q, q = v * m + x := ⟨_, rfl⟩
            rw [← hq] at HO HPA HST HPL hb HP
            have HQ2 := Lib.hid hq
            clear hP hq
            go_wp2_with (at_builtin; refine wpList_append_lies _ rfl _ _ 45 rfl w2.heap.size 53 i3 _ 2 16 Try.underlying45 hk1 hx0 hx1 hx2 rfl (by decide) u9 q _ rfl (HO.out _) ⟨wy.heap.size, 0, none⟩ 1 1 (prCells (v, x)) rfl rfl (HNW _).out HON.out (by decide) (by unfold maxLen; omega) (by omega) (by simp; omega) (wy.heap.size + 1) (by simp) ?_; intro gx cap W1 hown hgrow hat hlt2; have hpush := (HPA.out _).push (p := (v, x)) (by rw [HPL.out]; exact hown) hgrow; have HPU := Lib.hid hpush; clear hpush hown hgrow hat)
            go_roundw
            case rel => exact ⟨x + 1, hxl, by go_num, by rw [HST.out]; exact HPU.out⟩
            case measure => simp [intOf]; omega
          · obtain rfl : x = m := by omega
            have HP2 := Lib.hid hP
            rw [← Nat.succ_mul] at HP2
            clear hP HP
            go_wp2
            go_roundw
            case rel => exact ⟨v + 1, hvl, by go_num, HP2.out⟩
            case measure => simp [intOf]; omega
      · obtain rfl : v = N := by omega
        obtain ⟨pa, pc, hu9, hrp⟩ := hP.rp (by rw [plK_len, ← HK.out]; omega)
        rw [plK_all] at hrp
        have hpl : (plK m (v * m)).length = K := by rw [plK_len, HK.out]
        rw [hpl] at hu9
        subst hu9
        have hrx := hrp
        have HRP := Lib.hid hrx
        have HPN : Hid ((pairL v m).length = K) := Lib.hid (by rw [pairL_len, HK.out])
        have hown9 := hP.own
        rw [hpl] at hown9
        have HOWN := Lib.hid hown9
        have k1 := hP.e.cell z1
        have k2 := hP.e.cell z2
        have l0 := hP.e.cell x0
        have l1 := hP.e.cell x1
        have l2 := hP.e.cell x2
        have HCP : Hid (∀ s t W, Ext wr W → Calls Try.prog 51 #[.slice pa K pc, .int .u64 (un s), .int .u64 (un t)] W fun e w' => e = .returned (.int .u64 (un (bothS (pairL v m) s t))) ∧ w' = W) :=
          Lib.hid fun s t W hW => by
            have h := r22pairs_any s t pa pc (pairL v m) W (hrp.ext hW) (by rw [HPN.out]; omega)
            rw [HPN.out] at h
            exact h.mono fun _ _ h => ⟨h.1, h.2.symm⟩
        have HALL : Hid (∀ (n : Nat) W, n ≤ 64 → Calls Try.prog 52 #[.int .i64 (n : Int)] W fun e w' => e = .returned (.int .u64 (un (allW n))) ∧ w' = W) :=
          Lib.hid fun n W hn => (r01All_any n W hn).mono fun _ _ h => ⟨h.1, h.2.symm⟩
        have HVA := Lib.hid (HMA.out.val.ext (HEE.out.trans hP.e))
        have HVB := Lib.hid (HMB.out.val.ext (HEE.out.trans hP.e))
        have HRA := Lib.hid (HMA.out.rel.ext (HEE.out.trans hP.e))
        have HRB := Lib.hid (HMB.out.rel.ext (HEE.out.trans hP.e))
        have HEr := Lib.hid (HEE.out.trans hP.e)
        have HBAr := Lib.hid (And.intro k0 (And.intro k1 k2))
        have HBBr := Lib.hid (And.intro l0 (And.intro l1 l2))
        have HZ0 := Lib.hid (ZR.new wr (K : Int))
        have hsz2 : w2.heap.size ≤ wr.heap.size := hP.e.size
        generalize hLVE : A.val.map (fun s => bothS (pairL v m) s (allW m)) = LV
        have hLVl : LV.length = A.val.length := by rw [← hLVE]; simp
        have HLV : Hid (∀ k, k < A.val.length → nth LV k = bothS (pairL v m) (nth A.val k) (allW m)) := Lib.hid fun k hk => by rw [← hLVE]; exact nth_mapN _ _ hk
        have HLVE := Lib.hid hLVE
        have HLVL := Lib.hid hLVl
        clear hrp hrx hpl hP hLVE hLVl hl0 hl1 hl2 z0 z1 z2 x0 x1 x2 hown9
        go_wp2_with fail
        generalize wr.alloc (.cells #[.int .i64 (K : Int), .slice none 0 0, .slice none 0 0] 29) = w4 at *
        clear k0 k1 k2 l0 l1 l2
        go_loopw [13] (fun i wy => ∃ k : Nat, k ≤ A.val.length ∧ i = .int .i64 (k : Int) ∧ ∃ vv, ZR wr (K : Int) (LV.take k) vv [] [] (.slice none 0 0) wy) (fun i _ => A.val.length - (intOf i).toNat)
        case atStart => exact ⟨0, Nat.zero_le _, rfl, _, HZ0.out⟩
        case round =>
          rename World => wy
          obtain ⟨k, hk, rfl, vv, hI⟩ := hrel
          have HI := Lib.hid hI
          have k1 := hI.e.cell HBAr.out.2.1
          have hby : w.heap.size < wy.heap.size := World.block_lt_of_cell? _ _ k1
          by_cases hkl : k < A.val.length
          · obtain ⟨b, off, rfl, hb, hc3⟩ := (HVA.out.ext hI.e).get hkl
            have hI2 := HI.out.ext' (Ext.refl wy).drew
            obtain ⟨o0, o1, o2, ofz⟩ := hI2.out
            have hol := hI2.out.lt
            have hfz := ofz 1
            have hb1d : b < wy.drew.heap.size := hb
            have hbyd : w.heap.size < wy.drew.heap.size := hby
            have k1d := (Ext.refl wy).drew.cell k1
            have l0d := hI2.e.cell HBBr.out.1
            have hbzd : w.heap.size + 1 < wy.drew.heap.size := World.block_lt_of_cell? _ _ l0d
            have hc3d := (Ext.refl wy).drew.cell hc3
            have hkI : (k : Int) < (A.val.length : Int) := by omega
            have HLN : Hid ((LV.take k).length = k) := Lib.hid (by rw [List.length_take, HLVL.out]; omega)
            have HPA : Hid (∀ o, ZR wr (K : Int) (LV.take k) vv [] [] (.slice none 0 0) (wy.drew.alloc o)) := Lib.hid fun o => hI2.ext' ((Ext.refl _).alloc o)
            have HOW : Hid (∀ o, (wy.drew.alloc o).ownsRow (wr.heap.size + 1) 49 1 vv k ((LV.take k).map uv)) := Lib.hid fun o => by
              have h := (HPA.out o).ov
              unfold OU at h
              rw [HLN.out] at h; exact h
            have HXE := Lib.hid hI2.e
            have hone : LV.take (k + 1) = LV.take k ++ [bothS (pairL v m) (nth A.val k) (allW m)] := by
              rw [← HLV.out k hkl, nth_eq _ _ (by rw [HLVL.out]; exact hkl), List.take_add_one, List.getElem?_eq_getElem (by rw [HLVL.out]; exact hkl)]; rfl
            have HONE1 := Lib.hid hone
            have HONE : Hid (∀ u ∈ [Value.int .u64 (un (bothS (pairL v m) (nth A.val k) (allW m)))], u.oneCell' = true) := Lib.hid fun u hu => by rw [List.mem_singleton.1 hu]; rfl
            have HSS : Hid (∀ w', Ext wy.drew w' → w'.cell? ⟨wr.heap.size, 1, none⟩ = some vv ∧ w'.cell? ⟨w.heap.size, 1, none⟩ = some (.slice (some ⟨b, off, none⟩) A.val.length vc) ∧ w'.cell? ⟨b, off + k, none⟩ = some (.int .u64 (un (nth A.val k))) ∧ w'.cell? ⟨w.heap.size + 1, 0, none⟩ = some (.int .i64 (m : Int))) := Lib.hid fun w' e => ⟨e.cell o1, e.cell k1d, e.cell hc3d, e.cell l0d⟩
            clear hI hone ofz hI2
            go_wp2_with fail
            clear k1 hc3 hb hby
            refine wp_region_E 13 (fun w' => w'.cell? ⟨wr.heap.size, 1, none⟩ = some vv ∧ w'.cell? ⟨w.heap.size, 1, none⟩ = some (.slice (some ⟨b, off, none⟩) A.val.length vc) ∧ w'.cell? ⟨b, off + k, none⟩ = some (.int .u64 (un (nth A.val k))) ∧ w'.cell? ⟨w.heap.size + 1, 0, none⟩ = some (.int .i64 (m : Int))) (by kernel_rfl) ?_
            generalize World.drew wy = wd at *
            refine wpAnyE_take (i := 0) (v := ?_) (.here) (by kernel_rfl) (fun _ _ _ h => h) (HSS.out _ (Ext.refl _)) (by rfl) ?_ ?_
            rotate_left
            focus (intro w hSw; (try dsimp only at hSw); go_simp; try with_reducible rfl)
            try simp only [Act.put, List.setIfInBounds_toArray, List.set_cons_zero, List.set_cons_succ]
            refine wpAnyE_take (i := 1) (v := ?_) (.next (.here)) (by kernel_rfl) (fun _ _ _ h => h) (HSS.out _ (Ext.refl _)) (by rfl) ?_ ?_
            rotate_left
            focus (intro w hSw; (try dsimp only at hSw); go_simp; try with_reducible rfl)
            try simp only [Act.put, List.setIfInBounds_toArray, List.set_cons_zero, List.set_cons_succ]
            refine wpAnyE_take (i := 2) (v := ?_) (.next (.next (.here))) (by kernel_rfl) (fun _ _ _ h => h) (HSS.out _ (Ext.refl _)) (by rfl) ?_ ?_
            rotate_left
            focus (intro w hSw; (try dsimp only at hSw); go_simp; try with_reducible rfl)
            try simp only [Act.put, List.setIfInBounds_toArray, List.set_cons_zero, List.set_cons_succ]
            refine wpAnyE_take (i := 3) (v := ?_) (.next (.next (.next (.here)))) (by kernel_rfl) (fun _ _ _ h => h) (HSS.out _ (Ext.refl _)) (by rfl) ?_ ?_
            rotate_left
            focus (intro w hSw; (try dsimp only at hSw); go_simp; try with_reducible rfl)
            try simp only [Act.put, List.setIfInBounds_toArray, List.set_cons_zero, List.set_cons_succ]
            refine wpAnyE_take (i := 4) (v := ?_) (.next (.next (.next (.next (.here))))) (by kernel_rfl) (fun _ _ _ h => h) (HSS.out _ (Ext.refl _)) (by rfl) ?_ ?_
            rotate_left
            focus (intro w hSw; (try dsimp only at hSw); go_simp; try with_reducible rfl)
            try simp only [Act.put, List.setIfInBounds_toArray, List.set_cons_zero, List.set_cons_succ]
            refine wpAnyE_take (i := 5) (v := ?_) (.next (.next (.next (.next (.next (.here)))))) (by kernel_rfl) (fun _ _ _ h => h) (HSS.out _ (Ext.refl _)) (by rfl) ?_ ?_
            rotate_left
            focus (intro w hSw; (try dsimp only at hSw); go_simp; try with_reducible rfl)
            try simp only [Act.put, List.setIfInBounds_toArray, List.set_cons_zero, List.set_cons_succ]
            refine wpAnyE_take (i := 6) (v := ?_) (.next (.next (.next (.next (.next (.next (.here))))))) (by kernel_rfl) (fun _ _ _ h => h) (HSS.out _ (Ext.refl _)) (by rfl) ?_ ?_
            rotate_left
            focus (intro w hSw; (try dsimp only at hSw); go_simp; try with_reducible rfl)
            try simp only [Act.put, List.setIfInBounds_toArray, List.set_cons_zero, List.set_cons_succ]
            refine wpAnyE_take (i := 7) (v := ?_) (.next (.next (.next (.next (.next (.next (.next (.here)))))))) (by kernel_rfl) (fun _ _ _ h => h) (HSS.out _ (Ext.refl _)) (by rfl) ?_ ?_
            rotate_left
            focus (intro w hSw; (try dsimp only at hSw); go_simp; try with_reducible rfl)
            try simp only [Act.put, List.setIfInBounds_toArray, List.set_cons_zero, List.set_cons_succ]
            refine wpAnyE_take (i := 8) (v := ?_) (.next (.next (.next (.next (.next (.next (.next (.next (.here))))))))) (by kernel_rfl) (fun _ _ _ h => h) (HSS.out _ (Ext.refl _)) (by rfl) ?_ ?_
            rotate_left
            focus (intro w hSw; (try dsimp only at hSw); go_simp; try with_reducible rfl)
            try simp only [Act.put, List.setIfInBounds_toArray, List.set_cons_zero, List.set_cons_succ]
            refine wpAnyE_take (i := 9) (v := ?_) (.next (.next (.next (.next (.next (.next (.next (.next (.next (.here)))))))))) (by kernel_rfl) (fun _ _ _ h => h) (HSS.out _ (Ext.refl _)) (by rfl) ?_ ?_
            rotate_left
            focus (intro w hSw; (try dsimp only at hSw); go_simp; try with_reducible rfl)
            try simp only [Act.put, List.setIfInBounds_toArray, List.set_cons_zero, List.set_cons_succ]
            refine wpAnyE_one (k := 10) (.next (.next (.next (.next (.next (.next (.next (.next (.next (.next (.here))))))))))) (by kernel_rfl) (fun K hK => ?_)
            go_simp
            refine ((HALL.out m _ hm64).mono fun _ _ h => (⟨h.1, h.2.symm⟩ : _ ∧ _ = _)).mono ?_; rintro _ _ ⟨rfl, rfl⟩; dsimp only
            refine hK.out _ _ (fun _ => HSS.out _ (Ext.refl _)) ?_
            clear hK
            try simp only [Act.put, List.setIfInBounds_toArray, List.set_cons_zero, List.set_cons_succ]
            refine wpAnyE_one (k := 11) (.next (.next (.next (.next (.next (.next (.next (.next (.next (.next (.next (.here)))))))))))) (by kernel_rfl) (fun K hK => ?_)
            go_simp
            refine ((HCP.out (nth A.val k) (allW m) _ HXE.out).mono fun _ _ h => (⟨h.1, h.2.symm⟩ : _ ∧ _ = _)).mono ?_; rintro _ _ ⟨rfl, rfl⟩; dsimp only
            refine hK.out _ _ (fun _ => HSS.out _ (Ext.refl _)) ?_
            clear hK
            try simp only [Act.put, List.setIfInBounds_toArray, List.set_cons_zero, List.set_cons_succ]
            refine wpAnyE_one (k := 12) (.next (.next (.next (.next (.next (.next (.next (.next (.next (.next (.next (.next (.here))))))))))))) (by kernel_rfl) (fun K hK => ?_)
            go_simp
            refine hK.out _ _ (fun _ => HSS.out _ ((Ext.refl _).alloc _)) ?_
            clear hK
            try simp only [Act.put, List.setIfInBounds_toArray, List.set_cons_zero, List.set_cons_succ]
            refine wpAnyE_seq [13, 14, 15] (.cons (.next (.next (.next (.next (.next (.next (.next (.next (.next (.next (.next (.next (.next (.here)))))))))))))) (.cons (.next (.next (.next (.next (.next (.next (.next (.next (.next (.next (.next (.next (.next (.next (.here))))))))))))))) (.cons (.next (.next (.next (.next (.next (.next (.next (.next (.next (.next (.next (.next (.next (.next (.next (.here)))))))))))))))) (.nil)))) (by kernel_rfl) (by kernel_rfl) ?_
            go_wp2_with (at_builtin; refine wpList_append_lies _ rfl _ _ 26 rfl (wr.heap.size + 1) 49 i0 _ 1 8 Try.underlying26 hi1 hz0 hz1 hz2 rfl (by decide) vv k _ rfl (HOW.out _) ⟨wd.heap.size, 0, none⟩ 1 1 [.int .u64 (un (bothS (pairL v m) (nth A.val k) (allW m)))] rfl rfl (cell_one_new _ _ _) HONE.out (by decide) (by unfold maxLen; omega) (by omega) (Nat.le_trans hol (by simp)) (wd.heap.size + 1) (by simp) ?_; intro gx cap W1 hown hgrow hat hlt2; have hnew := (HPA.out _).pushV (x := bothS (pairL v m) (nth A.val k) (allW m)) (by rw [HLN.out]; exact hown) hgrow; obtain ⟨q0, q1, q2, qfz⟩ := (HPA.out _).outV hgrow; have qf := qfz 1; clear qfz; have HNEW := Lib.hid hnew; clear hnew hown hgrow hat)
            go_roundw
            case rel => exact ⟨k + 1, hkl, by go_num, _, by rw [HONE1.out]; exact HNEW.out⟩
            case measure => simp [intOf]; omega
          · obtain rfl : k = A.val.length := by omega
            have hfullA : LV.take A.val.length = LV := by rw [← HLVL.out]; exact List.take_length
            rw [hfullA] at hI
            have HZ3 := Lib.hid hI
            generalize hLBE : B.val.map (fun t => bothS (pairL v m) (allW v) t) = LB
            have hLBl : LB.length = B.val.length := by rw [← hLBE]; simp
            have HLB : Hid (∀ k, k < B.val.length → nth LB k = bothS (pairL v m) (allW v) (nth B.val k)) := Lib.hid fun k hk => by rw [← hLBE]; exact nth_mapN _ _ hk
            have HLBE := Lib.hid hLBE
            have HLBL := Lib.hid hLBl
            clear hI HI hfullA hLBE hLBl
            rename World => wA
            go_wp2_with fail
            clear k1 hby
            go_loopw [14] (fun i wy => ∃ k : Nat, k ≤ B.val.length ∧ i = .int .i64 (k : Int) ∧ ∃ vv, ZR wr (K : Int) (LV ++ LB.take k) vv [] [] (.slice none 0 0) wy) (fun i _ => B.val.length - (intOf i).toNat)
            case atStart => exact ⟨0, Nat.zero_le _, rfl, _, by rw [List.take_zero, List.append_nil]; exact HZ3.out⟩
            case round =>
              rename World => wy
              obtain ⟨k, hk, rfl, vv, hI⟩ := hrel
              have HI := Lib.hid hI
              have k1 := hI.e.cell HBBr.out.2.1
              have hby : w.heap.size + 1 < wy.heap.size := World.block_lt_of_cell? _ _ k1
              by_cases hkl : k < B.val.length
              · obtain ⟨b, off, rfl, hb, hc3⟩ := (HVB.out.ext hI.e).get hkl
                have hI2 := HI.out.ext' (Ext.refl wy).drew
                obtain ⟨o0, o1, o2, ofz⟩ := hI2.out
                have hol := hI2.out.lt
                have hfz := ofz 1
                have hb1d : b < wy.drew.heap.size := hb
                have hbyd : w.heap.size + 1 < wy.drew.heap.size := hby
                have k1d := (Ext.refl wy).drew.cell k1
                have l0d := hI2.e.cell HBAr.out.1
                have hbzd : w.heap.size < wy.drew.heap.size := World.block_lt_of_cell? _ _ l0d
                have hc3d := (Ext.refl wy).drew.cell hc3
                have hkI : (k : Int) < (B.val.length : Int) := by omega
                have HLN : Hid ((LV ++ LB.take k).length = A.val.length + k) := Lib.hid (by rw [List.length_append, List.length_take, HLVL.out, HLBL.out]; omega)
                have HPA : Hid (∀ o, ZR wr (K : Int) (LV ++ LB.take k) vv [] [] (.slice none 0 0) (wy.drew.alloc o)) := Lib.hid fun o => hI2.ext' ((Ext.refl _).alloc o)
                have HOW : Hid (∀ o, (wy.drew.alloc o).ownsRow (wr.heap.size + 1) 49 1 vv (A.val.length + k) ((LV ++ LB.take k).map uv)) := Lib.hid fun o => by
                  have h := (HPA.out o).ov
                  unfold OU at h
                  rw [HLN.out] at h; exact h
                have HXE := Lib.hid hI2.e
                have hone : LV ++ LB.take (k + 1) = (LV ++ LB.take k) ++ [bothS (pairL v m) (allW v) (nth B.val k)] := by
                  rw [← HLB.out k hkl, nth_eq _ _ (by rw [HLBL.out]; exact hkl), List.take_add_one, List.getElem?_eq_getElem (by rw [HLBL.out]; exact hkl), List.append_assoc]; rfl
                have HONE1 := Lib.hid hone
                have HONE : Hid (∀ u ∈ [Value.int .u64 (un (bothS (pairL v m) (allW v) (nth B.val k)))], u.oneCell' = true) := Lib.hid fun u hu => by rw [List.mem_singleton.1 hu]; rfl
                have HSS : Hid (∀ w', Ext wy.drew w' → w'.cell? ⟨wr.heap.size, 1, none⟩ = some vv ∧ w'.cell? ⟨w.heap.size + 1, 1, none⟩ = some (.slice (some ⟨b, off, none⟩) B.val.length vd) ∧ w'.cell? ⟨b, off + k, none⟩ = some (.int .u64 (un (nth B.val k))) ∧ w'.cell? ⟨w.heap.size, 0, none⟩ = some (.int .i64 (v : Int))) := Lib.hid fun w' e => ⟨e.cell o1, e.cell k1d, e.cell hc3d, e.cell l0d⟩
                clear hI hone ofz hI2
                go_wp2_with fail
                clear k1 hc3 hb hby
                refine wp_region_E 13 (fun w' => w'.cell? ⟨wr.heap.size, 1, none⟩ = some vv ∧ w'.cell? ⟨w.heap.size + 1, 1, none⟩ = some (.slice (some ⟨b, off, none⟩) B.val.length vd) ∧ w'.cell? ⟨b, off + k, none⟩ = some (.int .u64 (un (nth B.val k))) ∧ w'.cell? ⟨w.heap.size, 0, none⟩ = some (.int .i64 (v : Int))) (by kernel_rfl) ?_
                generalize World.drew wy = wd at *
                refine wpAnyE_take (i := 0) (v := ?_) (.here) (by kernel_rfl) (fun _ _ _ h => h) (HSS.out _ (Ext.refl _)) (by rfl) ?_ ?_
                rotate_left
                focus (intro w hSw; (try dsimp only at hSw); go_simp; try with_reducible rfl)
                try simp only [Act.put, List.setIfInBounds_toArray, List.set_cons_zero, List.set_cons_succ]
                refine wpAnyE_take (i := 1) (v := ?_) (.next (.here)) (by kernel_rfl) (fun _ _ _ h => h) (HSS.out _ (Ext.refl _)) (by rfl) ?_ ?_
                rotate_left
                focus (intro w hSw; (try dsimp only at hSw); go_simp; try with_reducible rfl)
                try simp only [Act.put, List.setIfInBounds_toArray, List.set_cons_zero, List.set_cons_succ]
                refine wpAnyE_take (i := 2) (v := ?_) (.next (.next (.here))) (by kernel_rfl) (fun _ _ _ h => h) (HSS.out _ (Ext.refl _)) (by rfl) ?_ ?_
                rotate_left
                focus (intro w hSw; (try dsimp only at hSw); go_simp; try with_reducible rfl)
                try simp only [Act.put, List.setIfInBounds_toArray, List.set_cons_zero, List.set_cons_succ]
                refine wpAnyE_take (i := 3) (v := ?_) (.next (.next (.next (.here)))) (by kernel_rfl) (fun _ _ _ h => h) (HSS.out _ (Ext.refl _)) (by rfl) ?_ ?_
                rotate_left
                focus (intro w hSw; (try dsimp only at hSw); go_simp; try with_reducible rfl)
                try simp only [Act.put, List.setIfInBounds_toArray, List.set_cons_zero, List.set_cons_succ]
                refine wpAnyE_take (i := 4) (v := ?_) (.next (.next (.next (.next (.here))))) (by kernel_rfl) (fun _ _ _ h => h) (HSS.out _ (Ext.refl _)) (by rfl) ?_ ?_
                rotate_left
                focus (intro w hSw; (try dsimp only at hSw); go_simp; try with_reducible rfl)
                try simp only [Act.put, List.setIfInBounds_toArray, List.set_cons_zero, List.set_cons_succ]
                refine wpAnyE_take (i := 6) (v := ?_) (.next (.next (.next (.next (.next (.next (.here))))))) (by kernel_rfl) (fun _ _ _ h => h) (HSS.out _ (Ext.refl _)) (by rfl) ?_ ?_
                rotate_left
                focus (intro w hSw; (try dsimp only at hSw); go_simp; try with_reducible rfl)
                try simp only [Act.put, List.setIfInBounds_toArray, List.set_cons_zero, List.set_cons_succ]
                refine wpAnyE_take (i := 7) (v := ?_) (.next (.next (.next (.next (.next (.next (.next (.here)))))))) (by kernel_rfl) (fun _ _ _ h => h) (HSS.out _ (Ext.refl _)) (by rfl) ?_ ?_
                rotate_left
                focus (intro w hSw; (try dsimp only at hSw); go_simp; try with_reducible rfl)
                try simp only [Act.put, List.setIfInBounds_toArray, List.set_cons_zero, List.set_cons_succ]
                refine wpAnyE_take (i := 8) (v := ?_) (.next (.next (.next (.next (.next (.next (.next (.next (.here))))))))) (by kernel_rfl) (fun _ _ _ h => h) (HSS.out _ (Ext.refl _)) (by rfl) ?_ ?_
                rotate_left
                focus (intro w hSw; (try dsimp only at hSw); go_simp; try with_reducible rfl)
                try simp only [Act.put, List.setIfInBounds_toArray, List.set_cons_zero, List.set_cons_succ]
                refine wpAnyE_take (i := 9) (v := ?_) (.next (.next (.next (.next (.next (.next (.next (.next (.next (.here)))))))))) (by kernel_rfl) (fun _ _ _ h => h) (HSS.out _ (Ext.refl _)) (by rfl) ?_ ?_
                rotate_left
                focus (intro w hSw; (try dsimp only at hSw); go_simp; try with_reducible rfl)
                try simp only [Act.put, List.setIfInBounds_toArray, List.set_cons_zero, List.set_cons_succ]
                refine wpAnyE_take (i := 10) (v := ?_) (.next (.next (.next (.next (.next (.next (.next (.next (.next (.next (.here))))))))))) (by kernel_rfl) (fun _ _ _ h => h) (HSS.out _ (Ext.refl _)) (by rfl) ?_ ?_
                rotate_left
                focus (intro w hSw; (try dsimp only at hSw); go_simp; try with_reducible rfl)
                try simp only [Act.put, List.setIfInBounds_toArray, List.set_cons_zero, List.set_cons_succ]
                refine wpAnyE_one (k := 5) (.next (.next (.next (.next (.next (.here)))))) (by kernel_rfl) (fun K hK => ?_)
                go_simp
                refine ((HALL.out v _ hN64).mono fun _ _ h => (⟨h.1, h.2.symm⟩ : _ ∧ _ = _)).mono ?_; rintro _ _ ⟨rfl, rfl⟩; dsimp only
                refine hK.out _ _ (fun _ => HSS.out _ (Ext.refl _)) ?_
                clear hK
                try simp only [Act.put, List.setIfInBounds_toArray, List.set_cons_zero, List.set_cons_succ]
                refine wpAnyE_one (k := 11) (.next (.next (.next (.next (.next (.next (.next (.next (.next (.next (.next (.here)))))))))))) (by kernel_rfl) (fun K hK => ?_)
                go_simp
                refine ((HCP.out (allW v) (nth B.val k) _ HXE.out).mono fun _ _ h => (⟨h.1, h.2.symm⟩ : _ ∧ _ = _)).mono ?_; rintro _ _ ⟨rfl, rfl⟩; dsimp only
                refine hK.out _ _ (fun _ => HSS.out _ (Ext.refl _)) ?_
                clear hK
                try simp only [Act.put, List.setIfInBounds_toArray, List.set_cons_zero, List.set_cons_succ]
                refine wpAnyE_one (k := 12) (.next (.next (.next (.next (.next (.next (.next (.next (.next (.next (.next (.next (.here))))))))))))) (by kernel_rfl) (fun K hK => ?_)
                go_simp
                refine hK.out _ _ (fun _ => HSS.out _ ((Ext.refl _).alloc _)) ?_
                clear hK
                try simp only [Act.put, List.setIfInBounds_toArray, List.set_cons_zero, List.set_cons_succ]
                refine wpAnyE_seq [13, 14, 15] (.cons (.next (.next (.next (.next (.next (.next (.next (.next (.next (.next (.next (.next (.next (.here)))))))))))))) (.cons (.next (.next (.next (.next (.next (.next (.next (.next (.next (.next (.next (.next (.next (.next (.here))))))))))))))) (.cons (.next (.next (.next (.next (.next (.next (.next (.next (.next (.next (.next (.next (.next (.next (.next (.here)))))))))))))))) (.nil)))) (by kernel_rfl) (by kernel_rfl) ?_
                go_wp2_with (at_builtin; refine wpList_append_lies _ rfl _ _ 26 rfl (wr.heap.size + 1) 49 i0 _ 1 8 Try.underlying26 hi1 hz0 hz1 hz2 rfl (by decide) vv (A.val.length + k) _ rfl (HOW.out _) ⟨wd.heap.size, 0, none⟩ 1 1 [.int .u64 (un (bothS (pairL v m) (allW v) (nth B.val k)))] rfl rfl (cell_one_new _ _ _) HONE.out (by decide) (by unfold maxLen; omega) (by omega) (Nat.le_trans hol (by simp)) (wd.heap.size + 1) (by simp) ?_; intro gx cap W1 hown hgrow hat hlt2; have hnew := (HPA.out _).pushV (x := bothS (pairL v m) (allW v) (nth B.val k)) (by rw [HLN.out]; exact hown) hgrow; obtain ⟨q0, q1, q2, qfz⟩ := (HPA.out _).outV hgrow; have qf := qfz 1; clear qfz; have HNEW := Lib.hid hnew; clear hnew hown hgrow hat)
                go_roundw
                case rel => exact ⟨k + 1, hkl, by go_num, _, by rw [HONE1.out]; exact HNEW.out⟩
                case measure => simp [intOf]; omega
              · obtain rfl : k = B.val.length := by omega
                have hfullB : LB.take B.val.length = LB := by rw [← HLBL.out]; exact List.take_length
                rw [hfullB] at hI
                have HZ5 := Lib.hid hI
                generalize hLRE : (List.range A.rel.length).map (fun i => prR (pairL v m) (nth A.rel i) (nth B.rel i)) = LR
                have hLRl : LR.length = A.rel.length := by rw [← hLRE]; simp
                have HLR : Hid (∀ q, q < A.rel.length → nth LR q = prR (pairL v m) (nth A.rel q) (nth B.rel q)) := Lib.hid fun q hq => by
                  rw [← hLRE, nth_mapN _ _ (by simpa using hq), nth_range hq]
                have HLRE := Lib.hid hLRE
                have HLRL := Lib.hid hLRl
                have hLVB : (LV ++ LB).length ≤ 8 := by rw [List.length_append, HLVL.out, HLBL.out]; exact h6
                clear hI HI hfullB hLRE hLRl
                rename World => wB
                go_wp2_with fail
                clear k1 hby
                go_loopw [15] (fun i wy => ∃ q : Nat, q ≤ A.rel.length ∧ i = .int .i64 (q : Int) ∧ ∃ svs vr, ZR wr (K : Int) (LV ++ LB) vv (LR.take q) svs vr wy) (fun i _ => A.rel.length - (intOf i).toNat)
                case atStart => exact ⟨0, Nat.zero_le _, rfl, _, _, HZ5.out⟩
                case round =>
                  rename World => wy
                  obtain ⟨q, hq, rfl, svs, vr, hI⟩ := hrel
                  have HI := Lib.hid hI
                  have k2 := hI.e.cell (HBAr.out.2.2)
                  have hby2 : w.heap.size < wy.heap.size := World.block_lt_of_cell? _ _ k2
                  by_cases hql : q < A.rel.length
                  · generalize hrwE : prR (pairL v m) (nth A.rel q) (nth B.rel q) = row
                    have hrl : row.length = K := by rw [← hrwE]; unfold prR; rw [List.length_map]; exact HPN.out
                    have HRW : Hid (∀ j, j < K → nth row j = bothS (pairL v m) (nth (nth A.rel q) (nth (pairL v m) j).1) (nth (nth B.rel q) (nth (pairL v m) j).2)) := Lib.hid fun j hj => by
                      rw [← hrwE]; unfold prR; rw [nth_mapN _ _ (by rw [HPN.out]; exact hj)]
                    have HRWE : Hid (nth LR q = row) := Lib.hid (by rw [HLR.out q hql, hrwE])
                    have HRWL := Lib.hid hrl
                    clear hI hrwE hrl
                    go_wp2_with fail
                    clear k2 hby2
                    go_loopw [16, 17] (fun r i wz => ∃ j : Nat, j ≤ K ∧ i = .int .i64 (j : Int) ∧ GLE wy row j r wz) (fun _ i _ => K - (intOf i).toNat)
                    case atStart => exact ⟨0, Nat.zero_le _, rfl, Ext.refl _, World.ownsRow_nil _ _ _ _⟩
                    case round =>
                      rename World => wz
                      obtain ⟨j, hj, rfl, hGL⟩ := hrel
                      have hGL : GL wy 49 uv (row.take j) u16 wz := hGL
                      have HGL := Lib.hid hGL
                      by_cases hjl : j < K
                      · have hEz := HI.out.e.trans hGL.e
                        have HEZ := Lib.hid hEz.drew
                        obtain ⟨bp, op, rfl, hbp, hcp0, hcp1⟩ := (HRP.out.ext hEz).get (k := j) (by rw [HPN.out]; exact hjl)
                        obtain ⟨hp2, hp1⟩ := pairL_snd (N := v) (m := m) (i := j) (by rw [← HK.out]; exact hjl)
                        have hx := HRW.out j hjl
                        have hrA := HOA.out.row _ (nth_mem hql)
                        have hqB : q < B.rel.length := by rw [← HQ.out]; exact hql
                        have hrB := HOB.out.row _ (nth_mem hqB)
                        generalize (nth (pairL v m) j).1 = p0 at *
                        generalize (nth (pairL v m) j).2 = p1 at *
                        obtain ⟨b1, o1, a1, c1, rfl, hb1z, hc1, hu1⟩ := (HRA.out.ext hEz).get hql
                        obtain ⟨b2, o2, a2, c2, rfl, hb2z, hc2, hu2⟩ := (HRB.out.ext hEz).get hqB
                        obtain ⟨b3, o3, rfl, hb3, hc3⟩ := hu1.get (k := p0) (by omega)
                        obtain ⟨b4, o4, rfl, hb4, hc4⟩ := hu2.get (k := p1) (by omega)
                        have k2z := hEz.cell HBAr.out.2.2
                        have l2z := hEz.cell HBBr.out.2.2
                        have hkz : w.heap.size < wz.heap.size := World.block_lt_of_cell? _ _ k2z
                        have hlz : w.heap.size + 1 < wz.heap.size := World.block_lt_of_cell? _ _ l2z
                        rw [hrA] at hc1
                        rw [hrB] at hc2
                        have htk : (row.take j).length = j := by rw [List.length_take, HRWL.out]; omega
                        have HTK := Lib.hid htk
                        have hone : row.take (j + 1) = row.take j ++ [bothS (pairL v m) (nth (nth A.rel q) p0) (nth (nth B.rel q) p1)] := by
                          rw [← hx, nth_eq _ _ (by rw [HRWL.out]; exact hjl), List.take_add_one, List.getElem?_eq_getElem (by rw [HRWL.out]; exact hjl)]; rfl
                        have HONE1 := Lib.hid hone
                        have hszz : wy.heap.size ≤ wz.drew.heap.size := hGL.e.drew.size
                        generalize nth (nth A.rel q) p0 = ea at *
                        generalize nth (nth B.rel q) p1 = eb at *
                        have hqI : (q : Int) < (A.rel.length : Int) := by omega
                        have hqIB : (q : Int) < (B.rel.length : Int) := by omega
                        have hjI : (j : Int) < (K : Int) := by omega
                        have hp1I : (p0 : Int) < (v : Int) := by omega
                        have hp2I : (p1 : Int) < (m : Int) := by omega
                        have HPA : Hid (∀ o, GL wy 49 uv (row.take j) u16 (wz.drew.alloc o)) := Lib.hid fun o => HGL.out.ext' ((Ext.refl wz).drew.alloc o)
                        have HOW : Hid (∀ o, (wz.drew.alloc o).ownsRow wy.heap.size 49 1 u16 j ((row.take j).map uv)) := Lib.hid fun o => by
                          have h := (HPA.out o).own
                          rw [HTK.out] at h; exact h
                        have HONE : Hid (∀ u ∈ [Value.int .u64 (un (bothS (pairL v m) ea eb))], u.oneCell' = true) := Lib.hid fun u hu => by rw [List.mem_singleton.1 hu]; rfl
                        clear hGL hu1 hu2 hx htk hone hrA hrB hEz
                        have HSS : Hid (∀ w', Ext wz.drew w' →  w'.cell? ⟨w.heap.size, 2, none⟩ = some (.slice (some ⟨b1, o1, none⟩) A.rel.length rc) ∧ w'.cell? ⟨w.heap.size + 1, 2, none⟩ = some (.slice (some ⟨b2, o2, none⟩) B.rel.length rd) ∧ w'.cell? ⟨b1, o1 + q, none⟩ = some (.slice (some ⟨b3, o3, none⟩) v c1) ∧ w'.cell? ⟨b2, o2 + q, none⟩ = some (.slice (some ⟨b4, o4, none⟩) m c2) ∧ w'.cell? ⟨b3, o3 + p0, none⟩ = some (.int .u64 (un ea)) ∧ w'.cell? ⟨b4, o4 + p1, none⟩ = some (.int .u64 (un eb)) ∧ w'.cell? ⟨bp, op + j * 2, none⟩ = some (.int .i64 (p0 : Int)) ∧ w'.cell? ⟨bp, op + j * 2 + 1, none⟩ = some (.int .i64 (p1 : Int))) := Lib.hid fun w' e => ⟨e.cell k2z, e.cell l2z, e.cell hc1, e.cell hc2, e.cell hc3, e.cell hc4, e.cell hcp0, e.cell hcp1⟩
                        go_wp2_with fail
                        clear k2z l2z hc1 hc2 hc3 hc4 hcp0 hcp1
                        refine wp_region_E 28 (fun w' => w'.cell? ⟨w.heap.size, 2, none⟩ = some (.slice (some ⟨b1, o1, none⟩) A.rel.length rc) ∧ w'.cell? ⟨w.heap.size + 1, 2, none⟩ = some (.slice (some ⟨b2, o2, none⟩) B.rel.length rd) ∧ w'.cell? ⟨b1, o1 + q, none⟩ = some (.slice (some ⟨b3, o3, none⟩) v c1) ∧ w'.cell? ⟨b2, o2 + q, none⟩ = some (.slice (some ⟨b4, o4, none⟩) m c2) ∧ w'.cell? ⟨b3, o3 + p0, none⟩ = some (.int .u64 (un ea)) ∧ w'.cell? ⟨b4, o4 + p1, none⟩ = some (.int .u64 (un eb)) ∧ w'.cell? ⟨bp, op + j * 2, none⟩ = some (.int .i64 (p0 : Int)) ∧ w'.cell? ⟨bp, op + j * 2 + 1, none⟩ = some (.int .i64 (p1 : Int))) (by kernel_rfl) ?_
                        generalize World.drew wz = wd at *
                        refine wpAnyE_take (i := 0) (v := ?_) (.here) (by kernel_rfl) (fun _ _ _ h => h) (HSS.out _ (Ext.refl _)) (by rfl) ?_ ?_
                        rotate_left
                        focus (intro w hSw; (try dsimp only at hSw); go_simp; try with_reducible rfl)
                        try simp only [Act.put, List.setIfInBounds_toArray, List.set_cons_zero, List.set_cons_succ]
                        refine wpAnyE_take (i := 1) (v := ?_) (.next (.here)) (by kernel_rfl) (fun _ _ _ h => h) (HSS.out _ (Ext.refl _)) (by rfl) ?_ ?_
                        rotate_left
                        focus (intro w hSw; (try dsimp only at hSw); go_simp; try with_reducible rfl)
                        try simp only [Act.put, List.setIfInBounds_toArray, List.set_cons_zero, List.set_cons_succ]
                        refine wpAnyE_take (i := 2) (v := ?_) (.next (.next (.here))) (by kernel_rfl) (fun _ _ _ h => h) (HSS.out _ (Ext.refl _)) (by rfl) ?_ ?_
                        rotate_left
                        focus (intro w hSw; (try dsimp only at hSw); go_simp; try with_reducible rfl)
                        try simp only [Act.put, List.setIfInBounds_toArray, List.set_cons_zero, List.set_cons_succ]
                        refine wpAnyE_take (i := 3) (v := ?_) (.next (.next (.next (.here)))) (by kernel_rfl) (fun _ _ _ h => h) (HSS.out _ (Ext.refl _)) (by rfl) ?_ ?_
                        rotate_left
                        focus (intro w hSw; (try dsimp only at hSw); go_simp; try with_reducible rfl)
                        try simp only [Act.put, List.setIfInBounds_toArray, List.set_cons_zero, List.set_cons_succ]
                        refine wpAnyE_take (i := 4) (v := ?_) (.next (.next (.next (.next (.here))))) (by kernel_rfl) (fun _ _ _ h => h) (HSS.out _ (Ext.refl _)) (by rfl) ?_ ?_
                        rotate_left
                        focus (intro w hSw; (try dsimp only at hSw); go_simp; try with_reducible rfl)
                        try simp only [Act.put, List.setIfInBounds_toArray, List.set_cons_zero, List.set_cons_succ]
                        refine wpAnyE_take (i := 5) (v := ?_) (.next (.next (.next (.next (.next (.here)))))) (by kernel_rfl) (fun _ _ _ h => h) (HSS.out _ (Ext.refl _)) (by rfl) ?_ ?_
                        rotate_left
                        focus (intro w hSw; (try dsimp only at hSw); go_simp; try with_reducible rfl)
                        try simp only [Act.put, List.setIfInBounds_toArray, List.set_cons_zero, List.set_cons_succ]
                        refine wpAnyE_take (i := 6) (v := ?_) (.next (.next (.next (.next (.next (.next (.here))))))) (by kernel_rfl) (fun _ _ _ h => h) (HSS.out _ (Ext.refl _)) (by rfl) ?_ ?_
                        rotate_left
                        focus (intro w hSw; (try dsimp only at hSw); go_simp; try with_reducible rfl)
                        try simp only [Act.put, List.setIfInBounds_toArray, List.set_cons_zero, List.set_cons_succ]
                        refine wpAnyE_take (i := 7) (v := ?_) (.next (.next (.next (.next (.next (.next (.next (.here)))))))) (by kernel_rfl) (fun _ _ _ h => h) (HSS.out _ (Ext.refl _)) (by rfl) ?_ ?_
                        rotate_left
                        focus (intro w hSw; (try dsimp only at hSw); go_simp; try with_reducible rfl)
                        try simp only [Act.put, List.setIfInBounds_toArray, List.set_cons_zero, List.set_cons_succ]
                        refine wpAnyE_take (i := 8) (v := ?_) (.next (.next (.next (.next (.next (.next (.next (.next (.here))))))))) (by kernel_rfl) (fun _ _ _ h => h) (HSS.out _ (Ext.refl _)) (by rfl) ?_ ?_
                        rotate_left
                        focus (intro w hSw; (try dsimp only at hSw); go_simp; try with_reducible rfl)
                        try simp only [Act.put, List.setIfInBounds_toArray, List.set_cons_zero, List.set_cons_succ]
                        refine wpAnyE_take (i := 9) (v := ?_) (.next (.next (.next (.next (.next (.next (.next (.next (.next (.here)))))))))) (by kernel_rfl) (fun _ _ _ h => h) (HSS.out _ (Ext.refl _)) (by rfl) ?_ ?_
                        rotate_left
                        focus (intro w hSw; (try dsimp only at hSw); go_simp; try with_reducible rfl)
                        try simp only [Act.put, List.setIfInBounds_toArray, List.set_cons_zero, List.set_cons_succ]
                        refine wpAnyE_take (i := 10) (v := ?_) (.next (.next (.next (.next (.next (.next (.next (.next (.next (.next (.here))))))))))) (by kernel_rfl) (fun _ _ _ h => h) (HSS.out _ (Ext.refl _)) (by rfl) ?_ ?_
                        rotate_left
                        focus (intro w hSw; (try dsimp only at hSw); go_simp; try with_reducible rfl)
                        try simp only [Act.put, List.setIfInBounds_toArray, List.set_cons_zero, List.set_cons_succ]
                        refine wpAnyE_take (i := 11) (v := ?_) (.next (.next (.next (.next (.next (.next (.next (.next (.next (.next (.next (.here)))))))))))) (by kernel_rfl) (fun _ _ _ h => h) (HSS.out _ (Ext.refl _)) (by rfl) ?_ ?_
                        rotate_left
                        focus (intro w hSw; (try dsimp only at hSw); go_simp; try with_reducible rfl)
                        try simp only [Act.put, List.setIfInBounds_toArray, List.set_cons_zero, List.set_cons_succ]
                        refine wpAnyE_take (i := 12) (v := ?_) (.next (.next (.next (.next (.next (.next (.next (.next (.next (.next (.next (.next (.here))))))))))))) (by kernel_rfl) (fun _ _ _ h => h) (HSS.out _ (Ext.refl _)) (by rfl) ?_ ?_
                        rotate_left
                        focus (intro w hSw; (try dsimp only at hSw); go_simp; try with_reducible rfl)
                        try simp only [Act.put, List.setIfInBounds_toArray, List.set_cons_zero, List.set_cons_succ]
                        refine wpAnyE_take (i := 13) (v := ?_) (.next (.next (.next (.next (.next (.next (.next (.next (.next (.next (.next (.next (.next (.here)))))))))))))) (by kernel_rfl) (fun _ _ _ h => h) (HSS.out _ (Ext.refl _)) (by rfl) ?_ ?_
                        rotate_left
                        focus (intro w hSw; (try dsimp only at hSw); go_simp; try with_reducible rfl)
                        try simp only [Act.put, List.setIfInBounds_toArray, List.set_cons_zero, List.set_cons_succ]
                        refine wpAnyE_take (i := 14) (v := ?_) (.next (.next (.next (.next (.next (.next (.next (.next (.next (.next (.next (.next (.next (.next (.here))))))))))))))) (by kernel_rfl) (fun _ _ _ h => h) (HSS.out _ (Ext.refl _)) (by rfl) ?_ ?_
                        rotate_left
                        focus (intro w hSw; (try dsimp only at hSw); go_simp; try with_reducible rfl)
                        try simp only [Act.put, List.setIfInBounds_toArray, List.set_cons_zero, List.set_cons_succ]
                        refine wpAnyE_take (i := 15) (v := ?_) (.next (.next (.next (.next (.next (.next (.next (.next (.next (.next (.next (.next (.next (.next (.next (.here)))))))))))))))) (by kernel_rfl) (fun _ _ _ h => h) (HSS.out _ (Ext.refl _)) (by rfl) ?_ ?_
                        rotate_left
                        focus (intro w hSw; (try dsimp only at hSw); go_simp; try with_reducible rfl)
                        try simp only [Act.put, List.setIfInBounds_toArray, List.set_cons_zero, List.set_cons_succ]
                        refine wpAnyE_take (i := 16) (v := ?_) (.next (.next (.next (.next (.next (.next (.next (.next (.next (.next (.next (.next (.next (.next (.next (.next (.here))))))))))))))))) (by kernel_rfl) (fun _ _ _ h => h) (HSS.out _ (Ext.refl _)) (by rfl) ?_ ?_
                        rotate_left
                        focus (intro w hSw; (try dsimp only at hSw); go_simp; try with_reducible rfl)
                        try simp only [Act.put, List.setIfInBounds_toArray, List.set_cons_zero, List.set_cons_succ]
                        refine wpAnyE_take (i := 17) (v := ?_) (.next (.next (.next (.next (.next (.next (.next (.next (.next (.next (.next (.next (.next (.next (.next (.next (.next (.here)))))))))))))))))) (by kernel_rfl) (fun _ _ _ h => h) (HSS.out _ (Ext.refl _)) (by rfl) ?_ ?_
                        rotate_left
                        focus (intro w hSw; (try dsimp only at hSw); go_simp; try with_reducible rfl)
                        try simp only [Act.put, List.setIfInBounds_toArray, List.set_cons_zero, List.set_cons_succ]
                        refine wpAnyE_take (i := 18) (v := ?_) (.next (.next (.next (.next (.next (.next (.next (.next (.next (.next (.next (.next (.next (.next (.next (.next (.next (.next (.here))))))))))))))))))) (by kernel_rfl) (fun _ _ _ h => h) (HSS.out _ (Ext.refl _)) (by rfl) ?_ ?_
                        rotate_left
                        focus (intro w hSw; (try dsimp only at hSw); go_simp; try with_reducible rfl)
                        try simp only [Act.put, List.setIfInBounds_toArray, List.set_cons_zero, List.set_cons_succ]
                        refine wpAnyE_take (i := 19) (v := ?_) (.next (.next (.next (.next (.next (.next (.next (.next (.next (.next (.next (.next (.next (.next (.next (.next (.next (.next (.next (.here)))))))))))))))))))) (by kernel_rfl) (fun _ _ _ h => h) (HSS.out _ (Ext.refl _)) (by rfl) ?_ ?_
                        rotate_left
                        focus (intro w hSw; (try dsimp only at hSw); go_simp; try with_reducible rfl)
                        try simp only [Act.put, List.setIfInBounds_toArray, List.set_cons_zero, List.set_cons_succ]
                        refine wpAnyE_take (i := 20) (v := ?_) (.next (.next (.next (.next (.next (.next (.next (.next (.next (.next (.next (.next (.next (.next (.next (.next (.next (.next (.next (.next (.here))))))))))))))))))))) (by kernel_rfl) (fun _ _ _ h => h) (HSS.out _ (Ext.refl _)) (by rfl) ?_ ?_
                        rotate_left
                        focus (intro w hSw; (try dsimp only at hSw); go_simp; try with_reducible rfl)
                        try simp only [Act.put, List.setIfInBounds_toArray, List.set_cons_zero, List.set_cons_succ]
                        refine wpAnyE_take (i := 21) (v := ?_) (.next (.next (.next (.next (.next (.next (.next (.next (.next (.next (.next (.next (.next (.next (.next (.next (.next (.next (.next (.next (.next (.here)))))))))))))))))))))) (by kernel_rfl) (fun _ _ _ h => h) (HSS.out _ (Ext.refl _)) (by rfl) ?_ ?_
                        rotate_left
                        focus (intro w hSw; (try dsimp only at hSw); go_simp; try with_reducible rfl)
                        try simp only [Act.put, List.setIfInBounds_toArray, List.set_cons_zero, List.set_cons_succ]
                        refine wpAnyE_take (i := 22) (v := ?_) (.next (.next (.next (.next (.next (.next (.next (.next (.next (.next (.next (.next (.next (.next (.next (.next (.next (.next (.next (.next (.next (.next (.here))))))))))))))))))))))) (by kernel_rfl) (fun _ _ _ h => h) (HSS.out _ (Ext.refl _)) (by rfl) ?_ ?_
                        rotate_left
                        focus (intro w hSw; (try dsimp only at hSw); go_simp; try with_reducible rfl)
                        try simp only [Act.put, List.setIfInBounds_toArray, List.set_cons_zero, List.set_cons_succ]
                        refine wpAnyE_take (i := 23) (v := ?_) (.next (.next (.next (.next (.next (.next (.next (.next (.next (.next (.next (.next (.next (.next (.next (.next (.next (.next (.next (.next (.next (.next (.next (.here)))))))))))))))))))))))) (by kernel_rfl) (fun _ _ _ h => h) (HSS.out _ (Ext.refl _)) (by rfl) ?_ ?_
                        rotate_left
                        focus (intro w hSw; (try dsimp only at hSw); go_simp; try with_reducible rfl)
                        try simp only [Act.put, List.setIfInBounds_toArray, List.set_cons_zero, List.set_cons_succ]
                        refine wpAnyE_take (i := 24) (v := ?_) (.next (.next (.next (.next (.next (.next (.next (.next (.next (.next (.next (.next (.next (.next (.next (.next (.next (.next (.next (.next (.next (.next (.next (.next (.here))))))))))))))))))))))))) (by kernel_rfl) (fun _ _ _ h => h) (HSS.out _ (Ext.refl _)) (by rfl) ?_ ?_
                        rotate_left
                        focus (intro w hSw; (try dsimp only at hSw); go_simp; try with_reducible rfl)
                        try simp only [Act.put, List.setIfInBounds_toArray, List.set_cons_zero, List.set_cons_succ]
                        refine wpAnyE_take (i := 25) (v := ?_) (.next (.next (.next (.next (.next (.next (.next (.next (.next (.next (.next (.next (.next (.next (.next (.next (.next (.next (.next (.next (.next (.next (.next (.next (.next (.here)))))))))))))))))))))))))) (by kernel_rfl) (fun _ _ _ h => h) (HSS.out _ (Ext.refl _)) (by rfl) ?_ ?_
                        rotate_left
                        focus (intro w hSw; (try dsimp only at hSw); go_simp; try with_reducible rfl)
                        try simp only [Act.put, List.setIfInBounds_toArray, List.set_cons_zero, List.set_cons_succ]
                        refine wpAnyE_one (k := 26) (.next (.next (.next (.next (.next (.next (.next (.next (.next (.next (.next (.next (.next (.next (.next (.next (.next (.next (.next (.next (.next (.next (.next (.next (.next (.next (.here))))))))))))))))))))))))))) (by kernel_rfl) (fun K hK => ?_)
                        go_simp
                        refine ((HCP.out ea eb _ HEZ.out).mono fun _ _ h => (⟨h.1, h.2.symm⟩ : _ ∧ _ = _)).mono ?_; rintro _ _ ⟨rfl, rfl⟩; dsimp only
                        refine hK.out _ _ (fun _ => HSS.out _ (Ext.refl _)) ?_
                        clear hK
                        try simp only [Act.put, List.setIfInBounds_toArray, List.set_cons_zero, List.set_cons_succ]
                        refine wpAnyE_one (k := 27) (.next (.next (.next (.next (.next (.next (.next (.next (.next (.next (.next (.next (.next (.next (.next (.next (.next (.next (.next (.next (.next (.next (.next (.next (.next (.next (.next (.here)))))))))))))))))))))))))))) (by kernel_rfl) (fun K hK => ?_)
                        go_simp
                        refine hK.out _ _ (fun _ => HSS.out _ ((Ext.refl _).alloc _)) ?_
                        clear hK
                        try simp only [Act.put, List.setIfInBounds_toArray, List.set_cons_zero, List.set_cons_succ]
                        refine wpAnyE_seq [28, 29] (.cons (.next (.next (.next (.next (.next (.next (.next (.next (.next (.next (.next (.next (.next (.next (.next (.next (.next (.next (.next (.next (.next (.next (.next (.next (.next (.next (.next (.next (.here))))))))))))))))))))))))))))) (.cons (.next (.next (.next (.next (.next (.next (.next (.next (.next (.next (.next (.next (.next (.next (.next (.next (.next (.next (.next (.next (.next (.next (.next (.next (.next (.next (.next (.next (.next (.here)))))))))))))))))))))))))))))) (.nil))) (by kernel_rfl) (by kernel_rfl) ?_
                        go_wp2_with (at_builtin; refine wpList_append_lies _ rfl _ _ 26 rfl wy.heap.size 49 i0 _ 1 8 Try.underlying26 hi1 hz0 hz1 hz2 rfl (by decide) u16 j _ rfl (HOW.out _) ⟨wd.heap.size, 0, none⟩ 1 1 [.int .u64 (un (bothS (pairL v m) ea eb))] rfl rfl (cell_one_new _ _ _) HONE.out (by decide) (by unfold maxLen; omega) (by omega) (Nat.le_trans hszz (by simp)) (wd.heap.size + 1) (by simp) ?_; intro gx cap W1 hown hgrow hat hlt2; have hpush := (HPA.out _).push (x := bothS (pairL v m) ea eb) (by rw [HTK.out]; exact hown) hgrow; have HPU := Lib.hid hpush; clear hpush hown hgrow hat)
                        go_roundw
                        case rel => exact ⟨j + 1, hjl, by go_num, by show GL _ _ _ (row.take (j + 1)) _ _; rw [HONE1.out]; exact HPU.out⟩
                        case measure => simp [intOf]; omega
                      · obtain rfl : j = K := by omega
                        have hfullR : row.take j = row := by rw [← HRWL.out]; exact List.take_length
                        rw [hfullR] at hGL
                        have hou : OU wz wy.heap.size u16 row := hGL.own
                        obtain ⟨a3, c3, rfl, -⟩ := RU_of_OU hou (by rw [HRWL.out]; omega)
                        have hI2 := HI.out.ext' hGL.e
                        have hou2 : OU wz (wr.heap.size + 1) (.slice a3 row.length c3) row := OU.mono hou (by have := HI.out.out.lt; omega)
                        rw [HRWL.out]
                        rw [HRWL.out] at hou2
                        obtain ⟨o0, o1, o2, ofz⟩ := hI2.out
                        have hol := hI2.out.lt
                        have hfz := ofz 2
                        have hsl : svs.length = q := by have h := hI2.rl; rw [List.length_take, HLRL.out] at h; omega
                        have HSL := Lib.hid hsl
                        have HPA : Hid (∀ o, ZR wr (j : Int) (LV ++ LB) vv (LR.take q) svs vr (wz.alloc o)) := Lib.hid fun o => hI2.ext' ((Ext.refl wz).alloc o)
                        have HR3 : Hid (∀ o, OU (wz.alloc o) (wr.heap.size + 1) (.slice a3 j c3) row) := Lib.hid fun o => OU.ext hou2 ((Ext.refl wz).alloc o)
                        have HONE : Hid (∀ u ∈ [Value.slice a3 j c3], u.oneCell' = true) := Lib.hid fun u hu => by rw [List.mem_singleton.1 hu]; rfl
                        have HOW : Hid (∀ o, (wz.alloc o).ownsRow (wr.heap.size + 1) 26 1 vr q svs) := Lib.hid fun o => by
                          have h := (HPA.out o).orr
                          rw [HSL.out] at h; exact h
                        have hone : LR.take (q + 1) = LR.take q ++ [row] := by
                          rw [← HRWE.out, nth_eq _ _ (by rw [HLRL.out]; exact hql), List.take_add_one, List.getElem?_eq_getElem (by rw [HLRL.out]; exact hql)]; rfl
                        have HONE1 := Lib.hid hone
                        clear hGL HGL hou hou2 hI2 hfullR hone hsl ofz
                        go_wp2_with (at_builtin; refine wpList_append_lies _ rfl _ _ 27 rfl (wr.heap.size + 1) 26 i2 _ 1 24 Try.underlying27 hj1 hy0 hy1 hy2 rfl (by decide) vr q svs rfl (HOW.out _) ⟨wz.heap.size, 0, none⟩ 1 1 [.slice a3 j c3] rfl rfl (cell_one_new _ _ _) HONE.out (by decide) (by unfold maxLen; omega) (by omega) (by simp; omega) (wz.heap.size + 1) (by simp) ?_; intro gx cap W1 hown hgrow hat hlt2; obtain ⟨p0, p1, p2, pfz⟩ := (HPA.out _).outR hgrow; have pf := pfz 2; clear pfz; have hnew := (HPA.out _).pushR (HR3.out _) (by rw [HSL.out]; exact hown) hgrow; have HNEW := Lib.hid hnew; clear hnew hown hgrow hat)
                        go_roundw
                        case rel => exact ⟨q + 1, hql, by go_num, _, _, by rw [HONE1.out]; exact HNEW.out⟩
                        case measure => simp [intOf]; omega
                  · obtain rfl : q = A.rel.length := by omega
                    have hfullQ : LR.take A.rel.length = LR := by rw [← HLRL.out]; exact List.take_length
                    rw [hfullQ] at hI
                    obtain ⟨va5, vc5, ra5, rc5, hvv, rfl, hrm⟩ := hI.rm3 (by rw [HLRL.out]; omega) (fun j hj => by
                      rw [HLRL.out] at hj
                      rw [HLR.out j hj]; unfold prR; rw [List.length_map, HPN.out]; omega) (by omega)
                    subst hvv
                    have HRM := Lib.hid hrm
                    obtain ⟨o0, o1, o2, -⟩ := hI.out
                    have hol := hI.out.lt
                    have hh := HR.out.ext (HEr.out.trans hI.e)
                    have HH := Lib.hid hh
                    obtain ⟨r0, r1, r2, rfz⟩ := hh
                    have f0 := rfz 0
                    have f1 := rfz 1
                    have f2 := rfz 2
                    have hrl9 := HH.out.lt
                    have HEW := Lib.hid (HE.out.trans (HEr.out.trans hI.e))
                    have HOWN9 := Lib.hid (own_ext HOWN.out hI.e)
                    have hne1 : ¬ (wr.heap.size = w.heap.size + 1 + 1) := by have := HP3.out; omega
                    have hne2 : ¬ (w.heap.size + 1 + 1 = wr.heap.size) := by have := HP3.out; omega
                    clear hI hrm rfz hfullQ HI
                    go_wp2_with fail
                    have hEx : Ext w (((wy.setCell ⟨w.heap.size + 2, 0, none⟩ (.int .i64 (K : Int))).setCell ⟨w.heap.size + 2, 1, none⟩ (.slice va5 (LV ++ LB).length vc5)).setCell ⟨w.heap.size + 2, 2, none⟩ (.slice ra5 LR.length rc5)) := HEW.out.set3 (by omega) _ _ _
                    obtain ⟨d0, d1', d2', -⟩ := ((HH.out.set0 (.int .i64 (K : Int))).set1 (.slice va5 (LV ++ LB).length vc5)).set2 (.slice ra5 LR.length rc5)
                    have hag : Agree (w.heap.size + 3) wy (((wy.setCell ⟨w.heap.size + 2, 0, none⟩ (.int .i64 (K : Int))).setCell ⟨w.heap.size + 2, 1, none⟩ (.slice va5 (LV ++ LB).length vc5)).setCell ⟨w.heap.size + 2, 2, none⟩ (.slice ra5 LR.length rc5)) := Agree.set3 (B := w.heap.size + 3) wy (b := w.heap.size + 2) (by omega) (.int .i64 (K : Int)) (.slice va5 (LV ++ LB).length vc5) (.slice ra5 LR.length rc5)
                    have hp3 := HP3.out
                    have hrm2 := HRM.out _ (hag.mono (by omega))
                    have hown2 := own_agree HOWN9.out (hag.mono (by omega))
                    have hplk : (plK m (v * m)).length = K := by rw [plK_len, HK.out]
                    have hrp2 := RP_of_own (l := plK m (v * m)) (v := .slice pa K pc) (by rw [hplk]; exact hown2) (by rw [hplk]; omega)
                    rw [hplk] at hrp2
                    have hLVL2 : (LV ++ LB).length = LV.length + LB.length := by simp
                    rw [hLVL2] at d0 d1' d2' hEx hrm2 hrp2
                    clear hag hown2
                    generalize ((wy.setCell ⟨w.heap.size + 2, 0, none⟩ (.int .i64 (K : Int))).setCell ⟨w.heap.size + 2, 1, none⟩ (.slice va5 (LV.length + LB.length) vc5)).setCell ⟨w.heap.size + 2, 2, none⟩ (.slice ra5 LR.length rc5) = W2 at *
                    have e0 : W2.cell? ⟨w.heap.size + 1 + 1, 0, none⟩ = some (.int .i64 (K : Int)) := d0
                    have e1 : W2.cell? ⟨w.heap.size + 1 + 1, 1, none⟩ = some (.slice va5 (LV.length + LB.length) vc5) := d1'
                    have e2 : W2.cell? ⟨w.heap.size + 1 + 1, 2, none⟩ = some (.slice ra5 LR.length rc5) := d2'
                    refine bodyPost_ret (v := .tuple #[.agg #[.int .i64 (K : Int), .slice va5 (LV.length + LB.length) vc5, .slice ra5 LR.length rc5], .slice pa K pc, .int .i64 0]) ?_ rfl ?_
                    · rw [results_cell_two rfl]
                      go_simp
                    · obtain ⟨pa2, pc2, hpe, hrp3⟩ := hrp2
                      simp only [Value.slice.injEq] at hpe
                      obtain ⟨rfl, -, -⟩ := hpe
                      rw [prM_eq HOA.out HOB.out HZ.out, prL_eq HOA.out HOB.out HZ.out, HZ.out, HLVE.out, HLBE.out, HLRE.out, ← HK.out]
                      refine ⟨va5, ra5, pa, vc5, rc5, pc, ?_, hrm2, hrp3, hEx⟩
                      simp only [List.length_append, HPN.out]
end Wt
