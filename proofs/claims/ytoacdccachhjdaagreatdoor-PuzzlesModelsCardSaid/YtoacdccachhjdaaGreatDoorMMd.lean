/- Walks: wittingref32.SameDeals; PuzzlesModels (printed by gen_lmd.py). -/
import Derived.Test.YtoacdccachhjdaaGreatDoorMADd
import Derived.Test.YtoacdccachhjdaaGreatDoorMACh
import Derived.Test.YtoacdccachhjdaaGreatDoorMAAx
import Derived.Test.YtoacdccachhjdaaGreatDoorRows
import Derived.Test.YtoacdccachhjdaaGreatDoorCards
import Derived.Test.YtoacdccachhjdaaGreatDoorTie
import Derived.ProofKit
import Derived.LaidMore
import Derived.SizedLaws
import Derived.SevenTiedAt
import Derived.OpenShut
namespace Wt
open Go Go.RowKit Go.Maps Go.Proofs Fm

theorem agree_tr {B : Nat} {w w1 w2 : World} (h1 : Agree B w w1) (hs : w.heap.size ≤ w1.heap.size) (h2 : Agree B w1 w2) : Agree B w w2 := fun k hk hl => (h2 k hk (by omega)).trans (h1 k hk hl)
theorem agree_lo {B C : Nat} {w w1 : World} (h : Agree B w w1) (hB : B ≤ C) : Agree C w w1 := fun k hk hl => h k (by omega) hl
theorem OutAt.other3Y {w : World} {b b' : Nat} {x y z u v t : Value} (h : OutAt w b x y z) (hb : b ≠ b') : OutAt (((w.setCell ⟨b', 0, none⟩ u).setCell ⟨b', 1, none⟩ v).setCell ⟨b', 2, none⟩ t) b x y z :=
  h.keep (by rw [heap_setCell_other _ _ _ _ (by simpa using hb), heap_setCell_other _ _ _ _ (by simpa using hb), heap_setCell_other _ _ _ _ (by simpa using hb)])
theorem agree_xt {B : Nat} {w w1 : World} (e : Ext w w1) : Agree B w w1 := fun k _ hl => e.block k hl
set_option maxRecDepth 20000 in
set_option maxHeartbeats 2000000 in
theorem sameDeals_any (a b : Option Addr) (c d : Nat) (L : List (List Nat)) (w : World) (h1 : RII w a L) (h2 : RII w b L) :
    Calls Tryz.prog 22 #[.slice a L.length c, .slice b L.length d] w fun e w' => e = .returned (.bool true) ∧ Ext w w' := by
  have H1 := Lib.hid h1
  have H2 := Lib.hid h2
  have hl := h1.len
  have d0 : ((L.length : Int) != (L.length : Int)) = false := by simp
  clear h1 h2
  go_enter Tryz.func22, Tryz.ntmps22
  go_wp2
  go_loopw [5] (fun i wr => ∃ k : Nat, k ≤ L.length ∧ i = .int .i64 (k : Int) ∧ Hid (Ext w wr)) (fun i _ => L.length - (RowKit.intOf i).toNat)
  case atStart => exact ⟨0, Nat.zero_le _, rfl, Lib.hid (Ext.refl _)⟩
  case round =>
    obtain ⟨k, hk, rfl, HE⟩ := hrel
    by_cases hlt : k < L.length
    · obtain ⟨b1, o1, a1, c1, rfl, hb1, hc1, hr1⟩ := (H1.out.ext HE.out).get k hlt
      obtain ⟨b2, o2, a2, c2, rfl, hb2, hc2, hr2⟩ := (H2.out.ext HE.out).get k hlt
      have HC1 := Lib.hid hc1
      have HC2 := Lib.hid hc2
      have HR1 := Lib.hid hr1
      have HR2 := Lib.hid hr2
      have HB1 := Lib.hid hb1
      have HB2 := Lib.hid hb2
      have hlr := hr1.len
      rw [natI_len] at hlr
      clear hr1 hr2
      generalize nth L k = r at *
      have d1 : ((r.length : Int) != (r.length : Int)) = false := by simp
      go_wp2_with fail
      go_quiet (fail)
      go_wp2_with fail
      clear hc1 hc2 hb1 hb2 d1
      go_loopw [6] (fun i wz => ∃ j : Nat, j ≤ r.length ∧ i = .int .i64 (j : Int) ∧ Hid (Ext wr wz)) (fun i _ => r.length - (RowKit.intOf i).toNat)
      case atStart => exact ⟨0, Nat.zero_le _, rfl, Lib.hid (by first | exact Ext.refl _ | exact (Ext.refl _).drew | exact (Ext.refl _).drewN _)⟩
      case round =>
        rename World => wz
        obtain ⟨j, hj, rfl, HZ⟩ := hrel
        have hc1 := HZ.out.cell HC1.out
        have hc2 := HZ.out.cell HC2.out
        have hb1 : b1 < wz.heap.size := Nat.lt_of_lt_of_le HB1.out HZ.out.size
        have hb2 : b2 < wz.heap.size := Nat.lt_of_lt_of_le HB2.out HZ.out.size
        by_cases hjl : j < r.length
        · have hnl : (natI r).length = r.length := by simp [natI]
          obtain ⟨b3, o3, rfl, hb3, hc3⟩ := (HR1.out.ext HZ.out).get (k := j) (by rw [hnl]; exact hjl)
          obtain ⟨b4, o4, rfl, hb4, hc4⟩ := (HR2.out.ext HZ.out).get (k := j) (by rw [hnl]; exact hjl)
          rw [nth_natI hjl] at hc3 hc4
          clear hnl
          generalize nth r j = x at *
          have d2 : ((x : Int) != (x : Int)) = false := by simp
          go_wp2_with fail
          go_quiet (fail)
          go_wp2_with fail
          go_roundw
          case rel => exact ⟨j + 1, hjl, by go_num, Lib.hid (by first | exact HZ.out | exact HZ.out.drew | exact HZ.out.drewN _)⟩
          case measure => simp [RowKit.intOf]; omega
        · obtain rfl : r.length = j := by omega
          go_wp2_with fail
          go_roundw
          case rel => exact ⟨k + 1, hlt, by go_num, Lib.hid (HE.out.trans HZ.out)⟩
          case measure => simp [RowKit.intOf]; omega
    · go_wp2
      go_ret
      exact ⟨rfl, HE.out⟩
set_option maxRecDepth 20000 in
set_option maxHeartbeats 16000000 in
theorem puzzlesModels_any (n : Int) (L : List Int) (la : Option Addr) (lc : Nat) (x y : Int) (w : World) (hT : Tab w) (hl : RI w la L) :
    Calls Tryz.prog 3 #[.int .i64 n, .slice la L.length lc, .agg #[.int .i64 x, .int .i64 y]] w fun e w' => e = .returned (.bool true) ∧ Ext w w' := by
  have hE0 : Ext w (w.alloc (.cells #[.int .i64 x, .int .i64 y] 23)) := (Ext.refl w).alloc _
  have HE := Lib.hid hE0
  have HT := Lib.hid (hT.ext hE0)
  have HTT : Hid (∀ W, Ext w W → Tab W) := Lib.hid fun W h => hT.ext h
  have HL := Lib.hid (hl.ext hE0)
  have hln := hl.len
  have hx : (w.alloc (.cells #[.int .i64 x, .int .i64 y] 23)).cell? ⟨w.heap.size, 0, none⟩ = some (.int .i64 x) := by simp
  have hy : (w.alloc (.cells #[.int .i64 x, .int .i64 y] 23)).cell? ⟨w.heap.size, 1, none⟩ = some (.int .i64 y) := by simp
  have HCX := Lib.hid hx
  have HCY := Lib.hid hy
  have HSZ : Hid ((w.alloc (.cells #[.int .i64 x, .int .i64 y] 23)).heap.size = w.heap.size + 1) := Lib.hid (by simp)
  clear hE0 hT hl hx hy
  by_cases hlen : 20 < L.length
  · have d0 : decide ((20 : Int) < (L.length : Int)) = true := decide_eq_true (by omega)
    go_enter Tryz.func3, Tryz.ntmps3
    go_wp2_with fail
    refine (awake32_any _ HT.out).mono ?_
    rintro _ w2 ⟨rfl, hE2⟩
    dsimp only
    go_wp2_with fail
    go_ret
    exact ⟨rfl, HE.out.trans hE2⟩
  have d0 : decide ((20 : Int) < (L.length : Int)) = false := decide_eq_false (by omega)
  have XS1 := Lib.hid (fun W (h : Ext (w.alloc (.cells #[.int .i64 x, .int .i64 y] 23)) W) => seen_all n L la lc W (HL.out.ext h))
  have XS2 := Lib.hid (fun W (h : Ext (w.alloc (.cells #[.int .i64 x, .int .i64 y] 23)) W) => r32seen_all n L la lc W (HL.out.ext h))
  have XN1 := Lib.hid (fun W => numbers_all x W)
  have XN2 := Lib.hid (fun W => r32numbers_all x W)
  have XU1 := Lib.hid (fun W => sums_all x y W)
  have XU2 := Lib.hid (fun W => r32sums_all x y W)
  have XD1 := Lib.hid (fun W => deal_all x y W)
  have XD2 := Lib.hid (fun W => r32deal_all x y W)
  generalize seO n L = A0 at *
  generalize seE n L = c0 at *
  generalize nuO x = A1 at *
  generalize nuL x = L1 at *
  generalize nuE x = c1 at *
  generalize suO x y = A2 at *
  generalize suL x y = L2 at *
  generalize suE x y = c2 at *
  generalize deO x y = A3 at *
  generalize deL x y = L3 at *
  generalize deE x y = c3 at *
  have n0 : (c0 != c0) = false := by simp
  have n1 : (c1 != c1) = false := by simp
  have n2 : (c2 != c2) = false := by simp
  have n3 : (c3 == c3) = true := by simp
  go_enter Tryz.func3, Tryz.ntmps3
  go_wp2_with fail
  generalize w.alloc (.cells #[.int .i64 x, .int .i64 y] 23) = w0 at *
  refine (XS1.out _ (Ext.refl _)).mono ?_
  rintro _ w1 ⟨va1, ra1, vc1, rc1, rfl, hm1, hE1⟩
  have HOA := Lib.hid (OutAt.new w1 (.int .i64 A0.worlds) (.slice va1 A0.val.length vc1) (.slice ra1 A0.rel.length rc1) 28)
  have hX1 : Ext w1 (w1.alloc (.cells #[.int .i64 A0.worlds, .slice va1 A0.val.length vc1, .slice ra1 A0.rel.length rc1] 28)) := (Ext.refl _).alloc _
  have HM1 := Lib.hid (hm1.ext hX1)
  have HE1 := Lib.hid (hE1.trans hX1)
  have HB1 : Hid (w.heap.size < w1.heap.size) := Lib.hid (by have := HSZ.out; have := hE1.size; omega)
  have HS2 : Hid ((w1.alloc (.cells #[.int .i64 A0.worlds, .slice va1 A0.val.length vc1, .slice ra1 A0.rel.length rc1] 28)).heap.size = w1.heap.size + 1) := Lib.hid (by simp)
  clear hm1 hE1 hX1
  dsimp only
  go_upto_region 4 with fail
  generalize w1.alloc (.cells #[.int .i64 A0.worlds, .slice va1 A0.val.length vc1, .slice ra1 A0.rel.length rc1] 28) = w2 at *
  go_wp2_with fail
  refine (XS2.out _ HE1.out).mono ?_
  rintro _ w3 ⟨vb1, rb1, vd1, rd1, rfl, hm3, hE3⟩
  have HOB := Lib.hid (OutAt.new w3 (.int .i64 A0.worlds) (.slice vb1 A0.val.length vd1) (.slice rb1 A0.rel.length rd1) 28)
  have hX3 : Ext w3 (w3.alloc (.cells #[.int .i64 A0.worlds, .slice vb1 A0.val.length vd1, .slice rb1 A0.rel.length rd1] 28)) := (Ext.refl _).alloc _
  have HM3 := Lib.hid (hm3.ext hX3)
  have HM1b := Lib.hid (HM1.out.ext (hE3.trans hX3))
  have HOA := Lib.hid (HOA.out.ext (hE3.trans hX3))
  have HE3 := Lib.hid (HE1.out.trans (hE3.trans hX3))
  have HB3 : Hid (w1.heap.size < w3.heap.size) := Lib.hid (Nat.lt_of_lt_of_le (Nat.lt_of_lt_of_le (by omega) (Nat.le_of_eq HS2.out.symm)) hE3.size)
  clear hm3 hE3 hX3
  dsimp only
  go_upto_region 5 with fail
  generalize w3.alloc (.cells #[.int .i64 A0.worlds, .slice vb1 A0.val.length vd1, .slice rb1 A0.rel.length rd1] 28) = w4 at *
  have HSM := Lib.hid (sameM_any A0 va1 ra1 vb1 rb1 vc1 rc1 vd1 rd1 w4 HM1b.out HM3.out)
  obtain ⟨p0, p1, p2, -⟩ := HOA.out
  obtain ⟨q0, q1, q2, -⟩ := HOB.out
  have pl := HOA.out.lt
  have ql := HOB.out.lt
  go_wp2_with fail
  refine HSM.out.mono ?_
  rintro _ wS0 ⟨rfl, hE5⟩
  have HX := Lib.hid (HE3.out.trans hE5)
  have HOA := Lib.hid (HOA.out.ext hE5)
  have HOB := Lib.hid (HOB.out.ext hE5)
  clear hE5 p0 p1 p2 q0 q1 q2 pl ql HSM
  have hba := HB1.out
  have hbb := HB3.out
  obtain ⟨ba, hba'⟩ : ∃ z, z = w1.heap.size := ⟨_, rfl⟩
  obtain ⟨bb, hbb'⟩ : ∃ z, z = w3.heap.size := ⟨_, rfl⟩
  rw [← hba'] at HOA hba hbb ⊢
  rw [← hbb'] at HOB hbb ⊢
  have HCX := Lib.hid (HX.out.cell HCX.out)
  have HCY := Lib.hid (HX.out.cell HCY.out)
  have HXS : Hid (Ext w wS0) := Lib.hid (HE.out.trans HX.out)
  clear hba' hbb' HM1 HM1b HM3 HE1 HE3 HX HB1 HB3
  dsimp only
  have xl := World.block_lt_of_cell? _ _ HCX.out
  dsimp only at xl
  have cx := HCX.out
  have cy := HCY.out
  go_wp2_with fail
  refine (XN1.out _).mono ?_
  rintro _ wA ⟨va, ra, la1, vc, rc, lc1, rfl, hkm, hkr, hE⟩
  have HKM := Lib.hid hkm
  have HKR := Lib.hid hkr
  have HEA := Lib.hid hE
  have HOF := Lib.hid (HOA.out.ext hE)
  have HOBa := Lib.hid (HOB.out.ext hE)
  obtain ⟨r0, r1, r2, rfz⟩ := HOF.out
  have f0 := rfz 0
  have f1 := rfz 1
  have f2 := rfz 2
  have rl := HOF.out.lt
  have bl := HOA.out.lt
  have bl2 := HOB.out.lt
  clear hkm hkr hE rfz cx cy xl
  dsimp only
  go_upto_region 8 with fail
  have hag : Agree wS0.heap.size wA ((((wA).setCell ⟨ba, 0, none⟩ (.int .i64 A1.worlds)).setCell ⟨ba, 1, none⟩ (.slice va A1.val.length vc)).setCell ⟨ba, 2, none⟩ (.slice ra A1.rel.length rc)) := agree_set3Z _ bl _ _ _
  have hsA : wA.heap.size = ((((wA).setCell ⟨ba, 0, none⟩ (.int .i64 A1.worlds)).setCell ⟨ba, 1, none⟩ (.slice va A1.val.length vc)).setCell ⟨ba, 2, none⟩ (.slice ra A1.rel.length rc)).heap.size := by simp
  have HKM2 : Hid (∀ w'', Agree wS0.heap.size ((((wA).setCell ⟨ba, 0, none⟩ (.int .i64 A1.worlds)).setCell ⟨ba, 1, none⟩ (.slice va A1.val.length vc)).setCell ⟨ba, 2, none⟩ (.slice ra A1.rel.length rc)) w'' → RM w'' va ra A1) := Lib.hid fun w'' h => HKM.out w'' (agree_tr hag (by omega) h)
  have HKR2 : Hid (∀ w'', Agree wS0.heap.size ((((wA).setCell ⟨ba, 0, none⟩ (.int .i64 A1.worlds)).setCell ⟨ba, 1, none⟩ (.slice va A1.val.length vc)).setCell ⟨ba, 2, none⟩ (.slice ra A1.rel.length rc)) w'' → RPe w'' la1 L1) := Lib.hid fun w'' h => HKR.out w'' (agree_tr hag (by omega) h)
  have HOA2 := Lib.hid (((HOF.out.set0 (.int .i64 A1.worlds)).set1 (.slice va A1.val.length vc)).set2 (.slice ra A1.rel.length rc))
  have HOB2 := Lib.hid (OutAt.other3Y HOBa.out (by omega) (u := .int .i64 A1.worlds) (v := .slice va A1.val.length vc) (t := .slice ra A1.rel.length rc) (b' := ba))
  have HX2 : Hid (Ext w ((((wA).setCell ⟨ba, 0, none⟩ (.int .i64 A1.worlds)).setCell ⟨ba, 1, none⟩ (.slice va A1.val.length vc)).setCell ⟨ba, 2, none⟩ (.slice ra A1.rel.length rc))) := Lib.hid (ext_set3Z (HXS.out.trans HEA.out) (by omega) _ _ _)
  have hbk : ∀ k, k ≠ ba → ((((wA).setCell ⟨ba, 0, none⟩ (.int .i64 A1.worlds)).setCell ⟨ba, 1, none⟩ (.slice va A1.val.length vc)).setCell ⟨ba, 2, none⟩ (.slice ra A1.rel.length rc)).heap[k]? = wA.heap[k]? := fun k hne => by
    rw [heap_setCell_other _ _ _ _ (by simpa using hne), heap_setCell_other _ _ _ _ (by simpa using hne), heap_setCell_other _ _ _ _ (by simpa using hne)]
  have HCX2 : Hid (((((wA).setCell ⟨ba, 0, none⟩ (.int .i64 A1.worlds)).setCell ⟨ba, 1, none⟩ (.slice va A1.val.length vc)).setCell ⟨ba, 2, none⟩ (.slice ra A1.rel.length rc)).cell? ⟨w.heap.size, 0, none⟩ = some (.int .i64 x)) := Lib.hid ((World.cell?_of_block (hbk w.heap.size (by omega))).trans (HEA.out.cell HCX.out))
  have HCY2 : Hid (((((wA).setCell ⟨ba, 0, none⟩ (.int .i64 A1.worlds)).setCell ⟨ba, 1, none⟩ (.slice va A1.val.length vc)).setCell ⟨ba, 2, none⟩ (.slice ra A1.rel.length rc)).cell? ⟨w.heap.size, 1, none⟩ = some (.int .i64 y)) := Lib.hid ((World.cell?_of_block (hbk w.heap.size (by omega))).trans (HEA.out.cell HCY.out))
  have HSS : Hid (wS0.heap.size ≤ ((((wA).setCell ⟨ba, 0, none⟩ (.int .i64 A1.worlds)).setCell ⟨ba, 1, none⟩ (.slice va A1.val.length vc)).setCell ⟨ba, 2, none⟩ (.slice ra A1.rel.length rc)).heap.size) := Lib.hid (by rw [← hsA]; exact HEA.out.size)
  clear r0 r1 r2 f0 f1 f2 rl hag hsA hbk HKM HKR HOF HOBa HEA HCX HCY HXS HOA HOB
  generalize (((wA).setCell ⟨ba, 0, none⟩ (.int .i64 A1.worlds)).setCell ⟨ba, 1, none⟩ (.slice va A1.val.length vc)).setCell ⟨ba, 2, none⟩ (.slice ra A1.rel.length rc) = wB at *
  have xl := World.block_lt_of_cell? _ _ HCX2.out
  dsimp only at xl
  have cx := HCX2.out
  have cy := HCY2.out
  go_wp2_with fail
  refine (XN2.out _).mono ?_
  rintro _ wC ⟨vb, rb, lb1, vd, rd, ld1, rfl, hkm, hkr, hE⟩
  have HKM := Lib.hid hkm
  have HKR := Lib.hid hkr
  have HEA := Lib.hid hE
  have HOF := Lib.hid (HOB2.out.ext hE)
  have HOAa := Lib.hid (HOA2.out.ext hE)
  obtain ⟨r0, r1, r2, rfz⟩ := HOF.out
  have f0 := rfz 0
  have f1 := rfz 1
  have f2 := rfz 2
  have rl := HOF.out.lt
  have bl3 := HOB2.out.lt
  have hss := HSS.out
  clear hkm hkr hE rfz cx cy xl
  dsimp only
  go_upto_region 9 with fail
  have hag : Agree wS0.heap.size wC ((((wC).setCell ⟨bb, 0, none⟩ (.int .i64 A1.worlds)).setCell ⟨bb, 1, none⟩ (.slice vb A1.val.length vd)).setCell ⟨bb, 2, none⟩ (.slice rb A1.rel.length rd)) := agree_set3Z _ bl2 _ _ _
  have hsC : wC.heap.size = ((((wC).setCell ⟨bb, 0, none⟩ (.int .i64 A1.worlds)).setCell ⟨bb, 1, none⟩ (.slice vb A1.val.length vd)).setCell ⟨bb, 2, none⟩ (.slice rb A1.rel.length rd)).heap.size := by simp
  have HMA : Hid (RM ((((wC).setCell ⟨bb, 0, none⟩ (.int .i64 A1.worlds)).setCell ⟨bb, 1, none⟩ (.slice vb A1.val.length vd)).setCell ⟨bb, 2, none⟩ (.slice rb A1.rel.length rd)) va ra A1) := Lib.hid (HKM2.out _ (agree_tr (agree_xt HEA.out) HEA.out.size hag))
  have HRA : Hid (RPe ((((wC).setCell ⟨bb, 0, none⟩ (.int .i64 A1.worlds)).setCell ⟨bb, 1, none⟩ (.slice vb A1.val.length vd)).setCell ⟨bb, 2, none⟩ (.slice rb A1.rel.length rd)) la1 L1) := Lib.hid (HKR2.out _ (agree_tr (agree_xt HEA.out) HEA.out.size hag))
  have HMB : Hid (RM ((((wC).setCell ⟨bb, 0, none⟩ (.int .i64 A1.worlds)).setCell ⟨bb, 1, none⟩ (.slice vb A1.val.length vd)).setCell ⟨bb, 2, none⟩ (.slice rb A1.rel.length rd)) vb rb A1) := Lib.hid (HKM.out _ (agree_lo hag hss))
  have HRB : Hid (RPe ((((wC).setCell ⟨bb, 0, none⟩ (.int .i64 A1.worlds)).setCell ⟨bb, 1, none⟩ (.slice vb A1.val.length vd)).setCell ⟨bb, 2, none⟩ (.slice rb A1.rel.length rd)) lb1 L1) := Lib.hid (HKR.out _ (agree_lo hag hss))
  have HOB3 := Lib.hid (((HOF.out.set0 (.int .i64 A1.worlds)).set1 (.slice vb A1.val.length vd)).set2 (.slice rb A1.rel.length rd))
  have HOA3 := Lib.hid (OutAt.other3Y HOAa.out (by omega) (u := .int .i64 A1.worlds) (v := .slice vb A1.val.length vd) (t := .slice rb A1.rel.length rd) (b' := bb))
  have HX3 : Hid (Ext w ((((wC).setCell ⟨bb, 0, none⟩ (.int .i64 A1.worlds)).setCell ⟨bb, 1, none⟩ (.slice vb A1.val.length vd)).setCell ⟨bb, 2, none⟩ (.slice rb A1.rel.length rd))) := Lib.hid (ext_set3Z (HX2.out.trans HEA.out) (by omega) _ _ _)
  have hbk : ∀ k, k ≠ bb → ((((wC).setCell ⟨bb, 0, none⟩ (.int .i64 A1.worlds)).setCell ⟨bb, 1, none⟩ (.slice vb A1.val.length vd)).setCell ⟨bb, 2, none⟩ (.slice rb A1.rel.length rd)).heap[k]? = wC.heap[k]? := fun k hne => by
    rw [heap_setCell_other _ _ _ _ (by simpa using hne), heap_setCell_other _ _ _ _ (by simpa using hne), heap_setCell_other _ _ _ _ (by simpa using hne)]
  have HCX3 : Hid (((((wC).setCell ⟨bb, 0, none⟩ (.int .i64 A1.worlds)).setCell ⟨bb, 1, none⟩ (.slice vb A1.val.length vd)).setCell ⟨bb, 2, none⟩ (.slice rb A1.rel.length rd)).cell? ⟨w.heap.size, 0, none⟩ = some (.int .i64 x)) := Lib.hid ((World.cell?_of_block (hbk w.heap.size (by omega))).trans (HEA.out.cell HCX2.out))
  have HCY3 : Hid (((((wC).setCell ⟨bb, 0, none⟩ (.int .i64 A1.worlds)).setCell ⟨bb, 1, none⟩ (.slice vb A1.val.length vd)).setCell ⟨bb, 2, none⟩ (.slice rb A1.rel.length rd)).cell? ⟨w.heap.size, 1, none⟩ = some (.int .i64 y)) := Lib.hid ((World.cell?_of_block (hbk w.heap.size (by omega))).trans (HEA.out.cell HCY2.out))
  clear r0 r1 r2 f0 f1 f2 rl hag hsC hbk HKM HKR HOF HOAa HEA HCX2 HCY2 HX2 HOA2 HOB2 HKM2 HKR2 HSS hss bl bl2 bl3
  generalize (((wC).setCell ⟨bb, 0, none⟩ (.int .i64 A1.worlds)).setCell ⟨bb, 1, none⟩ (.slice vb A1.val.length vd)).setCell ⟨bb, 2, none⟩ (.slice rb A1.rel.length rd) = wD at *
  have HSM := Lib.hid (sameM_any A1 va ra vb rb vc rc vd rd wD HMA.out HMB.out)
  have HSL : Hid (∀ W, Ext wD W → Calls Tryz.prog 17 #[.slice la1 L1.length lc1, .slice lb1 L1.length ld1] W fun e w' => e = .returned (.bool true) ∧ Ext W w') := Lib.hid fun W h => samePairs32_any la1 lb1 lc1 ld1 L1 W (HRA.out.ext h) (HRB.out.ext h)
  obtain ⟨p0, p1, p2, -⟩ := HOA3.out
  obtain ⟨q0, q1, q2, -⟩ := HOB3.out
  have pl := HOA3.out.lt
  have ql := HOB3.out.lt
  clear HMA HMB HRA HRB
  go_wp2_with fail
  refine HSM.out.mono ?_
  rintro _ wE ⟨rfl, hE5⟩
  dsimp only
  have HE5 := Lib.hid hE5
  clear hE5 p0 p1 p2 q0 q1 q2 pl ql
  go_wp2_with fail
  refine (HSL.out _ HE5.out).mono ?_
  rintro _ wS1 ⟨rfl, hE6⟩
  dsimp only
  have hE7 := HE5.out.trans hE6
  have HXS : Hid (Ext w wS1) := Lib.hid (HX3.out.trans hE7)
  have HOA := Lib.hid (HOA3.out.ext hE7)
  have HOB := Lib.hid (HOB3.out.ext hE7)
  have HCX := Lib.hid (hE7.cell HCX3.out)
  have HCY := Lib.hid (hE7.cell HCY3.out)
  clear hE6 hE7 HE5 HSM HSL HX3 HOA3 HOB3 HCX3 HCY3
  have xl := World.block_lt_of_cell? _ _ HCX.out
  dsimp only at xl
  have cx := HCX.out
  have cy := HCY.out
  go_wp2_with fail
  refine (XU1.out _).mono ?_
  rintro _ wA ⟨va, ra, la1, vc, rc, lc1, rfl, hkm, hkr, hE⟩
  have HKM := Lib.hid hkm
  have HKR := Lib.hid hkr
  have HEA := Lib.hid hE
  have HOF := Lib.hid (HOA.out.ext hE)
  have HOBa := Lib.hid (HOB.out.ext hE)
  obtain ⟨r0, r1, r2, rfz⟩ := HOF.out
  have f0 := rfz 0
  have f1 := rfz 1
  have f2 := rfz 2
  have rl := HOF.out.lt
  have bl := HOA.out.lt
  have bl2 := HOB.out.lt
  clear hkm hkr hE rfz cx cy xl
  dsimp only
  go_upto_region 12 with fail
  have hag : Agree wS1.heap.size wA ((((wA).setCell ⟨ba, 0, none⟩ (.int .i64 A2.worlds)).setCell ⟨ba, 1, none⟩ (.slice va A2.val.length vc)).setCell ⟨ba, 2, none⟩ (.slice ra A2.rel.length rc)) := agree_set3Z _ bl _ _ _
  have hsA : wA.heap.size = ((((wA).setCell ⟨ba, 0, none⟩ (.int .i64 A2.worlds)).setCell ⟨ba, 1, none⟩ (.slice va A2.val.length vc)).setCell ⟨ba, 2, none⟩ (.slice ra A2.rel.length rc)).heap.size := by simp
  have HKM2 : Hid (∀ w'', Agree wS1.heap.size ((((wA).setCell ⟨ba, 0, none⟩ (.int .i64 A2.worlds)).setCell ⟨ba, 1, none⟩ (.slice va A2.val.length vc)).setCell ⟨ba, 2, none⟩ (.slice ra A2.rel.length rc)) w'' → RM w'' va ra A2) := Lib.hid fun w'' h => HKM.out w'' (agree_tr hag (by omega) h)
  have HKR2 : Hid (∀ w'', Agree wS1.heap.size ((((wA).setCell ⟨ba, 0, none⟩ (.int .i64 A2.worlds)).setCell ⟨ba, 1, none⟩ (.slice va A2.val.length vc)).setCell ⟨ba, 2, none⟩ (.slice ra A2.rel.length rc)) w'' → RPe w'' la1 L2) := Lib.hid fun w'' h => HKR.out w'' (agree_tr hag (by omega) h)
  have HOA2 := Lib.hid (((HOF.out.set0 (.int .i64 A2.worlds)).set1 (.slice va A2.val.length vc)).set2 (.slice ra A2.rel.length rc))
  have HOB2 := Lib.hid (OutAt.other3Y HOBa.out (by omega) (u := .int .i64 A2.worlds) (v := .slice va A2.val.length vc) (t := .slice ra A2.rel.length rc) (b' := ba))
  have HX2 : Hid (Ext w ((((wA).setCell ⟨ba, 0, none⟩ (.int .i64 A2.worlds)).setCell ⟨ba, 1, none⟩ (.slice va A2.val.length vc)).setCell ⟨ba, 2, none⟩ (.slice ra A2.rel.length rc))) := Lib.hid (ext_set3Z (HXS.out.trans HEA.out) (by omega) _ _ _)
  have hbk : ∀ k, k ≠ ba → ((((wA).setCell ⟨ba, 0, none⟩ (.int .i64 A2.worlds)).setCell ⟨ba, 1, none⟩ (.slice va A2.val.length vc)).setCell ⟨ba, 2, none⟩ (.slice ra A2.rel.length rc)).heap[k]? = wA.heap[k]? := fun k hne => by
    rw [heap_setCell_other _ _ _ _ (by simpa using hne), heap_setCell_other _ _ _ _ (by simpa using hne), heap_setCell_other _ _ _ _ (by simpa using hne)]
  have HCX2 : Hid (((((wA).setCell ⟨ba, 0, none⟩ (.int .i64 A2.worlds)).setCell ⟨ba, 1, none⟩ (.slice va A2.val.length vc)).setCell ⟨ba, 2, none⟩ (.slice ra A2.rel.length rc)).cell? ⟨w.heap.size, 0, none⟩ = some (.int .i64 x)) := Lib.hid ((World.cell?_of_block (hbk w.heap.size (by omega))).trans (HEA.out.cell HCX.out))
  have HCY2 : Hid (((((wA).setCell ⟨ba, 0, none⟩ (.int .i64 A2.worlds)).setCell ⟨ba, 1, none⟩ (.slice va A2.val.length vc)).setCell ⟨ba, 2, none⟩ (.slice ra A2.rel.length rc)).cell? ⟨w.heap.size, 1, none⟩ = some (.int .i64 y)) := Lib.hid ((World.cell?_of_block (hbk w.heap.size (by omega))).trans (HEA.out.cell HCY.out))
  have HSS : Hid (wS1.heap.size ≤ ((((wA).setCell ⟨ba, 0, none⟩ (.int .i64 A2.worlds)).setCell ⟨ba, 1, none⟩ (.slice va A2.val.length vc)).setCell ⟨ba, 2, none⟩ (.slice ra A2.rel.length rc)).heap.size) := Lib.hid (by rw [← hsA]; exact HEA.out.size)
  clear r0 r1 r2 f0 f1 f2 rl hag hsA hbk HKM HKR HOF HOBa HEA HCX HCY HXS HOA HOB
  generalize (((wA).setCell ⟨ba, 0, none⟩ (.int .i64 A2.worlds)).setCell ⟨ba, 1, none⟩ (.slice va A2.val.length vc)).setCell ⟨ba, 2, none⟩ (.slice ra A2.rel.length rc) = wB at *
  have xl := World.block_lt_of_cell? _ _ HCX2.out
  dsimp only at xl
  have cx := HCX2.out
  have cy := HCY2.out
  go_wp2_with fail
  refine (XU2.out _).mono ?_
  rintro _ wC ⟨vb, rb, lb1, vd, rd, ld1, rfl, hkm, hkr, hE⟩
  have HKM := Lib.hid hkm
  have HKR := Lib.hid hkr
  have HEA := Lib.hid hE
  have HOF := Lib.hid (HOB2.out.ext hE)
  have HOAa := Lib.hid (HOA2.out.ext hE)
  obtain ⟨r0, r1, r2, rfz⟩ := HOF.out
  have f0 := rfz 0
  have f1 := rfz 1
  have f2 := rfz 2
  have rl := HOF.out.lt
  have bl3 := HOB2.out.lt
  have hss := HSS.out
  clear hkm hkr hE rfz cx cy xl
  dsimp only
  go_upto_region 13 with fail
  have hag : Agree wS1.heap.size wC ((((wC).setCell ⟨bb, 0, none⟩ (.int .i64 A2.worlds)).setCell ⟨bb, 1, none⟩ (.slice vb A2.val.length vd)).setCell ⟨bb, 2, none⟩ (.slice rb A2.rel.length rd)) := agree_set3Z _ bl2 _ _ _
  have hsC : wC.heap.size = ((((wC).setCell ⟨bb, 0, none⟩ (.int .i64 A2.worlds)).setCell ⟨bb, 1, none⟩ (.slice vb A2.val.length vd)).setCell ⟨bb, 2, none⟩ (.slice rb A2.rel.length rd)).heap.size := by simp
  have HMA : Hid (RM ((((wC).setCell ⟨bb, 0, none⟩ (.int .i64 A2.worlds)).setCell ⟨bb, 1, none⟩ (.slice vb A2.val.length vd)).setCell ⟨bb, 2, none⟩ (.slice rb A2.rel.length rd)) va ra A2) := Lib.hid (HKM2.out _ (agree_tr (agree_xt HEA.out) HEA.out.size hag))
  have HRA : Hid (RPe ((((wC).setCell ⟨bb, 0, none⟩ (.int .i64 A2.worlds)).setCell ⟨bb, 1, none⟩ (.slice vb A2.val.length vd)).setCell ⟨bb, 2, none⟩ (.slice rb A2.rel.length rd)) la1 L2) := Lib.hid (HKR2.out _ (agree_tr (agree_xt HEA.out) HEA.out.size hag))
  have HMB : Hid (RM ((((wC).setCell ⟨bb, 0, none⟩ (.int .i64 A2.worlds)).setCell ⟨bb, 1, none⟩ (.slice vb A2.val.length vd)).setCell ⟨bb, 2, none⟩ (.slice rb A2.rel.length rd)) vb rb A2) := Lib.hid (HKM.out _ (agree_lo hag hss))
  have HRB : Hid (RPe ((((wC).setCell ⟨bb, 0, none⟩ (.int .i64 A2.worlds)).setCell ⟨bb, 1, none⟩ (.slice vb A2.val.length vd)).setCell ⟨bb, 2, none⟩ (.slice rb A2.rel.length rd)) lb1 L2) := Lib.hid (HKR.out _ (agree_lo hag hss))
  have HOB3 := Lib.hid (((HOF.out.set0 (.int .i64 A2.worlds)).set1 (.slice vb A2.val.length vd)).set2 (.slice rb A2.rel.length rd))
  have HOA3 := Lib.hid (OutAt.other3Y HOAa.out (by omega) (u := .int .i64 A2.worlds) (v := .slice vb A2.val.length vd) (t := .slice rb A2.rel.length rd) (b' := bb))
  have HX3 : Hid (Ext w ((((wC).setCell ⟨bb, 0, none⟩ (.int .i64 A2.worlds)).setCell ⟨bb, 1, none⟩ (.slice vb A2.val.length vd)).setCell ⟨bb, 2, none⟩ (.slice rb A2.rel.length rd))) := Lib.hid (ext_set3Z (HX2.out.trans HEA.out) (by omega) _ _ _)
  have hbk : ∀ k, k ≠ bb → ((((wC).setCell ⟨bb, 0, none⟩ (.int .i64 A2.worlds)).setCell ⟨bb, 1, none⟩ (.slice vb A2.val.length vd)).setCell ⟨bb, 2, none⟩ (.slice rb A2.rel.length rd)).heap[k]? = wC.heap[k]? := fun k hne => by
    rw [heap_setCell_other _ _ _ _ (by simpa using hne), heap_setCell_other _ _ _ _ (by simpa using hne), heap_setCell_other _ _ _ _ (by simpa using hne)]
  have HCX3 : Hid (((((wC).setCell ⟨bb, 0, none⟩ (.int .i64 A2.worlds)).setCell ⟨bb, 1, none⟩ (.slice vb A2.val.length vd)).setCell ⟨bb, 2, none⟩ (.slice rb A2.rel.length rd)).cell? ⟨w.heap.size, 0, none⟩ = some (.int .i64 x)) := Lib.hid ((World.cell?_of_block (hbk w.heap.size (by omega))).trans (HEA.out.cell HCX2.out))
  have HCY3 : Hid (((((wC).setCell ⟨bb, 0, none⟩ (.int .i64 A2.worlds)).setCell ⟨bb, 1, none⟩ (.slice vb A2.val.length vd)).setCell ⟨bb, 2, none⟩ (.slice rb A2.rel.length rd)).cell? ⟨w.heap.size, 1, none⟩ = some (.int .i64 y)) := Lib.hid ((World.cell?_of_block (hbk w.heap.size (by omega))).trans (HEA.out.cell HCY2.out))
  clear r0 r1 r2 f0 f1 f2 rl hag hsC hbk HKM HKR HOF HOAa HEA HCX2 HCY2 HX2 HOA2 HOB2 HKM2 HKR2 HSS hss bl bl2 bl3
  generalize (((wC).setCell ⟨bb, 0, none⟩ (.int .i64 A2.worlds)).setCell ⟨bb, 1, none⟩ (.slice vb A2.val.length vd)).setCell ⟨bb, 2, none⟩ (.slice rb A2.rel.length rd) = wD at *
  have HSM := Lib.hid (sameM_any A2 va ra vb rb vc rc vd rd wD HMA.out HMB.out)
  have HSL : Hid (∀ W, Ext wD W → Calls Tryz.prog 17 #[.slice la1 L2.length lc1, .slice lb1 L2.length ld1] W fun e w' => e = .returned (.bool true) ∧ Ext W w') := Lib.hid fun W h => samePairs32_any la1 lb1 lc1 ld1 L2 W (HRA.out.ext h) (HRB.out.ext h)
  obtain ⟨p0, p1, p2, -⟩ := HOA3.out
  obtain ⟨q0, q1, q2, -⟩ := HOB3.out
  have pl := HOA3.out.lt
  have ql := HOB3.out.lt
  clear HMA HMB HRA HRB
  go_wp2_with fail
  refine HSM.out.mono ?_
  rintro _ wE ⟨rfl, hE5⟩
  dsimp only
  have HE5 := Lib.hid hE5
  clear hE5 p0 p1 p2 q0 q1 q2 pl ql
  go_wp2_with fail
  refine (HSL.out _ HE5.out).mono ?_
  rintro _ wS2 ⟨rfl, hE6⟩
  dsimp only
  have hE7 := HE5.out.trans hE6
  have HXS : Hid (Ext w wS2) := Lib.hid (HX3.out.trans hE7)
  have HOA := Lib.hid (HOA3.out.ext hE7)
  have HOB := Lib.hid (HOB3.out.ext hE7)
  have HCX := Lib.hid (hE7.cell HCX3.out)
  have HCY := Lib.hid (hE7.cell HCY3.out)
  clear hE6 hE7 HE5 HSM HSL HX3 HOA3 HOB3 HCX3 HCY3
  have xl := World.block_lt_of_cell? _ _ HCX.out
  dsimp only at xl
  have cx := HCX.out
  have cy := HCY.out
  go_wp2_with fail
  refine (XD1.out _).mono ?_
  rintro _ wA ⟨va, ra, la1, vc, rc, lc1, rfl, hkm, hkr, hE⟩
  have HKM := Lib.hid hkm
  have HKR := Lib.hid hkr
  have HEA := Lib.hid hE
  have HOF := Lib.hid (HOA.out.ext hE)
  have HOBa := Lib.hid (HOB.out.ext hE)
  obtain ⟨r0, r1, r2, rfz⟩ := HOF.out
  have f0 := rfz 0
  have f1 := rfz 1
  have f2 := rfz 2
  have rl := HOF.out.lt
  have bl := HOA.out.lt
  have bl2 := HOB.out.lt
  clear hkm hkr hE rfz cx cy xl
  dsimp only
  go_upto_region 16 with fail
  have hag : Agree wS2.heap.size wA ((((wA).setCell ⟨ba, 0, none⟩ (.int .i64 A3.worlds)).setCell ⟨ba, 1, none⟩ (.slice va A3.val.length vc)).setCell ⟨ba, 2, none⟩ (.slice ra A3.rel.length rc)) := agree_set3Z _ bl _ _ _
  have hsA : wA.heap.size = ((((wA).setCell ⟨ba, 0, none⟩ (.int .i64 A3.worlds)).setCell ⟨ba, 1, none⟩ (.slice va A3.val.length vc)).setCell ⟨ba, 2, none⟩ (.slice ra A3.rel.length rc)).heap.size := by simp
  have HKM2 : Hid (∀ w'', Agree wS2.heap.size ((((wA).setCell ⟨ba, 0, none⟩ (.int .i64 A3.worlds)).setCell ⟨ba, 1, none⟩ (.slice va A3.val.length vc)).setCell ⟨ba, 2, none⟩ (.slice ra A3.rel.length rc)) w'' → RM w'' va ra A3) := Lib.hid fun w'' h => HKM.out w'' (agree_tr hag (by omega) h)
  have HKR2 : Hid (∀ w'', Agree wS2.heap.size ((((wA).setCell ⟨ba, 0, none⟩ (.int .i64 A3.worlds)).setCell ⟨ba, 1, none⟩ (.slice va A3.val.length vc)).setCell ⟨ba, 2, none⟩ (.slice ra A3.rel.length rc)) w'' → RII w'' la1 L3) := Lib.hid fun w'' h => HKR.out w'' (agree_tr hag (by omega) h)
  have HOA2 := Lib.hid (((HOF.out.set0 (.int .i64 A3.worlds)).set1 (.slice va A3.val.length vc)).set2 (.slice ra A3.rel.length rc))
  have HOB2 := Lib.hid (OutAt.other3Y HOBa.out (by omega) (u := .int .i64 A3.worlds) (v := .slice va A3.val.length vc) (t := .slice ra A3.rel.length rc) (b' := ba))
  have HX2 : Hid (Ext w ((((wA).setCell ⟨ba, 0, none⟩ (.int .i64 A3.worlds)).setCell ⟨ba, 1, none⟩ (.slice va A3.val.length vc)).setCell ⟨ba, 2, none⟩ (.slice ra A3.rel.length rc))) := Lib.hid (ext_set3Z (HXS.out.trans HEA.out) (by omega) _ _ _)
  have hbk : ∀ k, k ≠ ba → ((((wA).setCell ⟨ba, 0, none⟩ (.int .i64 A3.worlds)).setCell ⟨ba, 1, none⟩ (.slice va A3.val.length vc)).setCell ⟨ba, 2, none⟩ (.slice ra A3.rel.length rc)).heap[k]? = wA.heap[k]? := fun k hne => by
    rw [heap_setCell_other _ _ _ _ (by simpa using hne), heap_setCell_other _ _ _ _ (by simpa using hne), heap_setCell_other _ _ _ _ (by simpa using hne)]
  have HCX2 : Hid (((((wA).setCell ⟨ba, 0, none⟩ (.int .i64 A3.worlds)).setCell ⟨ba, 1, none⟩ (.slice va A3.val.length vc)).setCell ⟨ba, 2, none⟩ (.slice ra A3.rel.length rc)).cell? ⟨w.heap.size, 0, none⟩ = some (.int .i64 x)) := Lib.hid ((World.cell?_of_block (hbk w.heap.size (by omega))).trans (HEA.out.cell HCX.out))
  have HCY2 : Hid (((((wA).setCell ⟨ba, 0, none⟩ (.int .i64 A3.worlds)).setCell ⟨ba, 1, none⟩ (.slice va A3.val.length vc)).setCell ⟨ba, 2, none⟩ (.slice ra A3.rel.length rc)).cell? ⟨w.heap.size, 1, none⟩ = some (.int .i64 y)) := Lib.hid ((World.cell?_of_block (hbk w.heap.size (by omega))).trans (HEA.out.cell HCY.out))
  have HSS : Hid (wS2.heap.size ≤ ((((wA).setCell ⟨ba, 0, none⟩ (.int .i64 A3.worlds)).setCell ⟨ba, 1, none⟩ (.slice va A3.val.length vc)).setCell ⟨ba, 2, none⟩ (.slice ra A3.rel.length rc)).heap.size) := Lib.hid (by rw [← hsA]; exact HEA.out.size)
  clear r0 r1 r2 f0 f1 f2 rl hag hsA hbk HKM HKR HOF HOBa HEA HCX HCY HXS HOA HOB
  generalize (((wA).setCell ⟨ba, 0, none⟩ (.int .i64 A3.worlds)).setCell ⟨ba, 1, none⟩ (.slice va A3.val.length vc)).setCell ⟨ba, 2, none⟩ (.slice ra A3.rel.length rc) = wB at *
  have xl := World.block_lt_of_cell? _ _ HCX2.out
  dsimp only at xl
  have cx := HCX2.out
  have cy := HCY2.out
  go_wp2_with fail
  refine (XD2.out _).mono ?_
  rintro _ wC ⟨vb, rb, lb1, vd, rd, ld1, rfl, hkm, hkr, hE⟩
  have HKM := Lib.hid hkm
  have HKR := Lib.hid hkr
  have HEA := Lib.hid hE
  have HOF := Lib.hid (HOB2.out.ext hE)
  have HOAa := Lib.hid (HOA2.out.ext hE)
  obtain ⟨r0, r1, r2, rfz⟩ := HOF.out
  have f0 := rfz 0
  have f1 := rfz 1
  have f2 := rfz 2
  have rl := HOF.out.lt
  have bl3 := HOB2.out.lt
  have hss := HSS.out
  clear hkm hkr hE rfz cx cy xl
  dsimp only
  go_upto_region 17 with fail
  have hag : Agree wS2.heap.size wC ((((wC).setCell ⟨bb, 0, none⟩ (.int .i64 A3.worlds)).setCell ⟨bb, 1, none⟩ (.slice vb A3.val.length vd)).setCell ⟨bb, 2, none⟩ (.slice rb A3.rel.length rd)) := agree_set3Z _ bl2 _ _ _
  have hsC : wC.heap.size = ((((wC).setCell ⟨bb, 0, none⟩ (.int .i64 A3.worlds)).setCell ⟨bb, 1, none⟩ (.slice vb A3.val.length vd)).setCell ⟨bb, 2, none⟩ (.slice rb A3.rel.length rd)).heap.size := by simp
  have HMA : Hid (RM ((((wC).setCell ⟨bb, 0, none⟩ (.int .i64 A3.worlds)).setCell ⟨bb, 1, none⟩ (.slice vb A3.val.length vd)).setCell ⟨bb, 2, none⟩ (.slice rb A3.rel.length rd)) va ra A3) := Lib.hid (HKM2.out _ (agree_tr (agree_xt HEA.out) HEA.out.size hag))
  have HRA : Hid (RII ((((wC).setCell ⟨bb, 0, none⟩ (.int .i64 A3.worlds)).setCell ⟨bb, 1, none⟩ (.slice vb A3.val.length vd)).setCell ⟨bb, 2, none⟩ (.slice rb A3.rel.length rd)) la1 L3) := Lib.hid (HKR2.out _ (agree_tr (agree_xt HEA.out) HEA.out.size hag))
  have HMB : Hid (RM ((((wC).setCell ⟨bb, 0, none⟩ (.int .i64 A3.worlds)).setCell ⟨bb, 1, none⟩ (.slice vb A3.val.length vd)).setCell ⟨bb, 2, none⟩ (.slice rb A3.rel.length rd)) vb rb A3) := Lib.hid (HKM.out _ (agree_lo hag hss))
  have HRB : Hid (RII ((((wC).setCell ⟨bb, 0, none⟩ (.int .i64 A3.worlds)).setCell ⟨bb, 1, none⟩ (.slice vb A3.val.length vd)).setCell ⟨bb, 2, none⟩ (.slice rb A3.rel.length rd)) lb1 L3) := Lib.hid (HKR.out _ (agree_lo hag hss))
  have HOB3 := Lib.hid (((HOF.out.set0 (.int .i64 A3.worlds)).set1 (.slice vb A3.val.length vd)).set2 (.slice rb A3.rel.length rd))
  have HOA3 := Lib.hid (OutAt.other3Y HOAa.out (by omega) (u := .int .i64 A3.worlds) (v := .slice vb A3.val.length vd) (t := .slice rb A3.rel.length rd) (b' := bb))
  have HX3 : Hid (Ext w ((((wC).setCell ⟨bb, 0, none⟩ (.int .i64 A3.worlds)).setCell ⟨bb, 1, none⟩ (.slice vb A3.val.length vd)).setCell ⟨bb, 2, none⟩ (.slice rb A3.rel.length rd))) := Lib.hid (ext_set3Z (HX2.out.trans HEA.out) (by omega) _ _ _)
  have hbk : ∀ k, k ≠ bb → ((((wC).setCell ⟨bb, 0, none⟩ (.int .i64 A3.worlds)).setCell ⟨bb, 1, none⟩ (.slice vb A3.val.length vd)).setCell ⟨bb, 2, none⟩ (.slice rb A3.rel.length rd)).heap[k]? = wC.heap[k]? := fun k hne => by
    rw [heap_setCell_other _ _ _ _ (by simpa using hne), heap_setCell_other _ _ _ _ (by simpa using hne), heap_setCell_other _ _ _ _ (by simpa using hne)]
  have HCX3 : Hid (((((wC).setCell ⟨bb, 0, none⟩ (.int .i64 A3.worlds)).setCell ⟨bb, 1, none⟩ (.slice vb A3.val.length vd)).setCell ⟨bb, 2, none⟩ (.slice rb A3.rel.length rd)).cell? ⟨w.heap.size, 0, none⟩ = some (.int .i64 x)) := Lib.hid ((World.cell?_of_block (hbk w.heap.size (by omega))).trans (HEA.out.cell HCX2.out))
  have HCY3 : Hid (((((wC).setCell ⟨bb, 0, none⟩ (.int .i64 A3.worlds)).setCell ⟨bb, 1, none⟩ (.slice vb A3.val.length vd)).setCell ⟨bb, 2, none⟩ (.slice rb A3.rel.length rd)).cell? ⟨w.heap.size, 1, none⟩ = some (.int .i64 y)) := Lib.hid ((World.cell?_of_block (hbk w.heap.size (by omega))).trans (HEA.out.cell HCY2.out))
  clear r0 r1 r2 f0 f1 f2 rl hag hsC hbk HKM HKR HOF HOAa HEA HCX2 HCY2 HX2 HOA2 HOB2 HKM2 HKR2 HSS hss bl bl2 bl3
  generalize (((wC).setCell ⟨bb, 0, none⟩ (.int .i64 A3.worlds)).setCell ⟨bb, 1, none⟩ (.slice vb A3.val.length vd)).setCell ⟨bb, 2, none⟩ (.slice rb A3.rel.length rd) = wD at *
  have HSM := Lib.hid (sameM_any A3 va ra vb rb vc rc vd rd wD HMA.out HMB.out)
  have HSL : Hid (∀ W, Ext wD W → Calls Tryz.prog 22 #[.slice la1 L3.length lc1, .slice lb1 L3.length ld1] W fun e w' => e = .returned (.bool true) ∧ Ext W w') := Lib.hid fun W h => sameDeals_any la1 lb1 lc1 ld1 L3 W (HRA.out.ext h) (HRB.out.ext h)
  obtain ⟨p0, p1, p2, -⟩ := HOA3.out
  obtain ⟨q0, q1, q2, -⟩ := HOB3.out
  have pl := HOA3.out.lt
  have ql := HOB3.out.lt
  clear HMA HMB HRA HRB
  go_wp2_with fail
  refine HSM.out.mono ?_
  rintro _ wE ⟨rfl, hE5⟩
  dsimp only
  have HE5 := Lib.hid hE5
  clear hE5 p0 p1 p2 q0 q1 q2 pl ql
  go_wp2_with fail
  refine (HSL.out _ HE5.out).mono ?_
  rintro _ wS3 ⟨rfl, hE6⟩
  dsimp only
  have HX9 := Lib.hid (HX3.out.trans (HE5.out.trans hE6))
  clear hE6
  go_wp2_with fail
  refine (awake32_any _ (HTT.out _ HX9.out)).mono ?_
  rintro _ w9 ⟨rfl, hE9⟩
  dsimp only
  go_wp2_with fail
  go_ret
  exact ⟨rfl, HX9.out.trans hE9⟩
end Wt

/- The law PuzzlesModels returns true at every input, and its arguments read behind the call as they did before. the tied card: the library's table of TrailingZeros64 lies as the program's text lays it. -/
namespace Go.Proofs.YtoacdccachhjdaaGreatDoor
open Go.ChangeShapes Go.WideShapes Go.ChangeAt Go.WideMaps Go.WideElems Go.RowKit

theorem own : ownKnob Tryz.prog.godebug = none := by kernel_rfl
theorem laidOut : laidOutB Tryz.prog = true := by kernel_rfl
theorem okWide_arr {P : Program} {w : World} {r : Reach} {base : Nat} {t e : TypeId} {n : Nat} {v : Value} (ht : P.underlying t = some (.array n e)) (h : Value.okWide P w r base t v) : ∃ cs, v = .agg cs := by
  unfold Value.okWide at h
  rw [ht] at h
  obtain ⟨cs, h1, _⟩ := h
  exact ⟨cs, h1⟩
set_option maxRecDepth 100000 in
theorem open_int2 {H : Type} {enc : TypeId × Value → H} {w : World} {v : Value} {d : DataW H} {p : List MemPlace} {r : Reach} {b0 : Nat} (hval : Value.okWide Tryz.prog w r b0 23 v) (h : DataW.Trod enc Tryz.prog w 0 (fun _ => true) true 23 v d p) :
    ∃ z0 z1 : Int, v = .agg #[.int .i64 z0, .int .i64 z1] := by
  have hc0 : Tryz.prog.cellsOf 3 = 1 := by kernel_rfl
  have hc3 : Tryz.prog.cellsOf 23 = 2 := by kernel_rfl
  obtain ⟨cs, rfl⟩ := okWide_arr Tryz.underlying23 hval
  obtain ⟨fuel, h⟩ := h
  obtain ⟨xs, m, _, _, hl, hxl, hi⟩ := DataW.trod_array Tryz.underlying23 h
  rw [hc3] at hl
  match xs, hxl with
  | [y0, y1], _ =>
    have u0 := hi 0 (by omega)
    have u1 := hi 1 (by omega)
    simp only [hc0, List.getElem?_cons_zero, List.getElem?_cons_succ] at u0 u1
    obtain ⟨z0, hi0, _, w0⟩ := DataW.trod_int Tryz.underlying3 u0
    obtain ⟨z1, hi1, _, w1⟩ := DataW.trod_int Tryz.underlying3 u1
    have hcl : (Value.agg cs).cells.toList = [.int .i64 z0, .int .i64 z1] := by
      generalize (Value.agg cs).cells.toList = L at hl hi0 hi1
      match L, hl with
      | [c0, c1], _ =>
        simp at hi0 hi1
        rw [hi0, hi1]
    have e2 : cs.toList = [.int .i64 z0, .int .i64 z1] := hcl
    have e3 : cs = #[.int .i64 z0, .int .i64 z1] := by
      apply Array.ext'
      rw [e2]
    exact ⟨z0, z1, by rw [e3]⟩
theorem door_met (os : Os) (args : Array Value) : laidMetH Tryz.prog [("math/bits.deBruijn64tab", Rows.laid_math_bits_deBruijn64tab)] ((World.doorLaid Tryz.prog 400 os).forCall (fun _ _ => 0) ⟨#[], args, []⟩).memory := by
  rw [MakeChecks.laidMetH_plain _ _ _ (by kernel_rfl)]
  exact laidMet_of_run' 8 (by kernel_rfl) (by kernel_rfl)
set_option maxRecDepth 100000 in
set_option maxHeartbeats 1000000 in
theorem law_lifted (os : Os) (started : os.Started) (H : Type) (enc : TypeId × Value → H) :
    ReturnsInHanded {} Tryz.checked os 3 .any (fun w args => (Rows.puzzlesModelsSpec.pre enc Tryz.prog Tryz.f3 Rows.puzzlesModelsRow.domain false w args ∧ laidMetH Tryz.prog [("math/bits.deBruijn64tab", Rows.laid_math_bits_deBruijn64tab)] w) ∧ sizedMet enc Tryz.prog Tryz.f3 (OpenSpec.ofChange Rows.puzzlesModelsSpec) false w args)
      (Rows.puzzlesModelsSpec.post enc Tryz.prog Tryz.f3 false true false false) := by
  refine returnsInHanded_of_change_and (C := Tryz.checked) (X := fun w _ => laidMetH Tryz.prog [("math/bits.deBruijn64tab", Rows.laid_math_bits_deBruijn64tab)] w) (fun _ _ _ hh h => h.of_heap hh) own started (by kernel_rfl) Tryz.func3
    (ChangeSpec.witness_shaped (enc := enc) (C := Tryz.checked) (os := os) (X := fun w _ => laidMetH Tryz.prog [("math/bits.deBruijn64tab", Rows.laid_math_bits_deBruijn64tab)] w) false (World.doorLaid Tryz.prog 400 os) #[.int .i64 0, .slice none 0 0, .agg #[.int .i64 0, .int .i64 0]] 8 rfl (World.shaped_of_RefB (by kernel_rfl) (by kernel_rfl)) (by kernel_rfl) (by kernel_rfl) (by kernel_rfl) (door_met os _)) ?_
  intro W base args ds gs before hval0 hW _ hsz0 hL _
  have hT := of_laid hL
  have hval : ∀ (j : Nat) t v, Tryz.f3.params[j]? = some t → args[j]? = some v → Value.okWide Tryz.prog W .any base t v := hval0
  have hsz : (DataW.weightsEach Tryz.prog (Tryz.f3.params.toList ++ Rows.puzzlesModelsSpec.plain.varTypes Tryz.prog) (ds ++ gs)).all (· ≤ reachBytes) = true := hsz0
  have hW' := hW
  obtain ⟨p, q, hA0, hV, rfl, hfz, hnd⟩ := hW
  have hA : DataW.TrodAll enc Tryz.prog W 0 (fun _ => true) true Tryz.f3.params.toList args.toList ds p := hA0
  rw [Tryz.params3] at hA hval hsz
  obtain ⟨v0, v1, v2, d0, d1, d2, p0, p1, p2, rfl, rfl, rfl, h0, h1, h2⟩ := trodAll_three hA
  obtain ⟨rfl, rfl⟩ := trodVars_none hV
  have hv0 : Rows.puzzlesModelsSpec.plain.varTypes Tryz.prog = [] := rfl
  rw [hv0] at hsz
  have hz : ∀ n ∈ DataW.weightsEach Tryz.prog [3, 22, 23] [d0, d1, d2], n ≤ reachBytes := fun n hn => by
    have := List.all_eq_true.1 hsz n (by simpa using hn)
    simpa using this
  have k0 := h0
  have k1 := h1
  have k2 := h2
  obtain ⟨n, rfl, rfl, rfl, wn⟩ := open_int Tryz.underlying3 (hval 0 3 v0 rfl rfl) h0
  obtain ⟨La, Ll, Lc, rfl⟩ := okWide_slice Tryz.underlying22 (hval 1 22 v1 rfl rfl)
  obtain ⟨Lu, h1'⟩ := h1
  obtain ⟨La', L, Lc', he1, hfL⟩ := Wt.open_ri h1' (fun n hn => hz n (DataW.weights_mem_each (j := 1) rfl rfl n hn))
  simp [Value.cells] at he1
  obtain ⟨rfl, rfl, rfl⟩ := he1
  obtain ⟨x0, x1, rfl⟩ := open_int2 (hval 2 23 v2 rfl rfl) h2
  have hl1 : ∀ y ∈ p1, y.block < W.heap.size := fun y hy => by simpa using hW'.lt y (by simp [hy])
  have hl2 : ∀ y ∈ p2, y.block < W.heap.size := fun y hy => by simpa using hW'.lt y (by simp [hy])
  refine (Wt.puzzlesModels_any n L La Lc x0 x1 W hT hfL).mono fun e W' he => ?_
  obtain ⟨rfl, hE⟩ := he
  have bel : Below W.heap.size W W' := hE
  refine ⟨_, rfl, ⟨_, _, _, [], [] ++ (p1 ++ (p2)), [], hW', trodAll_mk1 (shut_bool Tryz.underlying4 true), trodAll_mk3 (shut_int Tryz.underlying3 wn) (Below.trod laidOut (by kernel_rfl) (of_decide_eq_true (by kernel_rfl)) k1 bel hl1) (Below.trod laidOut (by kernel_rfl) (of_decide_eq_true (by kernel_rfl)) k2 bel (fun y hy => hl2 y (by simpa using hy))), rfl, bel.frame _, fun h => by cases h⟩⟩
theorem puzzlesModels_holds : Rows.PuzzlesModelsSaid :=
  OpenClaim.holds_of_wide 3 Tryz.f3 rfl rfl rfl rfl rfl rfl rfl ⟨rfl, rfl, rfl, rfl, rfl⟩ rfl rfl rfl rfl rfl (by kernel_rfl) Tryz.func3 (by kernel_rfl)
    (of_decide_eq_true (by kernel_rfl)) (by unfold Func.isWrapper; first | (rw [if_pos (by decide +kernel)]; kernel_rfl) | (rw [if_neg (by decide +kernel)]; exact ⟨rfl, rfl⟩))
    (fun os started H enc _ => law_lifted os started H enc)
theorem puzzlesModels_card_holds : Rows.PuzzlesModelsCardSaid :=
  Claim7.holds_tied_plain_at .later [] [.data] true Rows.puzzlesModelsCard.stood.harness false
    puzzlesModels_holds (fun _ h => by cases h) (by kernel_rfl) (fun _ h => by cases h) puzzlesModels_row_tie rfl ⟨rfl, rfl⟩ (by kernel_rfl) rfl
    (fun f fn hf hfn => by
      obtain rfl : f = 3 := Option.some.inj ((show Tryz.prog.funcNamed "witting/wittinglaw32.PuzzlesModels" = some 3 by kernel_rfl).symm.trans hf) |>.symm
      obtain rfl : fn = Tryz.f3 := (Option.some.inj (Tryz.func3.symm.trans hfn)).symm
      exact ⟨by kernel_rfl, fun j t ht => by
        rw [Tryz.params3] at ht
        have hm : t ∈ [3, 22, 23] := by simpa using Array.mem_of_getElem? ht
        have hall : ([3, 22, 23].all fun u => !Tryz.prog.wantsStandIn u) = true := by kernel_rfl
        exact (show Tryz.prog.wantsStandIn t = false by simpa using List.all_eq_true.1 hall t hm)⟩)
    (by kernel_rfl)
#print axioms puzzlesModels_card_holds
end Go.Proofs.YtoacdccachhjdaaGreatDoor
