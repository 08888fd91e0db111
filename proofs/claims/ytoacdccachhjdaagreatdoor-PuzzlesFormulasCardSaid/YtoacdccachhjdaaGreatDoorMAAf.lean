/- Walk: formula.compact$1, a node with two operands. (Written by gen_fmg.py.) -/
import Derived.Test.YtoacdccachhjdaaGreatDoorMAAe
namespace Wt
open Go Go.RowKit Go.Maps Go.Proofs Fm

set_option maxRecDepth 20000 in
set_option maxHeartbeats 2000000 in
theorem finish_bin {w : World} {fa : Option Addr} {fc : Nat} {l : List Nd} {W : World} {L : List Fm} {v : Value} {D : Int → Option Int} (hr : RN w fa l) (hw : Wf l) (hc : CS w fa fc l W L v D) (i : Nat) (hi : i < l.length) (hD : D i = none) (hl : l.length ≤ 1000)
    (fr : Int) (bf ba bg be : Bool) (hu : useOf (nth l i).op = (⟨true, true, bf, ba, bg, be, fr⟩, true)) (ihx : Fin w fa fc l (nth l i).x.toNat) (ihy : Fin w fa fc l (nth l i).y.toNat) :
    Calls Tryz.prog 162 #[.int .i64 (i : Int), .pointer (some ⟨w.heap.size + 5, 0, none⟩), .pointer (some ⟨w.heap.size, 0, none⟩), .pointer (some ⟨w.heap.size + 6, 0, none⟩), .pointer (some ⟨w.heap.size + 3, 0, none⟩), .pointer (some ⟨w.heap.size + 1, 0, none⟩)] W (FinPost w fa fc l i W L v D) := by
  have hok : fok (trAt l i) := fok_trAt hw _ i (Nat.lt_succ_self i) hi
  have ht := trAt_bin hw hi (by rw [hu])
  obtain ⟨hx0, hxl⟩ := hw.x_lt hi (by rw [hu])
  obtain ⟨kx, hkx⟩ := Int.eq_ofNat_of_zero_le hx0
  rw [hkx, Int.toNat_natCast] at ihx hxl
  obtain ⟨hy0, hyl⟩ := hw.y_lt hi (by rw [hu])
  obtain ⟨ky, hky⟩ := Int.eq_ofNat_of_zero_le hy0
  rw [hky, Int.toNat_natCast] at ihy hyl
  rw [hkx, hky, Int.toNat_natCast, Int.toNat_natCast] at ht
  have hnd : ndOf (addT (trAt l ky) (addT (trAt l kx) L)) (trAt l i) = { (nth l i) with x := (idx (addT (trAt l kx) L) (trAt l kx) : Int), y := (idx (addT (trAt l ky) (addT (trAt l kx) L)) (trAt l ky) : Int) } := by
    rw [ht]
    have e1 : idx (addT (trAt l ky) (addT (trAt l kx) L)) (trAt l kx) = idx (addT (trAt l kx) L) (trAt l kx) := by
      obtain ⟨M, hM⟩ := addT_pre (trAt l ky) (addT (trAt l kx) L)
      rw [hM, idx_append (addT_mem _ _)]
    show (⟨_, _, _, _, (idx _ (trAt l kx) : Int), _⟩ : Nd) = _
    rw [e1]
  have hkid : ∀ c, kid c (trAt l i) → c ∈ addT (trAt l ky) (addT (trAt l kx) L) := fun c h => by
    rw [ht] at h
    rcases (show c = trAt l kx ∨ c = trAt l ky from h) with rfl | rfl
    · exact addT_sub (addT_mem _ _)
    · exact addT_mem _ _
  have hadd : addT (trAt l i) L = put (trAt l i) (addT (trAt l ky) (addT (trAt l kx) L)) := by rw [ht]; rfl
  have HKX := Lib.hid hkx
  have HKY := Lib.hid hky
  clear hkx hx0 hky hy0
  have hrange : trAt l i ∈ (List.range l.length).map (trAt l) := List.mem_map.2 ⟨i, by simpa using hi, rfl⟩
  have hlk := hc.lookD i (igood_of (by omega))
  rw [hD] at hlk
  simp only [Option.getD_none, Option.isSome_none] at hlk
  have c1 := hc.cd
  have c2 := hc.cf
  have c3 := hc.cg
  have c4 := hc.cn
  have c5 := hc.co
  have HL := Lib.hid hlk
  have HD := Lib.hid hD
  have HU := Lib.hid hu
  have HT := Lib.hid ht
  have HN := Lib.hid hnd
  have HA := Lib.hid hadd
  have HK := Lib.hid hkid
  have HVB := Lib.hid hc.vb
  have HC := Lib.hid hc
  have Hihx := Lib.hid ihx
  clear ihx
  have Hihy := Lib.hid ihy
  clear ihy
  clear hlk hD hu ht hnd hadd hkid
  obtain ⟨i0, hi1, hz0, hz1, hz2⟩ := info_parts node_info
  have hsz := hc.sz
  obtain ⟨b, off, rfl, hb, n0, n1, n2, n3, n4, n5⟩ := (hr.ext hc.ext).get hi
  clear hr hw hc
  go_enter Tryz.func162, Tryz.ntmps162
  go_wp2_with (at_lookup; refine wpList_look_on _ rfl _ _ _ rfl _ rfl _ rfl _ HL.out ?_)
  refine (uses_any _ _ _ HU.out _).mono ?_
  rintro e w1 ⟨rfl, hE⟩
  dsimp only
  have hE0 : Ext W w1 := ((Ext.refl W).alloc _).trans hE
  have hcw := HC.out.ext' hE0
  have hszw := hcw.sz
  have qx : W.heap.size < w1.heap.size := by have := Ext.size hE; simp at this; omega
  have hx := (NdAt.new W (nth l i) 109).ext hE
  have hxf : ∀ o, w1.frozen? ⟨W.heap.size, o, none⟩ = false := fun o => by
    rw [World.frozen?_of_block (w := W.alloc (.cells #[.int .i64 (nth l i).op, .int .i64 (nth l i).i, .int .i64 (nth l i).e, .int .i64 (nth l i).g, .int .i64 (nth l i).x, .int .i64 (nth l i).y] 109)) (hE.block W.heap.size (by simp))]; simp
  clear c1 c2 c3 c4 c5 n0 n1 n2 n3 n4 n5
  by_cases hm : trAt l i ∈ (addT (trAt l ky) (addT (trAt l kx) L))
  · have HM := Lib.hid hm
    clear hm
    have HCU := Lib.hid (hcw.ext' ((Ext.refl w1).alloc (.cells #[.bool true, .bool true, .bool bf, .bool ba, .bool bg, .bool be, .int .i64 fr] 138)))
    have HFU := Lib.hid (((Fr.refl w.heap.size v W).ext hE0).ext ((Ext.refl w1).alloc (.cells #[.bool true, .bool true, .bool bf, .bool ba, .bool bg, .bool be, .int .i64 fr] 138)))
    have HXU := Lib.hid (hx.ext ((Ext.refl w1).alloc (.cells #[.bool true, .bool true, .bool bf, .bool ba, .bool bg, .bool be, .int .i64 fr] 138)))
    have HXB0 : Hid (some W.heap.size ≠ v.ownBlock) := fun e => by have := (HVB.out _ e.symm).2; omega
    have HUB0 : Hid (some w1.heap.size ≠ v.ownBlock) := fun e => by have := (HVB.out _ e.symm).2; omega
    have p4 := hcw.cn
    have p6 := hcw.cg
    have p3 : w.heap.size + 3 < w1.heap.size := by omega
    have p7 : w.heap.size + 6 < w1.heap.size := by omega
    have x4 := hx.2.2.2.2.1
    rw [HKX.out] at x4
    clear hcw hx
    go_wp2_with (first
      | (go_at_call 162
         refine (Hihx.out _ _ _ _ HCU.out).mono ?_
         rintro e w2 ⟨v1, D1, rfl, hc2, hf2, hj2⟩
         clear Hihx
         have HKB := Lib.hid (hf2.keep W.heap.size (by omega) (by simp; omega) HXB0.out)
         have HUB := Lib.hid (hf2.keep w1.heap.size (by omega) (by simp) HUB0.out)
         have hx2 := HXU.out.keep HKB.out
         have hxf2 : ∀ o, w2.frozen? ⟨W.heap.size, o, none⟩ = false := fun o => by rw [World.frozen?_of_block (w := w1.alloc (.cells #[.bool true, .bool true, .bool bf, .bool ba, .bool bg, .bool be, .int .i64 fr] 138)) HKB.out, World.frozen?_of_block (w := w1) (((Ext.refl w1).alloc (.cells #[.bool true, .bool true, .bool bf, .bool ba, .bool bg, .bool be, .int .i64 fr] 138)).block _ qx)]; exact hxf o
         have hub : w2.cell? ⟨w1.heap.size, 1, none⟩ = some (.bool true) := by rw [World.cell?_of_block (w := w1.alloc (.cells #[.bool true, .bool true, .bool bf, .bool ba, .bool bg, .bool be, .int .i64 fr] 138)) HUB.out]; simp
         have r4 := hc2.cn
         have r6 := hc2.cg
         have bx1 : w1.heap.size ≠ W.heap.size := by omega
         have bx2 : w.heap.size + 3 ≠ W.heap.size := by omega
         have bx3 : w.heap.size + 6 ≠ W.heap.size := by omega
         have HX2 := Lib.hid hx2
         have HF2 := Lib.hid (HFU.out.trans hf2)
         have HC2 := Lib.hid hc2
         have HJ2 := Lib.hid hj2
         have HXB1 := Lib.hid (hf2.xb (b := W.heap.size) (by simp; omega) HXB0.out)
         obtain ⟨z0, z1, z2, z3, z4, z5⟩ := hx2
         rw [HKY.out] at z5
         have hs2 : W.heap.size < w2.heap.size := Nat.lt_of_lt_of_le (show W.heap.size < (w1.alloc (.cells #[.bool true, .bool true, .bool bf, .bool ba, .bool bg, .bool be, .int .i64 fr] 138)).heap.size by simp; omega) hf2.size
         have HCS := Lib.hid (HC2.out.setBox (b := W.heap.size) (by omega) HXB1.out 4 (.int .i64 (idx (addT (trAt l kx) L) (trAt l kx) : Int)))
         clear hf2 hc2 hj2 p4 p6 x4)
      | (go_at_call 162
         refine (Hihy.out _ _ _ _ HCS.out).mono ?_
         rintro e w3 ⟨v2, D2, rfl, hc3, hf3, hj3⟩
         clear Hihy
         have HKB3 := Lib.hid (hf3.keep W.heap.size (by omega) (by simpa [World.setCell] using hs2) HXB1.out)
         have hx3 := (HX2.out.setX (idx (addT (trAt l kx) L) (trAt l kx) : Int)).keep HKB3.out
         have hxf3 : ∀ o, w3.frozen? ⟨W.heap.size, o, none⟩ = false := fun o => by rw [World.frozen?_of_block (w := w2.setCell ⟨W.heap.size, 4, none⟩ (.int .i64 (idx (addT (trAt l kx) L) (trAt l kx) : Int))) HKB3.out, World.frozen?_setCell]; exact hxf2 o
         clear z0 z1 z2 z3 z4 z5 r4 r6 hub
         have r4 := hc3.cn
         have HX3 := Lib.hid hx3
         obtain ⟨z0, z1, z2, z3, z4, z5⟩ := hx3
         have HXB := Lib.hid (hf3.xb (b := W.heap.size) (by simpa [World.setCell] using hs2) HXB1.out)
         have HCT := Lib.hid (hc3.setBox (b := W.heap.size) (by omega) HXB.out 5 (.int .i64 (idx (addT (trAt l ky) (addT (trAt l kx) L)) (trAt l ky) : Int)))
         have HX := Lib.hid (HX3.out.setY (idx (addT (trAt l ky) (addT (trAt l kx) L)) (trAt l ky) : Int))
         have HFR := Lib.hid (((HF2.out.setNew (b := W.heap.size) (Nat.le_refl _) 4 (.int .i64 (idx (addT (trAt l kx) L) (trAt l kx) : Int))).trans hf3).setNew (b := W.heap.size) (Nat.le_refl _) 5 (.int .i64 (idx (addT (trAt l ky) (addT (trAt l kx) L)) (trAt l ky) : Int)))
         have HDD : Hid (D2 (i : Int) = none) := (hj3 i (by omega)).trans ((HJ2.out i (by omega)).trans HD.out)
         have HJ : Hid (Abv i D2 D) := fun j hj => (hj3 j (by omega)).trans (HJ2.out j (by omega))
         clear hc3 hf3 hj3)
      | (at_lookup
         generalize w3.setCell ⟨W.heap.size, 5, none⟩ (.int .i64 (idx (addT (trAt l ky) (addT (trAt l kx) L)) (trAt l ky) : Int)) = WT at HCT HX HFR ⊢
         have hcT := HCT.out
         have d1 := hcT.cd
         have d4 := hcT.cn
         have d5 := hcT.co
         have f5 := hcT.fz
         obtain ⟨x0, x1, x2, x3, x4, x5⟩ := HX.out
         have HLF := Lib.hid (hcT.lookFound hl hok HK.out HN.out HM.out)
         refine wpList_look_on _ rfl _ _ 158 rfl _ rfl _ rfl _ HLF.out ?_)
      | (at_mapUpdate
         refine wpList_upd_on _ rfl _ _ _ 159 rfl _ rfl _ rfl _ rfl _ (HCT.out.mD.ins int_keyed' Tryz.underlying159 key_int i_inj _ (igood_of (by omega)) HDD.out _) ?_
         intro W2 hW2))
    go_ret
    unfold FinPost
    rw [HA.out, put_of_mem HM.out]
    exact ⟨_, _, rfl, HCT.out.done hW2.1 hW2.2 (by omega) (by simpa using hi) (by simpa using HM.out) (by simp), HFR.out.trans (HCT.out.done_fr hW2.2), HJ.out.ins _⟩
  · have HM := Lib.hid hm
    clear hm
    have HCU := Lib.hid (hcw.ext' ((Ext.refl w1).alloc (.cells #[.bool true, .bool true, .bool bf, .bool ba, .bool bg, .bool be, .int .i64 fr] 138)))
    have HFU := Lib.hid (((Fr.refl w.heap.size v W).ext hE0).ext ((Ext.refl w1).alloc (.cells #[.bool true, .bool true, .bool bf, .bool ba, .bool bg, .bool be, .int .i64 fr] 138)))
    have HXU := Lib.hid (hx.ext ((Ext.refl w1).alloc (.cells #[.bool true, .bool true, .bool bf, .bool ba, .bool bg, .bool be, .int .i64 fr] 138)))
    have HXB0 : Hid (some W.heap.size ≠ v.ownBlock) := fun e => by have := (HVB.out _ e.symm).2; omega
    have HUB0 : Hid (some w1.heap.size ≠ v.ownBlock) := fun e => by have := (HVB.out _ e.symm).2; omega
    have p4 := hcw.cn
    have p6 := hcw.cg
    have p3 : w.heap.size + 3 < w1.heap.size := by omega
    have p7 : w.heap.size + 6 < w1.heap.size := by omega
    have x4 := hx.2.2.2.2.1
    rw [HKX.out] at x4
    clear hcw hx
    go_wp2_with (first
      | (go_at_call 162
         refine (Hihx.out _ _ _ _ HCU.out).mono ?_
         rintro e w2 ⟨v1, D1, rfl, hc2, hf2, hj2⟩
         clear Hihx
         have HKB := Lib.hid (hf2.keep W.heap.size (by omega) (by simp; omega) HXB0.out)
         have HUB := Lib.hid (hf2.keep w1.heap.size (by omega) (by simp) HUB0.out)
         have hx2 := HXU.out.keep HKB.out
         have hxf2 : ∀ o, w2.frozen? ⟨W.heap.size, o, none⟩ = false := fun o => by rw [World.frozen?_of_block (w := w1.alloc (.cells #[.bool true, .bool true, .bool bf, .bool ba, .bool bg, .bool be, .int .i64 fr] 138)) HKB.out, World.frozen?_of_block (w := w1) (((Ext.refl w1).alloc (.cells #[.bool true, .bool true, .bool bf, .bool ba, .bool bg, .bool be, .int .i64 fr] 138)).block _ qx)]; exact hxf o
         have hub : w2.cell? ⟨w1.heap.size, 1, none⟩ = some (.bool true) := by rw [World.cell?_of_block (w := w1.alloc (.cells #[.bool true, .bool true, .bool bf, .bool ba, .bool bg, .bool be, .int .i64 fr] 138)) HUB.out]; simp
         have r4 := hc2.cn
         have r6 := hc2.cg
         have bx1 : w1.heap.size ≠ W.heap.size := by omega
         have bx2 : w.heap.size + 3 ≠ W.heap.size := by omega
         have bx3 : w.heap.size + 6 ≠ W.heap.size := by omega
         have HX2 := Lib.hid hx2
         have HF2 := Lib.hid (HFU.out.trans hf2)
         have HC2 := Lib.hid hc2
         have HJ2 := Lib.hid hj2
         have HXB1 := Lib.hid (hf2.xb (b := W.heap.size) (by simp; omega) HXB0.out)
         obtain ⟨z0, z1, z2, z3, z4, z5⟩ := hx2
         rw [HKY.out] at z5
         have hs2 : W.heap.size < w2.heap.size := Nat.lt_of_lt_of_le (show W.heap.size < (w1.alloc (.cells #[.bool true, .bool true, .bool bf, .bool ba, .bool bg, .bool be, .int .i64 fr] 138)).heap.size by simp; omega) hf2.size
         have HCS := Lib.hid (HC2.out.setBox (b := W.heap.size) (by omega) HXB1.out 4 (.int .i64 (idx (addT (trAt l kx) L) (trAt l kx) : Int)))
         clear hf2 hc2 hj2 p4 p6 x4)
      | (go_at_call 162
         refine (Hihy.out _ _ _ _ HCS.out).mono ?_
         rintro e w3 ⟨v2, D2, rfl, hc3, hf3, hj3⟩
         clear Hihy
         have HKB3 := Lib.hid (hf3.keep W.heap.size (by omega) (by simpa [World.setCell] using hs2) HXB1.out)
         have hx3 := (HX2.out.setX (idx (addT (trAt l kx) L) (trAt l kx) : Int)).keep HKB3.out
         have hxf3 : ∀ o, w3.frozen? ⟨W.heap.size, o, none⟩ = false := fun o => by rw [World.frozen?_of_block (w := w2.setCell ⟨W.heap.size, 4, none⟩ (.int .i64 (idx (addT (trAt l kx) L) (trAt l kx) : Int))) HKB3.out, World.frozen?_setCell]; exact hxf2 o
         clear z0 z1 z2 z3 z4 z5 r4 r6 hub
         have r4 := hc3.cn
         have HX3 := Lib.hid hx3
         obtain ⟨z0, z1, z2, z3, z4, z5⟩ := hx3
         have HXB := Lib.hid (hf3.xb (b := W.heap.size) (by simpa [World.setCell] using hs2) HXB1.out)
         have HCT := Lib.hid (hc3.setBox (b := W.heap.size) (by omega) HXB.out 5 (.int .i64 (idx (addT (trAt l ky) (addT (trAt l kx) L)) (trAt l ky) : Int)))
         have HX := Lib.hid (HX3.out.setY (idx (addT (trAt l ky) (addT (trAt l kx) L)) (trAt l ky) : Int))
         have HFR := Lib.hid (((HF2.out.setNew (b := W.heap.size) (Nat.le_refl _) 4 (.int .i64 (idx (addT (trAt l kx) L) (trAt l kx) : Int))).trans hf3).setNew (b := W.heap.size) (Nat.le_refl _) 5 (.int .i64 (idx (addT (trAt l ky) (addT (trAt l kx) L)) (trAt l ky) : Int)))
         have HDD : Hid (D2 (i : Int) = none) := (hj3 i (by omega)).trans ((HJ2.out i (by omega)).trans HD.out)
         have HJ : Hid (Abv i D2 D) := fun j hj => (hj3 j (by omega)).trans (HJ2.out j (by omega))
         clear hc3 hf3 hj3)
      | (at_lookup
         generalize w3.setCell ⟨W.heap.size, 5, none⟩ (.int .i64 (idx (addT (trAt l ky) (addT (trAt l kx) L)) (trAt l ky) : Int)) = WT at HCT HX HFR ⊢
         have hcT := HCT.out
         have d1 := hcT.cd
         have d4 := hcT.cn
         have d5 := hcT.co
         have f5 := hcT.fz
         obtain ⟨x0, x1, x2, x3, x4, x5⟩ := HX.out
         have q1 : w.heap.size + 1 < WT.heap.size := by have := hcT.sz; omega
         have q3 : w.heap.size + 3 < WT.heap.size := by have := hcT.sz; omega
         have qb : W.heap.size < WT.heap.size := World.block_lt_of_cell? _ _ x0
         obtain ⟨va, vc, hv, hrn⟩ := RN_of_own (l := encL (addT (trAt l ky) (addT (trAt l kx) L))) (by rw [encL_length]; exact hcT.own) (by rw [encL_length]; have := hcT.len; omega)
         rw [encL_length] at hv
         subst hv
         have HLF := Lib.hid (hcT.lookNew hl hok HK.out HN.out HM.out)
         refine wpList_look_on _ rfl _ _ 158 rfl _ rfl _ rfl _ HLF.out ?_)
      | (at_builtin
         refine wpList_append_own_at _ rfl _ _ 44 rfl (w.heap.size + 7) 109 i0 _ 6 48 Tryz.underlying44 hi1 hz0 hz1 hz2 rfl (by decide) _ _ _ rfl (HCT.out.own.alloc _) ⟨WT.heap.size, 0, none⟩ 1 1 (ndCells { (nth l i) with x := (idx (addT (trAt l kx) L) (trAt l kx) : Int), y := (idx (addT (trAt l ky) (addT (trAt l kx) L)) (trAt l ky) : Int) }) rfl rfl ?c1 ?c2 ?c3 ?c4 ?c5 ?_))
    case c1 =>
      intro j u hj
      have hjl : j < 6 := by have := (List.getElem?_eq_some_iff.1 hj).1; simpa [ndCells] using this
      rw [← hj]
      rcases (show j = 0 ∨ j = 1 ∨ j = 2 ∨ j = 3 ∨ j = 4 ∨ j = 5 by omega) with rfl | rfl | rfl | rfl | rfl | rfl <;> simp [ndCells]
    case c2 =>
      intro u hu'
      simp [ndCells] at hu'
      rcases hu' with rfl | rfl | rfl | rfl | rfl | rfl <;> rfl
    case c3 => have := HCT.out.len; unfold maxLen; omega
    case c4 => have := HCT.out.len; omega
    case c5 => have := HCT.out.sz; simp; omega
    intro v' W3 hown hgr hnil hloc
    have hlen := HCT.out.len
    have hgd := fok_fields hok (L := (addT (trAt l ky) (addT (trAt l kx) L))) (by omega) HK.out
    rw [HN.out] at hgd
    generalize HWN : WT.alloc (.cells (ndCells { (nth l i) with x := (idx (addT (trAt l kx) L) (trAt l kx) : Int), y := (idx (addT (trAt l ky) (addT (trAt l kx) L)) (trAt l ky) : Int) }).toArray 109) = WN
    have hE2 : Ext WT WN := by rw [← HWN]; exact (Ext.refl _).alloc _
    have hgr2 : WN.grownBy W3 (Value.slice va ((addT (trAt l ky) (addT (trAt l kx) L))).length vc).ownBlock := by rw [← HWN]; exact hgr
    have hloc1 : v'.ownBlock = (Value.slice va ((addT (trAt l ky) (addT (trAt l kx) L))).length vc).ownBlock ∨ v'.ownBlock = some (WT.heap.size + 1) := by simpa using hloc
    have hszN : WT.heap.size ≤ WN.heap.size := hE2.size
    clear hgr hloc
    have hc2 := HCT.out.ext' hE2
    have hvb := HCT.out.vb
    have r1 := hgr2.cell hc2.co (by intro e; have := (hvb _ e.symm).1; simp at this)
    have r3 := hgr2.cell hc2.cn (by intro e; have := (hvb _ e.symm).1; simp at this)
    have g1 : W3.frozen? ⟨w.heap.size + 1, 0, none⟩ = false := by
      rw [World.frozen?_of_block (hgr2.block (w.heap.size + 1) (by have := hc2.sz; omega) (by intro e; have := (hvb _ e.symm).1; omega))]; exact hc2.fz
    have y0 := hgr2.cell (hE2.cell x0) HXB.out
    have y1 := hgr2.cell (hE2.cell x1) HXB.out
    have y2 := hgr2.cell (hE2.cell x2) HXB.out
    have y3 := hgr2.cell (hE2.cell x3) HXB.out
    have y4 := hgr2.cell (hE2.cell x4) HXB.out
    have y5 := hgr2.cell (hE2.cell x5) HXB.out
    have hmN3 : MapOn ndGood Nd.val (W3.setCell ⟨w.heap.size + 1, 0, none⟩ v') (w.heap.size + 2) (fun n => if n ∈ encL ((addT (trAt l ky) (addT (trAt l kx) L))) then some ((encL ((addT (trAt l ky) (addT (trAt l kx) L)))).idxOf n : Int) else none) :=
      hc2.mN.kept (by
        rw [Below.heap_setCell _ _ _ _ (by simp)]
        exact hgr2.block _ (by have := hc2.sz; omega) (by intro e; have := (hvb _ e.symm).1; omega))
    have hni : { (nth l i) with x := (idx (addT (trAt l kx) L) (trAt l kx) : Int), y := (idx (addT (trAt l ky) (addT (trAt l kx) L)) (trAt l ky) : Int) } ∉ encL ((addT (trAt l ky) (addT (trAt l kx) L))) := fun hh => HM.out ((mem_encL HCT.out.ok HCT.out.cl hok HK.out).1 (by rw [HN.out]; exact hh))
    have hni2 : (if { (nth l i) with x := (idx (addT (trAt l kx) L) (trAt l kx) : Int), y := (idx (addT (trAt l ky) (addT (trAt l kx) L)) (trAt l ky) : Int) } ∈ encL ((addT (trAt l ky) (addT (trAt l kx) L))) then some ((encL ((addT (trAt l ky) (addT (trAt l kx) L)))).idxOf { (nth l i) with x := (idx (addT (trAt l kx) L) (trAt l kx) : Int), y := (idx (addT (trAt l ky) (addT (trAt l kx) L)) (trAt l ky) : Int) } : Int) else none) = none := if_neg hni
    have hloc2 : v'.ownBlock = (Value.slice va ((addT (trAt l ky) (addT (trAt l kx) L))).length vc).ownBlock ∨ ∀ g, v'.ownBlock = some g → WN.heap.size ≤ g := by
      rcases hloc1 with e | e
      · exact .inl e
      · refine .inr fun g hg => ?_
        rw [e] at hg; cases hg
        rw [← HWN]; simp
    have hown2 : W3.ownsRow (w.heap.size + 7) 109 6 v' (((addT (trAt l ky) (addT (trAt l kx) L))).length + 1) (rowN (encL ((addT (trAt l ky) (addT (trAt l kx) L)))) ++ ndCells (ndOf ((addT (trAt l ky) (addT (trAt l kx) L))) (trAt l i))) := by rw [HN.out]; exact hown
    have hlen3 : (encL ((addT (trAt l ky) (addT (trAt l kx) L))) ++ [{ (nth l i) with x := (idx (addT (trAt l kx) L) (trAt l kx) : Int), y := (idx (addT (trAt l ky) (addT (trAt l kx) L)) (trAt l ky) : Int) }]).length = ((addT (trAt l ky) (addT (trAt l kx) L))).length + 1 := by simp
    obtain ⟨va', vc', hv', _⟩ := RN_of_own (l := encL ((addT (trAt l ky) (addT (trAt l kx) L))) ++ [{ (nth l i) with x := (idx (addT (trAt l kx) L) (trAt l kx) : Int), y := (idx (addT (trAt l ky) (addT (trAt l kx) L)) (trAt l ky) : Int) }]) (by rw [hlen3, rowN_append]; simpa [rowN] using hown) (by rw [hlen3]; omega)
    rw [hlen3] at hv'
    have HNI := Lib.hid hni2
    have HO := Lib.hid hown2
    have HLO := Lib.hid hloc2
    have HGR := Lib.hid hgr2
    have HC2 := Lib.hid hc2
    have HMN := Lib.hid hmN3
    have HE2 := Lib.hid hE2
    clear hni2 hown2 hloc2 hgr2 hc2 hmN3 hown hloc1 hnil hE2 x0 x1 x2 x3 x4 x5 d1 d4 d5 f5 hni
    subst hv'
    have n13 : W.heap.size ≠ w.heap.size + 1 := by omega
    go_wp2_with (first | (at_mapUpdate; refine wpList_upd_on _ rfl _ _ _ 158 rfl _ rfl _ rfl _ rfl _ (HMN.out.ins node_keyed Tryz.underlying158 key_node nd_inj { (nth l i) with x := (idx (addT (trAt l kx) L) (trAt l kx) : Int), y := (idx (addT (trAt l ky) (addT (trAt l kx) L)) (trAt l ky) : Int) } hgd HNI.out _) ?_; intro W4 hW4; obtain ⟨hm4, hg4⟩ := hW4; have hp := HC2.out.push HM.out HK.out hok hrange HO.out HGR.out HLO.out (by rw [HN.out]; exact hm4) hg4; obtain ⟨hc4, hf4⟩ := hp; have s5 := hc4.cd; clear r1 r3 g1 y0 y1 y2 y3 y4 y5) | (at_mapUpdate; refine wpList_upd_on _ rfl _ _ _ 159 rfl _ rfl _ rfl _ rfl _ (hc4.mD.ins int_keyed' Tryz.underlying159 key_int i_inj _ (igood_of (by omega)) HDD.out _) ?_; intro W5 hW5))
    go_ret
    unfold FinPost
    have hput : addT (trAt l i) L = (addT (trAt l ky) (addT (trAt l kx) L)) ++ [trAt l i] := by rw [HA.out]; unfold put; rw [if_neg HM.out]
    rw [hput]
    have hidx : idx ((addT (trAt l ky) (addT (trAt l kx) L)) ++ [trAt l i]) (trAt l i) = ((addT (trAt l ky) (addT (trAt l kx) L))).length := idx_new HM.out
    rw [hidx]
    refine ⟨_, _, rfl, hc4.done hW5.1 hW5.2 (by omega) (by simpa using hi) (by simp) (by simp only [Int.toNat_natCast]; rw [hidx]), ?_, HJ.out.ins _⟩
    exact (HFR.out.ext HE2.out).trans (hf4.trans (hc4.done_fr hW5.2))
end Wt
