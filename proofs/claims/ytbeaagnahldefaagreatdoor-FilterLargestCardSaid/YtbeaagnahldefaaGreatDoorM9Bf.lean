/- Walk: wittingref17.Sets (printed by gen_r17f.py). -/
import Derived.Test.YtbeaagnahldefaaGreatDoorM9Bd
import Derived.Test.YtbeaagnahldefaaGreatDoorM9Be
import Derived.Test.YtbeaagnahldefaaGreatDoorM9Ao
import Derived.Deep.RegionHeld3
import Derived.Test.YtbeaagnahldefaaGreatDoorM9Av
import Derived.Test.YtbeaagnahldefaaGreatDoorM9Aw
import Derived.Test.YtbeaagnahldefaaGreatDoorM9As
namespace Wt
open Go Go.RowKit Go.Maps Go.Proofs Fm

theorem nd_ok {l : List Nd} (hw : Wf l) {k : Nat} (hk : k < l.length) : NdOk (nth l k) := by
  obtain ⟨h1, _, _, h4, h5⟩ := nodeErr_ok (hw k hk)
  exact ndOk_of h1 h4 h5
theorem GS.take {w0 : World} {f : Nat → BitVec 64} {k : Nat} {v : Value} {wr : World} (h : GS w0 f k v wr) (_hk : k ≤ 1000) {q : Nat} (hq : q < k) : ∃ g c, v = .slice (some ⟨g, 0, none⟩) k c ∧ wr.cell? ⟨g, q, none⟩ = some (.int .u64 (un (f q))) := by
  rcases h.own.2 with ⟨_, h0⟩ | ⟨g, cap, cur, rfl, rest⟩
  · omega
  · refine ⟨g, cap, rfl, ?_⟩
    rw [h.own.cellAt q (by omega), List.getElem?_map]
    simp [hq, uv]
set_option maxRecDepth 20000 in
set_option maxHeartbeats 8000000 in
theorem r17Sets_any (M : Mo) (va ra : Option Addr) (vc rc : Nat) (fa : Option Addr) (fc : Nat) (f : List Nd) (w : World) (hm : RM w va ra M) (hf : RN w fa f) :
    Calls Tryz.prog 31 #[.agg #[.int .i64 M.worlds, .slice va M.val.length vc, .slice ra M.rel.length rc], .slice fa f.length fc] w fun e w' => RetS M f e w w' := by
  have hE0 := (Ext.refl w).alloc (.cells #[.int .i64 M.worlds, .slice va M.val.length vc, .slice ra M.rel.length rc] 25)
  have HC := Lib.hid (r17Check_any M va ra vc rc fa fc f _ (hm.ext hE0) (hf.ext hE0))
  have hbx := MoBox.new w M.worlds M.val M.rel va vc ra rc 25
  have HBX := Lib.hid hbx
  obtain ⟨m0, m1, m2⟩ := hbx
  have HE := Lib.hid hE0
  have HM := Lib.hid hm
  have HF := Lib.hid hf
  clear hE0 hm hf
  by_cases h : reqErr M f = 0
  · obtain ⟨h1, h2, _, _⟩ := reqErr_ok h
    obtain ⟨N, ok⟩ := moCheck_ok h1
    obtain ⟨hf0, hf200, hw⟩ := fCheck_ok.1 h2
    have HS : Hid (setsOf M f = (List.range f.length).map (fun q => (semT M (trAt f q)).1)) := if_pos h
    have HR := Lib.hid h
    have HW := Lib.hid hw
    have OK := Lib.hid ok
    have HFS : Hid (∀ k, k < f.length → fitsOf M (fSub f k) = (semT M (trAt f k)).2) := fun k hk => fits_sem ok.rel ok.val h2 hk
    rename_i x1 x2
    clear h h1 h2 hw ok x1 x2
    obtain ⟨i0, hi1, hz0, hz1, hz2⟩ := info_parts u64_info
    go_enter Tryz.func31, Tryz.ntmps31
    go_wp2_with (go_at_call 61; refine HC.out.mono ?_; rintro e w1 ⟨rfl, hE1⟩; rw [HR.out]; have HE1 := Lib.hid hE1; clear hE1 m0 m1 m2)
    have hb1 : w.heap.size < w1.heap.size := by have := HE1.out.size; simp at this; omega
    have HX1 := Lib.hid (HBX.out.ext HE1.out)
    go_loopw [7, 8] (fun v i wr => ∃ k : Nat, k ≤ f.length ∧ i = .int .i64 k ∧ GSE w1 (fun q => (semT M (trAt f q)).1) k v wr) (fun _ i _ => f.length - (RowKit.intOf i).toNat)
    case atStart => exact ⟨0, Nat.zero_le _, rfl, Ext.refl _, World.ownsRow_nil _ _ _ _⟩
    case round =>
      obtain ⟨k, hk, rfl, hgs⟩ := hrel
      have hgs : GS w1 _ k u7 wr := hgs
      have HGS := Lib.hid hgs
      by_cases hlt : k < f.length
      · clear hgs
        have HEr : Hid (Ext w wr) := (HE.out.trans HE1.out).trans HGS.out.e
        have HCF := Lib.hid (r17fits_any M va ra vc rc fa fc f (k : Int) wr (HM.out.ext HEr.out) (HF.out.ext HEr.out))
        have HFK := Lib.hid (HFS.out k hlt)
        obtain ⟨p0, p1, p2'⟩ := HX1.out.ext HGS.out.e
        cases hfit : (semT M (trAt f k)).2
        · have hz : (semT M (trAt f k)).1 = 0#64 := semT_false M _ hfit
          have HFIT := Lib.hid hfit
          have HZ := Lib.hid hz
          have HONE : Hid (∀ u ∈ [Value.int .u64 0], u.oneCell' = true) := fun u hu => by
            rcases List.mem_singleton.1 hu with rfl
            rfl
          clear hfit hz
          go_wp2_with (first | (go_at_call 62; refine HCF.out.mono ?_; rintro e w2 ⟨rfl, hE2⟩; rw [HFK.out, HFIT.out]; have HPA : Hid (∀ o, GS w1 (fun q => (semT M (trAt f q)).1) k u7 (w2.alloc o)) := (fun o => HGS.out.ext' (hE2.alloc o)); have hsz1 : w1.heap.size ≤ w2.heap.size := Nat.le_trans HGS.out.e.size hE2.size) | (at_builtin; refine wpList_append_lies _ rfl _ _ 22 rfl w1.heap.size 39 i0 _ 1 8 Tryz.underlying22 hi1 hz0 hz1 hz2 rfl (by decide) u7 k _ rfl (HPA.out _).own ⟨w2.heap.size, 0, none⟩ 1 1 [.int .u64 0] rfl rfl (cell_one_new _ _ _) HONE.out (by decide) (by unfold maxLen; omega) (by omega) (Nat.le_trans hsz1 (by simp)) (w2.heap.size + 1) (by simp) ?_; intro gx cap W1 hown hgrow hat hlt2; have hpush := (HPA.out _).push (v' := .slice (some ⟨gx, 0, none⟩) (k + 1) cap) (by rw [HZ.out]; exact hown) hgrow; have HPU := Lib.hid hpush; clear hpush hown hgrow hat))
          go_roundw
          case rel => exact ⟨k + 1, hlt, by go_num, HPU.out⟩
          case measure => simp [RowKit.intOf]; omega
        · have HFIT := Lib.hid hfit
          have ht : fok (trAt f k) := fok_trAt HW.out _ k (Nat.lt_succ_self k) hlt
          obtain ⟨b, off, rfl, hb, n0, n1, n2, n3, n4, n5⟩ := HF.out.get hlt
          have hbw := hb
          replace n0 := HEr.out.cell n0
          replace n1 := HEr.out.cell n1
          replace n2 := HEr.out.cell n2
          replace n3 := HEr.out.cell n3
          replace n4 := HEr.out.cell n4
          replace n5 := HEr.out.cell n5
          replace hb := Nat.lt_of_lt_of_le hb HEr.out.size
          cases hux : (useOf (nth f k).op).1.x
          · have huy : (useOf (nth f k).op).1.y = false := by
              cases hy : (useOf (nth f k).op).1.y
              · rfl
              · have := useOf_yx (nth f k).op hy
                rw [hux] at this; cases this
            have hsem : semT M (trAt f k) = valN M (nth f k).op (nth f k).i (nth f k).g 0#64 0#64 := by rw [trAt_leaf hlt hux]; rfl
            have hv2 : (valN M (nth f k).op (nth f k).i (nth f k).g 0#64 0#64).2 = true := by rw [← hsem]; exact hfit
            have hnd : NdOk (nth f k) := nd_ok HW.out hlt
            have HSEM := Lib.hid hsem
            have HONE : Hid (∀ u ∈ [Value.int .u64 (un (valN M (nth f k).op (nth f k).i (nth f k).g 0#64 0#64).1)], u.oneCell' = true) := fun u hu => by
              rcases List.mem_singleton.1 hu with rfl
              rfl
            have HUX := Lib.hid hux
            have HUY := Lib.hid huy
            have HV2 := Lib.hid hv2
            have HND := Lib.hid hnd
            clear hsem hv2 hnd hux huy ht hfit
            go_wp2_with (first | (go_at_call 62; refine HCF.out.mono ?_; rintro e w2 ⟨rfl, hE2⟩; rw [HFK.out, HFIT.out]; have q0 := hE2.cell p0; have q1 := hE2.cell p1; have q2 := hE2.cell p2'; have e0 := hE2.cell n0; have e1 := hE2.cell n1; have e2 := hE2.cell n2; have e3 := hE2.cell n3; have e4 := hE2.cell n4; have e5 := hE2.cell n5; have hb2 := Nat.lt_of_lt_of_le hb hE2.size; have HE2 := Lib.hid hE2; clear n0 n1 n2 n3 n4 n5 p0 p1 p2') | (go_at_call 63; refine (r5X_any _ _).mono ?_; rintro _ _ ⟨rfl, rfl⟩; rw [HUX.out]) | (go_at_call 64; refine (r5Y_any _ _).mono ?_; rintro _ _ ⟨rfl, rfl⟩; rw [HUY.out]))
            have HCO := Lib.hid (r17One_any M va ra vc rc (nth f k) 0#64 0#64 w2.drew (HM.out.ext (HEr.out.trans HE2.out).drew) N OK.out HND.out HV2.out)
            have hki : (0 : Int) ≤ (k : Int) := by omega
            have hkl : (k : Int) < (f.length : Int) := by omega
            have HVB : Hid (∀ W, GS w1 (fun q => (semT M (trAt f q)).1) k u7 W → some w.heap.size ≠ (u7).ownBlock ∧ some b ≠ (u7).ownBlock) := fun W h => ⟨fun e => by have := (h.own.lt _ e.symm).1; omega, fun e => by have := (h.own.lt _ e.symm).1; omega⟩
            have HK1 : Hid (∀ w3, Ext w2.drew w3 → w3.cell? ⟨w.heap.size, 0, none⟩ = some (.int .i64 M.worlds) ∧ w3.cell? ⟨w.heap.size, 1, none⟩ = some (.slice va M.val.length vc) ∧ w3.cell? ⟨w.heap.size, 2, none⟩ = some (.slice ra M.rel.length rc) ∧ w3.cell? ⟨b, off + k * 6, none⟩ = some (.int .i64 (nth f k).op) ∧ w3.cell? ⟨b, off + k * 6 + 1, none⟩ = some (.int .i64 (nth f k).i) ∧ w3.cell? ⟨b, off + k * 6 + 2, none⟩ = some (.int .i64 (nth f k).e) ∧ w3.cell? ⟨b, off + k * 6 + 3, none⟩ = some (.int .i64 (nth f k).g) ∧ w3.cell? ⟨b, off + k * 6 + 4, none⟩ = some (.int .i64 (nth f k).x) ∧ w3.cell? ⟨b, off + k * 6 + 5, none⟩ = some (.int .i64 (nth f k).y)) := fun w3 e => ⟨e.cell q0, e.cell q1, e.cell q2, e.cell e0, e.cell e1, e.cell e2, e.cell e3, e.cell e4, e.cell e5⟩
            have HK2 : Hid (∀ w3 W1, Ext w2.drew w3 → GS w1 (fun q => (semT M (trAt f q)).1) k u7 w3 → w3.grownBy W1 (u7).ownBlock → W1.cell? ⟨w.heap.size, 0, none⟩ = some (.int .i64 M.worlds) ∧ W1.cell? ⟨w.heap.size, 1, none⟩ = some (.slice va M.val.length vc) ∧ W1.cell? ⟨w.heap.size, 2, none⟩ = some (.slice ra M.rel.length rc) ∧ W1.cell? ⟨b, off + k * 6, none⟩ = some (.int .i64 (nth f k).op) ∧ W1.cell? ⟨b, off + k * 6 + 1, none⟩ = some (.int .i64 (nth f k).i) ∧ W1.cell? ⟨b, off + k * 6 + 2, none⟩ = some (.int .i64 (nth f k).e) ∧ W1.cell? ⟨b, off + k * 6 + 3, none⟩ = some (.int .i64 (nth f k).g) ∧ W1.cell? ⟨b, off + k * 6 + 4, none⟩ = some (.int .i64 (nth f k).x) ∧ W1.cell? ⟨b, off + k * 6 + 5, none⟩ = some (.int .i64 (nth f k).y)) := by
              intro w3 W1 e hg hgr
              obtain ⟨z1, z2⟩ := HVB.out _ hg
              obtain ⟨a0, a1, a2, a3, a4, a5, a6, a7, a8⟩ := HK1.out _ e
              exact ⟨hgr.cell a0 z1, hgr.cell a1 z1, hgr.cell a2 z1, hgr.cell a3 z2, hgr.cell a4 z2, hgr.cell a5 z2, hgr.cell a6 z2, hgr.cell a7 z2, hgr.cell a8 z2⟩
            have HPA : Hid (∀ w3 o, Ext w2.drew w3 → GS w1 (fun q => (semT M (trAt f q)).1) k u7 (w3.alloc o)) := fun w3 o e => HGS.out.ext' (((HE2.out.drew).trans e).alloc o)
            have HSZ : Hid (∀ w3 o, Ext w2.drew w3 → w1.heap.size ≤ (w3.alloc o).heap.size) := fun w3 o e => (HPA.out w3 o e).e.size
            go_region_held3 (fun w' => w'.cell? ⟨w.heap.size, 0, none⟩ = some (.int .i64 M.worlds) ∧ w'.cell? ⟨w.heap.size, 1, none⟩ = some (.slice va M.val.length vc) ∧ w'.cell? ⟨w.heap.size, 2, none⟩ = some (.slice ra M.rel.length rc) ∧ w'.cell? ⟨b, off + k * 6, none⟩ = some (.int .i64 (nth f k).op) ∧ w'.cell? ⟨b, off + k * 6 + 1, none⟩ = some (.int .i64 (nth f k).i) ∧ w'.cell? ⟨b, off + k * 6 + 2, none⟩ = some (.int .i64 (nth f k).e) ∧ w'.cell? ⟨b, off + k * 6 + 3, none⟩ = some (.int .i64 (nth f k).g) ∧ w'.cell? ⟨b, off + k * 6 + 4, none⟩ = some (.int .i64 (nth f k).x) ∧ w'.cell? ⟨b, off + k * 6 + 5, none⟩ = some (.int .i64 (nth f k).y)) (first | go_keep | assumption | exact HK1.out _ (by assumption) | exact HK1.out _ (Ext.alloc (by assumption) _))
              (first | (go_at_call 65; refine HCO.out.mono ?_; rintro e w3 ⟨rfl, hE3⟩) | (refine step_append_lies _ (by rfl) _ _ 22 (by rfl) w1.heap.size 39 i0 _ 1 8 Tryz.underlying22 hi1 hz0 hz1 hz2 rfl (by decide) u7 k _ (by rfl) (HPA.out _ _ (by assumption)).own _ 1 1 [.int .u64 (un (valN M (nth f k).op (nth f k).i (nth f k).g 0#64 0#64).1)] (by rfl) (by rfl) (cell_one_new _ _ _) HONE.out (by decide) (by unfold maxLen; omega) (by omega) (HSZ.out _ _ (by assumption)) _ rfl ?_; intro gx cap W1 hown hgrow hat hlt2; have hpush := (HPA.out _ _ (by assumption)).push (v' := .slice (some ⟨gx, 0, none⟩) (k + 1) cap) (by rw [HSEM.out]; exact hown) hgrow; have k6 := HK2.out _ _ (Ext.alloc (by assumption) _) (HPA.out _ _ (by assumption)) hgrow; have HPU := Lib.hid hpush; clear hpush hown hgrow hat) | fail)
            go_wp2
            go_roundw
            case rel => exact ⟨k + 1, hlt, by go_num, HPU.out⟩
            case measure => simp [RowKit.intOf]; omega
          · cases huy : (useOf (nth f k).op).1.y
            · obtain ⟨hx0, hxl⟩ := HW.out.x_lt hlt hux
              obtain ⟨X, hX⟩ := Int.eq_ofNat_of_zero_le hx0
              rw [hX, Int.toNat_natCast] at hxl
              have hsem : semT M (trAt f k) = valN M (nth f k).op (nth f k).i (nth f k).g (semT M (trAt f X)).1 0#64 := by
                have e := hfit
                rw [trAt_un HW.out hlt hux huy, hX, Int.toNat_natCast] at e ⊢
                rcases hs : (semT M (trAt f X)).2 with _ | _
                · simp [semT, hs] at e
                · simp [semT, hs]
              have hv2 : (valN M (nth f k).op (nth f k).i (nth f k).g (semT M (trAt f X)).1 0#64).2 = true := by rw [← hsem]; exact hfit
              have hnd : NdOk (nth f k) := nd_ok HW.out hlt
              have HSEM := Lib.hid hsem
              have HONE : Hid (∀ u ∈ [Value.int .u64 (un (valN M (nth f k).op (nth f k).i (nth f k).g (semT M (trAt f X)).1 0#64).1)], u.oneCell' = true) := fun u hu => by
                rcases List.mem_singleton.1 hu with rfl
                rfl
              have HUX := Lib.hid hux
              have HUY := Lib.hid huy
              have HV2 := Lib.hid hv2
              have HND := Lib.hid hnd
              clear hsem hv2 hnd hux huy ht hfit
              obtain ⟨gg, gc, rfl, hcx⟩ := HGS.out.take (by omega) hxl
              rw [hX] at n4
              have hxi : (0 : Int) ≤ (X : Int) := by omega
              have hxk : (X : Int) < (k : Int) := by omega
              go_wp2_with (first | (go_at_call 62; refine HCF.out.mono ?_; rintro e w2 ⟨rfl, hE2⟩; rw [HFK.out, HFIT.out]; have q0 := hE2.cell p0; have q1 := hE2.cell p1; have q2 := hE2.cell p2'; have e0 := hE2.cell n0; have e1 := hE2.cell n1; have e2 := hE2.cell n2; have e3 := hE2.cell n3; have e4 := hE2.cell n4; have e5 := hE2.cell n5; have hb2 := Nat.lt_of_lt_of_le hb hE2.size; have HE2 := Lib.hid hE2; clear n0 n1 n2 n3 n4 n5 p0 p1 p2'; have d1 := hE2.cell hcx; clear hcx) | (go_at_call 63; refine (r5X_any _ _).mono ?_; rintro _ _ ⟨rfl, rfl⟩; rw [HUX.out]) | (go_at_call 64; refine (r5Y_any _ _).mono ?_; rintro _ _ ⟨rfl, rfl⟩; rw [HUY.out]))
              have HCO := Lib.hid (r17One_any M va ra vc rc (nth f k) (semT M (trAt f X)).1 0#64 w2.drew (HM.out.ext (HEr.out.trans HE2.out).drew) N OK.out HND.out HV2.out)
              rw [hX] at HCO
              have hki : (0 : Int) ≤ (k : Int) := by omega
              have hkl : (k : Int) < (f.length : Int) := by omega
              have HVB : Hid (∀ W, GS w1 (fun q => (semT M (trAt f q)).1) k (Value.slice (some ⟨gg, 0, none⟩) k gc) W → some w.heap.size ≠ ((Value.slice (some ⟨gg, 0, none⟩) k gc)).ownBlock ∧ some b ≠ ((Value.slice (some ⟨gg, 0, none⟩) k gc)).ownBlock) := fun W h => ⟨fun e => by have := (h.own.lt _ e.symm).1; omega, fun e => by have := (h.own.lt _ e.symm).1; omega⟩
              have HK1 : Hid (∀ w3, Ext w2.drew w3 → w3.cell? ⟨w.heap.size, 0, none⟩ = some (.int .i64 M.worlds) ∧ w3.cell? ⟨w.heap.size, 1, none⟩ = some (.slice va M.val.length vc) ∧ w3.cell? ⟨w.heap.size, 2, none⟩ = some (.slice ra M.rel.length rc) ∧ w3.cell? ⟨b, off + k * 6, none⟩ = some (.int .i64 (nth f k).op) ∧ w3.cell? ⟨b, off + k * 6 + 1, none⟩ = some (.int .i64 (nth f k).i) ∧ w3.cell? ⟨b, off + k * 6 + 2, none⟩ = some (.int .i64 (nth f k).e) ∧ w3.cell? ⟨b, off + k * 6 + 3, none⟩ = some (.int .i64 (nth f k).g) ∧ w3.cell? ⟨b, off + k * 6 + 4, none⟩ = some (.int .i64 (X : Int)) ∧ w3.cell? ⟨b, off + k * 6 + 5, none⟩ = some (.int .i64 (nth f k).y)) := fun w3 e => ⟨e.cell q0, e.cell q1, e.cell q2, e.cell e0, e.cell e1, e.cell e2, e.cell e3, e.cell e4, e.cell e5⟩
              have HK2 : Hid (∀ w3 W1, Ext w2.drew w3 → GS w1 (fun q => (semT M (trAt f q)).1) k (Value.slice (some ⟨gg, 0, none⟩) k gc) w3 → w3.grownBy W1 ((Value.slice (some ⟨gg, 0, none⟩) k gc)).ownBlock → W1.cell? ⟨w.heap.size, 0, none⟩ = some (.int .i64 M.worlds) ∧ W1.cell? ⟨w.heap.size, 1, none⟩ = some (.slice va M.val.length vc) ∧ W1.cell? ⟨w.heap.size, 2, none⟩ = some (.slice ra M.rel.length rc) ∧ W1.cell? ⟨b, off + k * 6, none⟩ = some (.int .i64 (nth f k).op) ∧ W1.cell? ⟨b, off + k * 6 + 1, none⟩ = some (.int .i64 (nth f k).i) ∧ W1.cell? ⟨b, off + k * 6 + 2, none⟩ = some (.int .i64 (nth f k).e) ∧ W1.cell? ⟨b, off + k * 6 + 3, none⟩ = some (.int .i64 (nth f k).g) ∧ W1.cell? ⟨b, off + k * 6 + 4, none⟩ = some (.int .i64 (X : Int)) ∧ W1.cell? ⟨b, off + k * 6 + 5, none⟩ = some (.int .i64 (nth f k).y)) := by
                intro w3 W1 e hg hgr
                obtain ⟨z1, z2⟩ := HVB.out _ hg
                obtain ⟨a0, a1, a2, a3, a4, a5, a6, a7, a8⟩ := HK1.out _ e
                exact ⟨hgr.cell a0 z1, hgr.cell a1 z1, hgr.cell a2 z1, hgr.cell a3 z2, hgr.cell a4 z2, hgr.cell a5 z2, hgr.cell a6 z2, hgr.cell a7 z2, hgr.cell a8 z2⟩
              have HPA : Hid (∀ w3 o, Ext w2.drew w3 → GS w1 (fun q => (semT M (trAt f q)).1) k (Value.slice (some ⟨gg, 0, none⟩) k gc) (w3.alloc o)) := fun w3 o e => HGS.out.ext' (((HE2.out.drew).trans e).alloc o)
              have HSZ : Hid (∀ w3 o, Ext w2.drew w3 → w1.heap.size ≤ (w3.alloc o).heap.size) := fun w3 o e => (HPA.out w3 o e).e.size
              go_region_held3 (fun w' => w'.cell? ⟨w.heap.size, 0, none⟩ = some (.int .i64 M.worlds) ∧ w'.cell? ⟨w.heap.size, 1, none⟩ = some (.slice va M.val.length vc) ∧ w'.cell? ⟨w.heap.size, 2, none⟩ = some (.slice ra M.rel.length rc) ∧ w'.cell? ⟨b, off + k * 6, none⟩ = some (.int .i64 (nth f k).op) ∧ w'.cell? ⟨b, off + k * 6 + 1, none⟩ = some (.int .i64 (nth f k).i) ∧ w'.cell? ⟨b, off + k * 6 + 2, none⟩ = some (.int .i64 (nth f k).e) ∧ w'.cell? ⟨b, off + k * 6 + 3, none⟩ = some (.int .i64 (nth f k).g) ∧ w'.cell? ⟨b, off + k * 6 + 4, none⟩ = some (.int .i64 (X : Int)) ∧ w'.cell? ⟨b, off + k * 6 + 5, none⟩ = some (.int .i64 (nth f k).y)) (first | go_keep | assumption | exact HK1.out _ (by assumption) | exact HK1.out _ (Ext.alloc (by assumption) _))
                (first | (go_at_call 65; refine HCO.out.mono ?_; rintro e w3 ⟨rfl, hE3⟩) | (refine step_append_lies _ (by rfl) _ _ 22 (by rfl) w1.heap.size 39 i0 _ 1 8 Tryz.underlying22 hi1 hz0 hz1 hz2 rfl (by decide) (Value.slice (some ⟨gg, 0, none⟩) k gc) k _ (by rfl) (HPA.out _ _ (by assumption)).own _ 1 1 [.int .u64 (un (valN M (nth f k).op (nth f k).i (nth f k).g (semT M (trAt f X)).1 0#64).1)] (by rfl) (by rfl) (cell_one_new _ _ _) HONE.out (by decide) (by unfold maxLen; omega) (by omega) (HSZ.out _ _ (by assumption)) _ rfl ?_; intro gx cap W1 hown hgrow hat hlt2; have hpush := (HPA.out _ _ (by assumption)).push (v' := .slice (some ⟨gx, 0, none⟩) (k + 1) cap) (by rw [HSEM.out]; exact hown) hgrow; have k6 := HK2.out _ _ (Ext.alloc (by assumption) _) (HPA.out _ _ (by assumption)) hgrow; have HPU := Lib.hid hpush; clear hpush hown hgrow hat) | fail)
              go_wp2
              go_roundw
              case rel => exact ⟨k + 1, hlt, by go_num, HPU.out⟩
              case measure => simp [RowKit.intOf]; omega
            · obtain ⟨hx0, hxl⟩ := HW.out.x_lt hlt hux
              obtain ⟨X, hX⟩ := Int.eq_ofNat_of_zero_le hx0
              rw [hX, Int.toNat_natCast] at hxl
              obtain ⟨hy0, hyl⟩ := HW.out.y_lt hlt huy
              obtain ⟨Y, hY⟩ := Int.eq_ofNat_of_zero_le hy0
              rw [hY, Int.toNat_natCast] at hyl
              have hsem : semT M (trAt f k) = valN M (nth f k).op (nth f k).i (nth f k).g (semT M (trAt f X)).1 (semT M (trAt f Y)).1 := by
                have e := hfit
                rw [trAt_bin HW.out hlt huy, hX, hY, Int.toNat_natCast, Int.toNat_natCast] at e ⊢
                rcases hs : (semT M (trAt f X)).2 with _ | _
                · simp [semT, hs] at e
                · rcases hs2 : (semT M (trAt f Y)).2 with _ | _
                  · simp [semT, hs2] at e
                  · simp [semT, hs, hs2]
              have hv2 : (valN M (nth f k).op (nth f k).i (nth f k).g (semT M (trAt f X)).1 (semT M (trAt f Y)).1).2 = true := by rw [← hsem]; exact hfit
              have hnd : NdOk (nth f k) := nd_ok HW.out hlt
              have HSEM := Lib.hid hsem
              have HONE : Hid (∀ u ∈ [Value.int .u64 (un (valN M (nth f k).op (nth f k).i (nth f k).g (semT M (trAt f X)).1 (semT M (trAt f Y)).1).1)], u.oneCell' = true) := fun u hu => by
                rcases List.mem_singleton.1 hu with rfl
                rfl
              have HUX := Lib.hid hux
              have HUY := Lib.hid huy
              have HV2 := Lib.hid hv2
              have HND := Lib.hid hnd
              clear hsem hv2 hnd hux huy ht hfit
              obtain ⟨gg, gc, rfl, hcx⟩ := HGS.out.take (by omega) hxl
              rw [hX] at n4
              have hxi : (0 : Int) ≤ (X : Int) := by omega
              have hxk : (X : Int) < (k : Int) := by omega
              obtain ⟨gg2, gc2, hge, hcy⟩ := HGS.out.take (by omega) hyl
              simp only [Value.slice.injEq, Option.some.injEq, Addr.mk.injEq] at hge
              obtain ⟨⟨rfl, -, -⟩, -, rfl⟩ := hge
              rw [hY] at n5
              go_wp2_with (first | (go_at_call 62; refine HCF.out.mono ?_; rintro e w2 ⟨rfl, hE2⟩; rw [HFK.out, HFIT.out]; have q0 := hE2.cell p0; have q1 := hE2.cell p1; have q2 := hE2.cell p2'; have e0 := hE2.cell n0; have e1 := hE2.cell n1; have e2 := hE2.cell n2; have e3 := hE2.cell n3; have e4 := hE2.cell n4; have e5 := hE2.cell n5; have hb2 := Nat.lt_of_lt_of_le hb hE2.size; have HE2 := Lib.hid hE2; clear n0 n1 n2 n3 n4 n5 p0 p1 p2'; have d1 := hE2.cell hcx; clear hcx; have d2 := hE2.cell hcy; clear hcy) | (go_at_call 63; refine (r5X_any _ _).mono ?_; rintro _ _ ⟨rfl, rfl⟩; rw [HUX.out]) | (go_at_call 64; refine (r5Y_any _ _).mono ?_; rintro _ _ ⟨rfl, rfl⟩; rw [HUY.out]))
              have HCO := Lib.hid (r17One_any M va ra vc rc (nth f k) (semT M (trAt f X)).1 (semT M (trAt f Y)).1 w2.drew (HM.out.ext (HEr.out.trans HE2.out).drew) N OK.out HND.out HV2.out)
              rw [hX] at HCO
              rw [hY] at HCO
              have hki : (0 : Int) ≤ (k : Int) := by omega
              have hkl : (k : Int) < (f.length : Int) := by omega
              have HVB : Hid (∀ W, GS w1 (fun q => (semT M (trAt f q)).1) k (Value.slice (some ⟨gg, 0, none⟩) k gc) W → some w.heap.size ≠ ((Value.slice (some ⟨gg, 0, none⟩) k gc)).ownBlock ∧ some b ≠ ((Value.slice (some ⟨gg, 0, none⟩) k gc)).ownBlock) := fun W h => ⟨fun e => by have := (h.own.lt _ e.symm).1; omega, fun e => by have := (h.own.lt _ e.symm).1; omega⟩
              have HK1 : Hid (∀ w3, Ext w2.drew w3 → w3.cell? ⟨w.heap.size, 0, none⟩ = some (.int .i64 M.worlds) ∧ w3.cell? ⟨w.heap.size, 1, none⟩ = some (.slice va M.val.length vc) ∧ w3.cell? ⟨w.heap.size, 2, none⟩ = some (.slice ra M.rel.length rc) ∧ w3.cell? ⟨b, off + k * 6, none⟩ = some (.int .i64 (nth f k).op) ∧ w3.cell? ⟨b, off + k * 6 + 1, none⟩ = some (.int .i64 (nth f k).i) ∧ w3.cell? ⟨b, off + k * 6 + 2, none⟩ = some (.int .i64 (nth f k).e) ∧ w3.cell? ⟨b, off + k * 6 + 3, none⟩ = some (.int .i64 (nth f k).g) ∧ w3.cell? ⟨b, off + k * 6 + 4, none⟩ = some (.int .i64 (X : Int)) ∧ w3.cell? ⟨b, off + k * 6 + 5, none⟩ = some (.int .i64 (Y : Int))) := fun w3 e => ⟨e.cell q0, e.cell q1, e.cell q2, e.cell e0, e.cell e1, e.cell e2, e.cell e3, e.cell e4, e.cell e5⟩
              have HK2 : Hid (∀ w3 W1, Ext w2.drew w3 → GS w1 (fun q => (semT M (trAt f q)).1) k (Value.slice (some ⟨gg, 0, none⟩) k gc) w3 → w3.grownBy W1 ((Value.slice (some ⟨gg, 0, none⟩) k gc)).ownBlock → W1.cell? ⟨w.heap.size, 0, none⟩ = some (.int .i64 M.worlds) ∧ W1.cell? ⟨w.heap.size, 1, none⟩ = some (.slice va M.val.length vc) ∧ W1.cell? ⟨w.heap.size, 2, none⟩ = some (.slice ra M.rel.length rc) ∧ W1.cell? ⟨b, off + k * 6, none⟩ = some (.int .i64 (nth f k).op) ∧ W1.cell? ⟨b, off + k * 6 + 1, none⟩ = some (.int .i64 (nth f k).i) ∧ W1.cell? ⟨b, off + k * 6 + 2, none⟩ = some (.int .i64 (nth f k).e) ∧ W1.cell? ⟨b, off + k * 6 + 3, none⟩ = some (.int .i64 (nth f k).g) ∧ W1.cell? ⟨b, off + k * 6 + 4, none⟩ = some (.int .i64 (X : Int)) ∧ W1.cell? ⟨b, off + k * 6 + 5, none⟩ = some (.int .i64 (Y : Int))) := by
                intro w3 W1 e hg hgr
                obtain ⟨z1, z2⟩ := HVB.out _ hg
                obtain ⟨a0, a1, a2, a3, a4, a5, a6, a7, a8⟩ := HK1.out _ e
                exact ⟨hgr.cell a0 z1, hgr.cell a1 z1, hgr.cell a2 z1, hgr.cell a3 z2, hgr.cell a4 z2, hgr.cell a5 z2, hgr.cell a6 z2, hgr.cell a7 z2, hgr.cell a8 z2⟩
              have HPA : Hid (∀ w3 o, Ext w2.drew w3 → GS w1 (fun q => (semT M (trAt f q)).1) k (Value.slice (some ⟨gg, 0, none⟩) k gc) (w3.alloc o)) := fun w3 o e => HGS.out.ext' (((HE2.out.drew).trans e).alloc o)
              have HSZ : Hid (∀ w3 o, Ext w2.drew w3 → w1.heap.size ≤ (w3.alloc o).heap.size) := fun w3 o e => (HPA.out w3 o e).e.size
              go_region_held3 (fun w' => w'.cell? ⟨w.heap.size, 0, none⟩ = some (.int .i64 M.worlds) ∧ w'.cell? ⟨w.heap.size, 1, none⟩ = some (.slice va M.val.length vc) ∧ w'.cell? ⟨w.heap.size, 2, none⟩ = some (.slice ra M.rel.length rc) ∧ w'.cell? ⟨b, off + k * 6, none⟩ = some (.int .i64 (nth f k).op) ∧ w'.cell? ⟨b, off + k * 6 + 1, none⟩ = some (.int .i64 (nth f k).i) ∧ w'.cell? ⟨b, off + k * 6 + 2, none⟩ = some (.int .i64 (nth f k).e) ∧ w'.cell? ⟨b, off + k * 6 + 3, none⟩ = some (.int .i64 (nth f k).g) ∧ w'.cell? ⟨b, off + k * 6 + 4, none⟩ = some (.int .i64 (X : Int)) ∧ w'.cell? ⟨b, off + k * 6 + 5, none⟩ = some (.int .i64 (Y : Int))) (first | go_keep | assumption | exact HK1.out _ (by assumption) | exact HK1.out _ (Ext.alloc (by assumption) _))
                (first | (go_at_call 65; refine HCO.out.mono ?_; rintro e w3 ⟨rfl, hE3⟩) | (refine step_append_lies _ (by rfl) _ _ 22 (by rfl) w1.heap.size 39 i0 _ 1 8 Tryz.underlying22 hi1 hz0 hz1 hz2 rfl (by decide) (Value.slice (some ⟨gg, 0, none⟩) k gc) k _ (by rfl) (HPA.out _ _ (by assumption)).own _ 1 1 [.int .u64 (un (valN M (nth f k).op (nth f k).i (nth f k).g (semT M (trAt f X)).1 (semT M (trAt f Y)).1).1)] (by rfl) (by rfl) (cell_one_new _ _ _) HONE.out (by decide) (by unfold maxLen; omega) (by omega) (HSZ.out _ _ (by assumption)) _ rfl ?_; intro gx cap W1 hown hgrow hat hlt2; have hpush := (HPA.out _ _ (by assumption)).push (v' := .slice (some ⟨gx, 0, none⟩) (k + 1) cap) (by rw [HSEM.out]; exact hown) hgrow; have k6 := HK2.out _ _ (Ext.alloc (by assumption) _) (HPA.out _ _ (by assumption)) hgrow; have HPU := Lib.hid hpush; clear hpush hown hgrow hat) | fail)
              go_wp2
              go_roundw
              case rel => exact ⟨k + 1, hlt, by go_num, HPU.out⟩
              case measure => simp [RowKit.intOf]; omega
      · obtain rfl : k = f.length := by omega
        obtain ⟨a, c, rfl, hu⟩ := hgs.done (by omega)
        have HU := Lib.hid hu
        clear hgs hu
        go_wp2
        go_ret2
        have hl : (setsOf M f).length = f.length := by rw [HS.out]; simp
        refine ⟨a, c, ?_, ?_, (HE.out.trans HE1.out).trans HGS.out.e⟩
        · rw [hl, HR.out]; rfl
        · rw [HS.out]; exact HU.out
  · have HS : Hid (setsOf M f = []) := if_neg h
    have hq : (reqErr M f != 0) = true := by simp [h]
    clear h
    go_enter Tryz.func31, Tryz.ntmps31
    go_wp2_with (go_at_call 61; refine HC.out.mono ?_; rintro e w1 ⟨rfl, hE1⟩)
    go_ret2
    refine ⟨none, 0, ?_, ?_, HE.out.trans hE1⟩
    · rw [HS.out]; rfl
    · rw [HS.out]; exact RU.nil _ _
end Wt

/- Walks: filter.look, wittingref23.request (printed by gen_fla.py). -/
namespace Wt
open Go Go.RowKit Go.Maps Go.Proofs Fm

set_option maxRecDepth 100000 in
theorem andNot1 (k : Nat) (h : k < 512) : ((k &&& 4294967294 : Nat) = 0) ↔ k < 2 := by
  have : ∀ k : _root_.Fin 512, (((k.val &&& 4294967294 : Nat) = 0) ↔ k.val < 2) := by decide +kernel
  exact this ⟨k, h⟩
/-- A view that look has made. -/
def RetV5 (M : Mo) (va ra : Option Addr) (vc rc : Nat) (f : List Nd) (e : Ending) (w w' : World) : Prop := ∃ b ca sa cc sc, e = .returned (.tuple #[.pointer (some ⟨b, 0, none⟩), .int .i64 0]) ∧ w.heap.size ≤ b ∧ VwAt w' b M.worlds va ra ca sa M.val.length vc M.rel.length rc (fCompact f).length cc (subL M (rt f)).length sc ∧ RN w' ca (fCompact f) ∧ RU w' sa (subL M (rt f)) ∧ Ext w w'
set_option maxRecDepth 20000 in
set_option maxHeartbeats 4000000 in
theorem lookNo_any (M : Mo) (va ra : Option Addr) (vc rc : Nat) (fa : Option Addr) (fc : Nat) (f : List Nd) (w : World) (hm : RM w va ra M) (hf : RN w fa f) (hl : lookErr M f ≠ 0) :
    Calls Tryz.prog 28 #[.agg #[.int .i64 M.worlds, .slice va M.val.length vc, .slice ra M.rel.length rc], .slice fa f.length fc] w fun e w' => e = .returned (.tuple #[.pointer none, .int .i64 (lookErr M f)]) ∧ Ext w w' := by
  have hE0 := (Ext.refl w).alloc (.cells #[.int .i64 M.worlds, .slice va M.val.length vc, .slice ra M.rel.length rc] 25)
  have hm0 := hm.ext hE0
  obtain ⟨m0, m1, m2⟩ := MoBox.new w M.worlds M.val M.rel va vc ra rc 25
  have HE := Lib.hid hE0
  have HF := Lib.hid hf
  have HM := Lib.hid hm
  have hvl := hm.val.len
  have hrl := hm.rel.len
  clear hE0 hf hm
  have HCO : Hid (∀ W, RN W fa f → Calls Tryz.prog 55 #[.slice fa f.length fc] W fun e w' => RetN (fCompact f) e W w') := Lib.hid fun W h => compactF_any fa fc f W h
  have HSE : Hid (∀ W a c, RM W va ra M → RN W a (fCompact f) → Calls Tryz.prog 56 #[.agg #[.int .i64 M.worlds, .slice va M.val.length vc, .slice ra M.rel.length rc], .slice a (fCompact f).length c] W fun e w' => RetS M (fCompact f) e W w') := Lib.hid fun W a c h1 h2 => sets_any M va ra vc rc a c (fCompact f) W h1 h2
  by_cases h1 : moCheck M = 0
  · have H1 := Lib.hid h1
    by_cases h2 : fCheck f = 0
    · have H2 := Lib.hid h2
      have hfr2 : fFrags f < 512 := unionL_lt fragN fragN_lt (fCompact f)
      have han : bits .andNot .i64 (fFrags f : Int) 1 = ((fFrags f &&& 4294967294 : Nat) : Int) := andNot_nat (fFrags f) 1 (by omega) (by omega)
      by_cases h3 : 2 ≤ fFrags f
      · have hn : lookErr M f = 10 := by unfold lookErr; rw [if_neg (by simp [h1]), if_neg (by simp [h2]), if_pos h3]
        have HN := Lib.hid hn
        have hq : (((fFrags f &&& 4294967294 : Nat) : Int) != 0) = true := by
          have := andNot1 (fFrags f) hfr2
          simp; omega
        clear h1 h2 h3 hn hfr2 hl
        go_enter Tryz.func28, Tryz.ntmps28
        go_wp2_with (first | (go_at_call 49; refine (modelCheck_any M va ra vc rc _ hm0).mono ?_; rintro e w1 ⟨rfl, hE1⟩; rw [H1.out]; have q0 := hE1.cell m0; have q1 := hE1.cell m1; have q2 := hE1.cell m2; clear m0 m1 m2; skip) | (go_at_call 53; refine (check_any _ _ f _ (HF.out.ext (HE.out.trans hE1))).mono ?_; rintro e w2 ⟨rfl, hE2⟩; rw [H2.out]; have p0 := hE2.cell q0; have p1 := hE2.cell q1; have p2 := hE2.cell q2; clear q0 q1 q2; have hA := (HE.out.trans hE1).trans hE2) | (go_at_call 54; refine (frags_any _ _ f _ (HF.out.ext hA)).mono ?_; rintro e w3 ⟨rfl, hE3⟩; have s0 := hE3.cell p0; have s1 := hE3.cell p1; have s2 := hE3.cell p2; clear p0 p1 p2; have hB := hA.trans hE3))
        go_ret2
        exact ⟨by rw [HN.out]; rfl, hB⟩
      · have hq : (((fFrags f &&& 4294967294 : Nat) : Int) != 0) = false := by
          have := andNot1 (fFrags f) hfr2
          simp; omega
        have HR : Hid (reqErr M (fCompact f) = lookErr M f) := Lib.hid (look_req h1 h2 (by omega)).symm
        have hs0 : setsOf M (fCompact f) = [] := if_neg (by rw [HR.out]; exact hl)
        have hne : (lookErr M f != 0) = true := by simpa using hl
        have HS0 := Lib.hid hs0
        clear h1 h2 h3 hfr2 hl hs0
        generalize hle : lookErr M f = er at *
        go_enter Tryz.func28, Tryz.ntmps28
        go_wp2_with (first | (go_at_call 49; refine (modelCheck_any M va ra vc rc _ hm0).mono ?_; rintro e w1 ⟨rfl, hE1⟩; rw [H1.out]; have q0 := hE1.cell m0; have q1 := hE1.cell m1; have q2 := hE1.cell m2; clear m0 m1 m2; skip) | (go_at_call 53; refine (check_any _ _ f _ (HF.out.ext (HE.out.trans hE1))).mono ?_; rintro e w2 ⟨rfl, hE2⟩; rw [H2.out]; have p0 := hE2.cell q0; have p1 := hE2.cell q1; have p2 := hE2.cell q2; clear q0 q1 q2; have hA := (HE.out.trans hE1).trans hE2) | (go_at_call 54; refine (frags_any _ _ f _ (HF.out.ext hA)).mono ?_; rintro e w3 ⟨rfl, hE3⟩; have s0 := hE3.cell p0; have s1 := hE3.cell p1; have s2 := hE3.cell p2; clear p0 p1 p2; have hB := hA.trans hE3) | (go_at_call 55; refine (HCO.out _ (HF.out.ext hB)).mono ?_; rintro e w4 ⟨ca, cc, rfl, hc4, hE4⟩; have t0 := hE4.cell s0; have t1 := hE4.cell s1; have t2 := hE4.cell s2; clear s0 s1 s2; have hC := hB.trans hE4) | (go_at_call 56; refine (HSE.out _ ca cc (HM.out.ext hC) hc4).mono ?_; rintro e w5 ⟨sa, sc, rfl, hs5, hE5⟩; rw [HR.out]))
        go_ret2
        exact ⟨rfl, hC.trans hE5⟩
    · have hn : lookErr M f = fCheck f := by unfold lookErr; rw [if_neg (by simp [h1]), if_pos h2]
      have HN := Lib.hid hn
      have hq2 : (fCheck f != 0) = true := by simp [h2]
      clear h1 h2 hn hl
      go_enter Tryz.func28, Tryz.ntmps28
      go_wp2_with (first | (go_at_call 49; refine (modelCheck_any M va ra vc rc _ hm0).mono ?_; rintro e w1 ⟨rfl, hE1⟩; rw [H1.out]; have q0 := hE1.cell m0; have q1 := hE1.cell m1; have q2 := hE1.cell m2; clear m0 m1 m2; skip) | (go_at_call 53; refine (check_any _ _ f _ (HF.out.ext (HE.out.trans hE1))).mono ?_; rintro e w2 ⟨rfl, hE2⟩))
      go_ret2
      exact ⟨by rw [HN.out]; rfl, (HE.out.trans hE1).trans hE2⟩
  · have hn : lookErr M f = moCheck M := by unfold lookErr; rw [if_pos h1]
    have HN := Lib.hid hn
    have hq2 : (moCheck M != 0) = true := by simp [h1]
    clear h1 hn hl
    go_enter Tryz.func28, Tryz.ntmps28
    go_wp2_with (go_at_call 49; refine (modelCheck_any M va ra vc rc _ hm0).mono ?_; rintro e w1 ⟨rfl, hE1⟩)
    go_ret2
    exact ⟨by rw [HN.out]; rfl, HE.out.trans hE1⟩
set_option maxRecDepth 20000 in
set_option maxHeartbeats 4000000 in
theorem look_any (M : Mo) (va ra : Option Addr) (vc rc : Nat) (fa : Option Addr) (fc : Nat) (f : List Nd) (w : World) (hm : RM w va ra M) (hf : RN w fa f) (hl : lookErr M f = 0) :
    Calls Tryz.prog 28 #[.agg #[.int .i64 M.worlds, .slice va M.val.length vc, .slice ra M.rel.length rc], .slice fa f.length fc] w fun e w' => RetV5 M va ra vc rc f e w w' := by
  have hE0 := (Ext.refl w).alloc (.cells #[.int .i64 M.worlds, .slice va M.val.length vc, .slice ra M.rel.length rc] 25)
  have hm0 := hm.ext hE0
  obtain ⟨m0, m1, m2⟩ := MoBox.new w M.worlds M.val M.rel va vc ra rc 25
  have HE := Lib.hid hE0
  have HF := Lib.hid hf
  have HM := Lib.hid hm
  have hvl := hm.val.len
  have hrl := hm.rel.len
  clear hE0 hf hm
  have HCO : Hid (∀ W, RN W fa f → Calls Tryz.prog 55 #[.slice fa f.length fc] W fun e w' => RetN (fCompact f) e W w') := Lib.hid fun W h => compactF_any fa fc f W h
  have HSE : Hid (∀ W a c, RM W va ra M → RN W a (fCompact f) → Calls Tryz.prog 56 #[.agg #[.int .i64 M.worlds, .slice va M.val.length vc, .slice ra M.rel.length rc], .slice a (fCompact f).length c] W fun e w' => RetS M (fCompact f) e W w') := Lib.hid fun W a c h1 h2 => sets_any M va ra vc rc a c (fCompact f) W h1 h2
  obtain ⟨h1, h2, h3, h4⟩ := lookErr_ok hl
  have H1 := Lib.hid h1
  have H2 := Lib.hid h2
  have hfr2 : fFrags f < 512 := unionL_lt fragN fragN_lt (fCompact f)
  have han : bits .andNot .i64 (fFrags f : Int) 1 = ((fFrags f &&& 4294967294 : Nat) : Int) := andNot_nat (fFrags f) 1 (by omega) (by omega)
  have hq : (((fFrags f &&& 4294967294 : Nat) : Int) != 0) = false := by
    have := andNot1 (fFrags f) hfr2
    simp; omega
  have HR : Hid (reqErr M (fCompact f) = 0) := Lib.hid (by rw [← look_req h1 h2 h3]; exact hl)
  have HS0 := Lib.hid (look_sets hl).1
  clear h1 h2 h3 h4 hfr2 hl
  go_enter Tryz.func28, Tryz.ntmps28
  go_wp2_with (first | (go_at_call 49; refine (modelCheck_any M va ra vc rc _ hm0).mono ?_; rintro e w1 ⟨rfl, hE1⟩; rw [H1.out]; have q0 := hE1.cell m0; have q1 := hE1.cell m1; have q2 := hE1.cell m2; clear m0 m1 m2; skip) | (go_at_call 53; refine (check_any _ _ f _ (HF.out.ext (HE.out.trans hE1))).mono ?_; rintro e w2 ⟨rfl, hE2⟩; rw [H2.out]; have p0 := hE2.cell q0; have p1 := hE2.cell q1; have p2 := hE2.cell q2; clear q0 q1 q2; have hA := (HE.out.trans hE1).trans hE2) | (go_at_call 54; refine (frags_any _ _ f _ (HF.out.ext hA)).mono ?_; rintro e w3 ⟨rfl, hE3⟩; have s0 := hE3.cell p0; have s1 := hE3.cell p1; have s2 := hE3.cell p2; clear p0 p1 p2; have hB := hA.trans hE3) | (go_at_call 55; refine (HCO.out _ (HF.out.ext hB)).mono ?_; rintro e w4 ⟨ca, cc, rfl, hc4, hE4⟩; have t0 := hE4.cell s0; have t1 := hE4.cell s1; have t2 := hE4.cell s2; clear s0 s1 s2; have hC := hB.trans hE4) | (go_at_call 56; refine (HSE.out _ ca cc (HM.out.ext hC) hc4).mono ?_; rintro e w5 ⟨sa, sc, rfl, hs5, hE5⟩; rw [HR.out]; rw [HS0.out] at hs5 ⊢; have u0 := hE5.cell t0; have u1 := hE5.cell t1; have u2 := hE5.cell t2; clear t0 t1 t2; have hD := hC.trans hE5; have hRN5 := hc4.ext hE5))
  go_ret2
  have hX : Ext w5 (w5.alloc (.cells #[.int .i64 M.worlds, .slice va M.val.length vc, .slice ra M.rel.length rc, .slice ca (fCompact f).length cc, .slice sa (subL M (rt f)).length sc] 74)) := (Ext.refl w5).alloc _
  exact ⟨w5.heap.size, ca, sa, cc, sc, rfl, hD.size, VwAt.new _ _ _ _ _ _ _ _ _ _ _ _ _ _ _, hRN5.ext hX, hs5.ext hX, hD.trans hX⟩
set_option maxRecDepth 20000 in
set_option maxHeartbeats 4000000 in
theorem r23request_any (M : Mo) (va ra : Option Addr) (vc rc : Nat) (fa : Option Addr) (fc : Nat) (f : List Nd) (w : World) (hm : RM w va ra M) (hf : RN w fa f) :
    Calls Tryz.prog 30 #[.agg #[.int .i64 M.worlds, .slice va M.val.length vc, .slice ra M.rel.length rc], .slice fa f.length fc] w fun e w' => e = .returned (.int .i64 (lookErr M f)) ∧ Ext w w' := by
  have hE0 := (Ext.refl w).alloc (.cells #[.int .i64 M.worlds, .slice va M.val.length vc, .slice ra M.rel.length rc] 25)
  have hm0 := hm.ext hE0
  obtain ⟨m0, m1, m2⟩ := MoBox.new w M.worlds M.val M.rel va vc ra rc 25
  have HE := Lib.hid hE0
  have HF := Lib.hid hf
  have HM := Lib.hid hm
  have hvl := hm.val.len
  have hrl := hm.rel.len
  clear hE0 hf hm
  by_cases h1 : moCheck M = 0
  · have H1 := Lib.hid h1
    by_cases h2 : fCheck f = 0
    · have H2 := Lib.hid h2
      have hfr2 : fFrags f < 512 := unionL_lt fragN fragN_lt (fCompact f)
      have han : bits .andNot .i64 (fFrags f : Int) 1 = ((fFrags f &&& 4294967294 : Nat) : Int) := andNot_nat (fFrags f) 1 (by omega) (by omega)
      by_cases h3 : 2 ≤ fFrags f
      · have hn : lookErr M f = 10 := by unfold lookErr; rw [if_neg (by simp [h1]), if_neg (by simp [h2]), if_pos h3]
        have HN := Lib.hid hn
        have hq : (((fFrags f &&& 4294967294 : Nat) : Int) != 0) = true := by
          have := andNot1 (fFrags f) hfr2
          simp; omega
        clear h1 h2 h3 hn hfr2
        go_enter Tryz.func30, Tryz.ntmps30
        go_wp2_with (first | (go_at_call 57; refine (r13Check_any M va ra vc rc _ hm0).mono ?_; rintro e w1 ⟨rfl, hE1⟩; rw [H1.out]; have q0 := hE1.cell m0; have q1 := hE1.cell m1; have q2 := hE1.cell m2; clear m0 m1 m2; skip) | (go_at_call 58; refine (r5Check_any _ _ f _ (HF.out.ext (HE.out.trans hE1))).mono ?_; rintro e w2 ⟨rfl, hE2⟩; rw [H2.out]; have p0 := hE2.cell q0; have p1 := hE2.cell q1; have p2 := hE2.cell q2; clear q0 q1 q2; have hA := (HE.out.trans hE1).trans hE2) | (go_at_call 59; refine (r5Frags_any _ _ f _ (HF.out.ext hA)).mono ?_; rintro e w3 ⟨rfl, hE3⟩; have s0 := hE3.cell p0; have s1 := hE3.cell p1; have s2 := hE3.cell p2; clear p0 p1 p2; have hB := hA.trans hE3))
        go_ret
        exact ⟨by rw [HN.out]; rfl, hB⟩
      · have hq : (((fFrags f &&& 4294967294 : Nat) : Int) != 0) = false := by
          have := andNot1 (fFrags f) hfr2
          simp; omega
        have hn : lookErr M f = if fFits f M.rel.length M.val.length = false then 2 else 0 := by unfold lookErr; rw [if_neg (by simp [h1]), if_neg (by simp [h2]), if_neg h3]
        cases h4 : fFits f M.rel.length M.val.length
        all_goals
          rw [h4] at hn
          have HN := Lib.hid hn
          have H4 := Lib.hid h4
        · clear h1 h2 h3 hn hfr2 h4
          go_enter Tryz.func30, Tryz.ntmps30
          go_wp2_with (first | (go_at_call 57; refine (r13Check_any M va ra vc rc _ hm0).mono ?_; rintro e w1 ⟨rfl, hE1⟩; rw [H1.out]; have q0 := hE1.cell m0; have q1 := hE1.cell m1; have q2 := hE1.cell m2; clear m0 m1 m2; skip) | (go_at_call 58; refine (r5Check_any _ _ f _ (HF.out.ext (HE.out.trans hE1))).mono ?_; rintro e w2 ⟨rfl, hE2⟩; rw [H2.out]; have p0 := hE2.cell q0; have p1 := hE2.cell q1; have p2 := hE2.cell q2; clear q0 q1 q2; have hA := (HE.out.trans hE1).trans hE2) | (go_at_call 59; refine (r5Frags_any _ _ f _ (HF.out.ext hA)).mono ?_; rintro e w3 ⟨rfl, hE3⟩; have s0 := hE3.cell p0; have s1 := hE3.cell p1; have s2 := hE3.cell p2; clear p0 p1 p2; have hB := hA.trans hE3) | (go_at_call 60; refine (r5Fits_any fa fc f M.rel.length M.val.length _ (HF.out.ext hB)).mono ?_; rintro e w4 ⟨rfl, hE4⟩; rw [H4.out]))
          go_ret
          exact ⟨by rw [HN.out]; rfl, hB.trans hE4⟩
        · clear h1 h2 h3 hn hfr2 h4
          go_enter Tryz.func30, Tryz.ntmps30
          go_wp2_with (first | (go_at_call 57; refine (r13Check_any M va ra vc rc _ hm0).mono ?_; rintro e w1 ⟨rfl, hE1⟩; rw [H1.out]; have q0 := hE1.cell m0; have q1 := hE1.cell m1; have q2 := hE1.cell m2; clear m0 m1 m2; skip) | (go_at_call 58; refine (r5Check_any _ _ f _ (HF.out.ext (HE.out.trans hE1))).mono ?_; rintro e w2 ⟨rfl, hE2⟩; rw [H2.out]; have p0 := hE2.cell q0; have p1 := hE2.cell q1; have p2 := hE2.cell q2; clear q0 q1 q2; have hA := (HE.out.trans hE1).trans hE2) | (go_at_call 59; refine (r5Frags_any _ _ f _ (HF.out.ext hA)).mono ?_; rintro e w3 ⟨rfl, hE3⟩; have s0 := hE3.cell p0; have s1 := hE3.cell p1; have s2 := hE3.cell p2; clear p0 p1 p2; have hB := hA.trans hE3) | (go_at_call 60; refine (r5Fits_any fa fc f M.rel.length M.val.length _ (HF.out.ext hB)).mono ?_; rintro e w4 ⟨rfl, hE4⟩; rw [H4.out]))
          go_ret
          exact ⟨by rw [HN.out]; rfl, hB.trans hE4⟩
    · have hn : lookErr M f = fCheck f := by unfold lookErr; rw [if_neg (by simp [h1]), if_pos h2]
      have HN := Lib.hid hn
      have hq2 : (fCheck f != 0) = true := by simp [h2]
      clear h1 h2 hn
      go_enter Tryz.func30, Tryz.ntmps30
      go_wp2_with (first | (go_at_call 57; refine (r13Check_any M va ra vc rc _ hm0).mono ?_; rintro e w1 ⟨rfl, hE1⟩; rw [H1.out]; have q0 := hE1.cell m0; have q1 := hE1.cell m1; have q2 := hE1.cell m2; clear m0 m1 m2; skip) | (go_at_call 58; refine (r5Check_any _ _ f _ (HF.out.ext (HE.out.trans hE1))).mono ?_; rintro e w2 ⟨rfl, hE2⟩))
      go_ret
      exact ⟨by rw [HN.out]; rfl, (HE.out.trans hE1).trans hE2⟩
  · have hn : lookErr M f = moCheck M := by unfold lookErr; rw [if_pos h1]
    have HN := Lib.hid hn
    have hq2 : (moCheck M != 0) = true := by simp [h1]
    clear h1 hn
    go_enter Tryz.func30, Tryz.ntmps30
    go_wp2_with (go_at_call 57; refine (r13Check_any M va ra vc rc _ hm0).mono ?_; rintro e w1 ⟨rfl, hE1⟩)
    go_ret
    exact ⟨by rw [HN.out]; rfl, HE.out.trans hE1⟩
end Wt

/- Plain and small walks for (*view).build: a row of the filtration as it grows; the class of a world as an index. -/
namespace Wt
open Go Go.RowKit Go.Maps Go.Proofs Fm

section
variable (reps : List Nat) (R : Nat → Nat → Nat → Bool) (a : Nat)
/-- Row a, of which c entries are done and d steps of the next. -/
def rwP (c d : Nat) : List (BitVec 64) := (List.range reps.length).map fun i => setTo (fun e => R a (nth reps i) (nth reps e)) (if i < c then reps.length else if i = c then d else 0)
theorem rwP_len (c d : Nat) : (rwP reps R a c d).length = reps.length := by simp [rwP]
theorem rwP_zero : rwP reps R a 0 0 = List.replicate reps.length 0#64 := by
  unfold rwP
  rw [show (fun i => setTo (fun e => R a (nth reps i) (nth reps e)) (if i < 0 then reps.length else if i = 0 then 0 else 0)) = fun _ => 0#64 from funext fun i => by simp [setTo]]
  simp [List.map_const']
theorem rwP_next (c : Nat) : rwP reps R a c reps.length = rwP reps R a (c + 1) 0 := by
  unfold rwP
  refine List.map_congr_left fun i _ => ?_
  congr 1
  by_cases h1 : i < c
  · rw [if_pos h1, if_pos (by omega)]
  · by_cases h2 : i = c
    · rw [if_neg h1, if_pos h2, if_pos (by omega)]
    · rw [if_neg h1, if_neg h2, if_neg (by omega)]
      split <;> rfl
theorem rwP_nth {c : Nat} (d : Nat) (hc : c < reps.length) : nth (rwP reps R a c d) c = setTo (fun e => R a (nth reps c) (nth reps e)) d := by
  unfold rwP
  rw [nth_mapX _ hc, if_neg (by omega), if_pos rfl]
theorem rwP_set {c : Nat} (d : Nat) (hc : c < reps.length) : (rwP reps R a c d).set c (setTo (fun e => R a (nth reps c) (nth reps e)) (d + 1)) = rwP reps R a c (d + 1) := by
  refine nth_ext (by simp [rwP]) fun i hi => ?_
  have hi : i < reps.length := by simpa [rwP] using hi
  rw [nth_eq _ _ (by rw [List.length_set, rwP_len]; exact hi), List.getElem_set]
  by_cases e : c = i
  · subst e; rw [if_pos rfl, rwP_nth _ _ _ _ hc]
  · rw [if_neg e, ← nth_eq _ _ (by rw [rwP_len]; exact hi)]
    unfold rwP
    rw [nth_mapX _ hi, nth_mapX _ hi]
    have e2 : ¬ i = c := fun h => e h.symm
    simp only [e2, if_false]
theorem rwP_no {c d : Nat} (h : R a (nth reps c) (nth reps d) = false) : rwP reps R a c (d + 1) = rwP reps R a c d := by
  unfold rwP
  refine List.map_congr_left fun i _ => ?_
  by_cases e : i = c
  · subst e
    rw [if_neg (by omega), if_pos rfl, if_neg (by omega), if_pos rfl]
    show (if R a (nth reps i) (nth reps d) = true then _ else _) = _
    rw [h]; simp
  · simp [e]
theorem rwP_yes {c d : Nat} (hc : c < reps.length) (h : R a (nth reps c) (nth reps d) = true) : (rwP reps R a c d).set c (nth (rwP reps R a c d) c ||| 1#64 <<< d) = rwP reps R a c (d + 1) := by
  rw [← rwP_set _ _ _ _ hc, rwP_nth _ _ _ _ hc]
  congr 1
  show _ = if R a (nth reps c) (nth reps d) = true then _ else _
  rw [if_pos h]
theorem rwP_all : rwP reps R a reps.length 0 = reps.map fun x => setTo (fun d => R a x (nth reps d)) reps.length := by
  refine nth_ext (by simp [rwP]) fun i hi => ?_
  have hi : i < reps.length := by simpa [rwP] using hi
  rw [nth_mapN _ _ hi]
  unfold rwP
  rw [nth_mapX _ hi, if_pos hi]
end
theorem idx_first {L : List (BitVec 64)} {N k j : Nat} (hj : j < clsOf L N k) (hk : k < N) : nth (repL L N) j ≠ lowOf L k := by
  intro e
  have hl := clsOf_lt L hk
  have h1 := clsOf_rep (L := L) (N := N) (c := j) (by omega)
  have h2 : clsOf L N (nth (repL L N) j) = clsOf L N k := by
    unfold clsOf
    rw [e, lowOf_idem]
  omega
set_option maxHeartbeats 1000000 in
theorem index_cls (L : List (BitVec 64)) (N k : Nat) (a : Option Addr) (c : Nat) (w : World) (hN : N ≤ 1000) (hk : k < N) (hr : RI w a (natI (repL L N))) :
    Calls Tryz.prog 70 #[.slice a (repL L N).length c, .int .i64 ((lowOf L k : Nat) : Int)] w fun e w' => e = .returned (.int .i64 ((clsOf L N k : Nat) : Int)) ∧ w = w' := by
  have HR := Lib.hid hr
  have hcl := clsOf_lt L hk
  have hrl := repL_len L N
  have HI := Lib.hid (fun j (hj : j < clsOf L N k) => idx_first hj hk)
  have HE := Lib.hid (clsOf_nth L hk)
  have hll : (natI (repL L N)).length = (repL L N).length := by simp [natI]
  generalize clsOf L N k = p at *
  generalize lowOf L k = x at *
  generalize repL L N = l at *
  clear hr
  go_enter Tryz.func70, Tryz.ntmps70
  go_wp2
  go_loop [8] (fun i => ∃ k : Nat, k ≤ p ∧ i = .int .i64 (k : Int)) (fun i => l.length - (RowKit.intOf i).toNat)
  case atStart => exact ⟨0, Nat.zero_le _, rfl⟩
  case round =>
    obtain ⟨k, hk, rfl⟩ := hrel
    have hlt : k < l.length := by omega
    obtain ⟨b, off, rfl, hb, hc⟩ := HR.out.get (k := k) (by omega)
    rw [nth_natI hlt] at hc
    by_cases he : k = p
    · subst he
      rw [HE.out] at hc
      have hq : ((x : Int) == (x : Int)) = true := by simp
      go_wp2
      go_ret
      exact ⟨rfl, rfl⟩
    · have hq : ((x : Int) == ((nth l k : Nat) : Int)) = false := by
        have := HI.out k (by omega)
        simp; omega
      have hk2 : k + 1 ≤ p := by omega
      clear he
      go_wp2
      go_round
      case rel => exact ⟨k + 1, hk2, by go_num⟩
      case measure => simp [RowKit.intOf]; omega
theorem results_cell_tmp {fn : Func} {p u : Tmp} {ty : TypeId} (h : fn.results = #[.cell p ty, .tmp u]) (tmps : Array Value) (P : Program) (w : World) :
    (results fn tmps).run P w = ((asAddr (tmps.getD p undef)).run P w).andThen fun a w₁ => ((loadVar ty a).run P w₁).andThen fun x w₂ => .ok (.tuple #[x, tmps.getD u undef]) w₂ := by
  simp only [results, h]
  simp [Sem.run_bind, Result.andThen]
/-- A model and a list that the call has made. -/
def RetFil (A : Mo) (l : List Nat) (e : Ending) (w w' : World) : Prop := ∃ va ra la vc rc lc, e = .returned (.tuple #[.agg #[.int .i64 A.worlds, .slice va A.val.length vc, .slice ra A.rel.length rc], .slice la l.length lc]) ∧ (∀ w'', Agree w.heap.size w' w'' → RM w'' va ra A ∧ RI w'' la (natI l)) ∧ Ext w w'
end Wt
