/- Walk: wittingref17.Sets (printed by gen_r17f.py). -/
import Derived.Test.YtoacdccachhjdaaGreatDoorMAEf
import Derived.Test.YtoacdccachhjdaaGreatDoorMAEg
import Derived.Test.YtoacdccachhjdaaGreatDoorMAAl
import Derived.Deep.RegionHeld3
import Derived.Test.YtoacdccachhjdaaGreatDoorMAAx
import Derived.Deep.QuietTactic
import Derived.BigQuiet
namespace Wt
open Go Go.RowKit Go.Maps Go.Proofs Fm

theorem nd_ok {l : List Nd} (hw : Wf l) {k : Nat} (hk : k < l.length) : NdOk (nth l k) := by
  obtain ⟨h1, _, _, h4, h5⟩ := nodeErr_ok (hw k hk)
  exact ndOk_of h1 h4 h5
theorem GS.take {w0 : World} {f : Nat → BitVec 64} {k : Nat} {v : Value} {wr : World} (h : GS w0 f k v wr) (_hk : k ≤ 1000) {q : Nat} (hq : q < k) : ∃ g c, v = .slice (some ⟨g, 0, none⟩) k c ∧ wr.cell? ⟨g, q, none⟩ = some (.int .u64 (un (f q))) := by
  rcases h.own.2 with ⟨_, h0⟩ | ⟨g, cap, cur, rfl, rest⟩
  · omega
  · refine ⟨g, cap, rfl, ?_⟩
    rw [h.own.cellAt q (by omega), List.getElem?_map]
    simp [hq, uv]
set_option maxRecDepth 20000 in
set_option maxHeartbeats 8000000 in
theorem r17Sets_any (M : Mo) (va ra : Option Addr) (vc rc : Nat) (fa : Option Addr) (fc : Nat) (f : List Nd) (w : World) (hm : RM w va ra M) (hf : RN w fa f) :
    Calls Tryz.prog 111 #[.agg #[.int .i64 M.worlds, .slice va M.val.length vc, .slice ra M.rel.length rc], .slice fa f.length fc] w fun e w' => RetS M f e w w' := by
  have hE0 := (Ext.refl w).alloc (.cells #[.int .i64 M.worlds, .slice va M.val.length vc, .slice ra M.rel.length rc] 28)
  have HC := Lib.hid (r17Check_any M va ra vc rc fa fc f _ (hm.ext hE0) (hf.ext hE0))
  have hbx := MoBox.new w M.worlds M.val M.rel va vc ra rc 28
  have HBX := Lib.hid hbx
  obtain ⟨m0, m1, m2⟩ := hbx
  have HE := Lib.hid hE0
  have HM := Lib.hid hm
  have HF := Lib.hid hf
  clear hE0 hm hf
  by_cases h : reqErr M f = 0
  · obtain ⟨h1, h2, _, _⟩ := reqErr_ok h
    obtain ⟨N, ok⟩ := moCheck_ok h1
    obtain ⟨hf0, hf200, hw⟩ := fCheck_ok.1 h2
    have HS : Hid (setsOf M f = (List.range f.length).map (fun q => (semT M (trAt f q)).1)) := if_pos h
    have HR := Lib.hid h
    have HW := Lib.hid hw
    have OK := Lib.hid ok
    have HFS : Hid (∀ k, k < f.length → fitsOf M (fSub f k) = (semT M (trAt f k)).2) := fun k hk => fits_sem ok.rel ok.val h2 hk
    rename_i x1 x2
    clear h h1 h2 hw ok x1 x2
    obtain ⟨i0, hi1, hz0, hz1, hz2⟩ := info_parts u64_info
    go_enter Tryz.func111, Tryz.ntmps111
    go_wp2_with (go_at_call 113; refine HC.out.mono ?_; rintro e w1 ⟨rfl, hE1⟩; rw [HR.out]; have HE1 := Lib.hid hE1; clear hE1 m0 m1 m2)
    have hb1 : w.heap.size < w1.heap.size := by have := HE1.out.size; simp at this; omega
    have HX1 := Lib.hid (HBX.out.ext HE1.out)
    go_loopw [7, 8] (fun v i wr => ∃ k : Nat, k ≤ f.length ∧ i = .int .i64 k ∧ GSE w1 (fun q => (semT M (trAt f q)).1) k v wr) (fun _ i _ => f.length - (RowKit.intOf i).toNat)
    case atStart => exact ⟨0, Nat.zero_le _, rfl, Ext.refl _, World.ownsRow_nil _ _ _ _⟩
    case round =>
      obtain ⟨k, hk, rfl, hgs⟩ := hrel
      have hgs : GS w1 _ k u7 wr := hgs
      have HGS := Lib.hid hgs
      by_cases hlt : k < f.length
      · clear hgs
        have HEr : Hid (Ext w wr) := (HE.out.trans HE1.out).trans HGS.out.e
        have HCF := Lib.hid (r17fits_any M va ra vc rc fa fc f (k : Int) wr (HM.out.ext HEr.out) (HF.out.ext HEr.out))
        have HFK := Lib.hid (HFS.out k hlt)
        obtain ⟨p0, p1, p2'⟩ := HX1.out.ext HGS.out.e
        cases hfit : (semT M (trAt f k)).2
        · have hz : (semT M (trAt f k)).1 = 0#64 := semT_false M _ hfit
          have HFIT := Lib.hid hfit
          have HZ := Lib.hid hz
          have HONE : Hid (∀ u ∈ [Value.int .u64 0], u.oneCell' = true) := fun u hu => by
            rcases List.mem_singleton.1 hu with rfl
            rfl
          clear hfit hz
          go_wp2_with (first | (go_at_call 150; refine HCF.out.mono ?_; rintro e w2 ⟨rfl, hE2⟩; rw [HFK.out, HFIT.out]; have HPA : Hid (∀ o, GS w1 (fun q => (semT M (trAt f q)).1) k u7 (w2.alloc o)) := (fun o => HGS.out.ext' (hE2.alloc o)); have hsz1 : w1.heap.size ≤ w2.heap.size := Nat.le_trans HGS.out.e.size hE2.size) | (at_builtin; refine wpList_append_lies _ rfl _ _ 25 rfl w1.heap.size 63 i0 _ 1 8 Tryz.underlying25 hi1 hz0 hz1 hz2 rfl (by decide) u7 k _ rfl (HPA.out _).own ⟨w2.heap.size, 0, none⟩ 1 1 [.int .u64 0] rfl rfl (cell_one_new _ _ _) HONE.out (by decide) (by unfold maxLen; omega) (by omega) (Nat.le_trans hsz1 (by simp)) (w2.heap.size + 1) (by simp) ?_; intro gx cap W1 hown hgrow hat hlt2; have hpush := (HPA.out _).push (v' := .slice (some ⟨gx, 0, none⟩) (k + 1) cap) (by rw [HZ.out]; exact hown) hgrow; have HPU := Lib.hid hpush; clear hpush hown hgrow hat))
          go_roundw
          case rel => exact ⟨k + 1, hlt, by go_num, HPU.out⟩
          case measure => simp [RowKit.intOf]; omega
        · have HFIT := Lib.hid hfit
          have ht : fok (trAt f k) := fok_trAt HW.out _ k (Nat.lt_succ_self k) hlt
          obtain ⟨b, off, rfl, hb, n0, n1, n2, n3, n4, n5⟩ := HF.out.get hlt
          have hbw := hb
          replace n0 := HEr.out.cell n0
          replace n1 := HEr.out.cell n1
          replace n2 := HEr.out.cell n2
          replace n3 := HEr.out.cell n3
          replace n4 := HEr.out.cell n4
          replace n5 := HEr.out.cell n5
          replace hb := Nat.lt_of_lt_of_le hb HEr.out.size
          cases hux : (useOf (nth f k).op).1.x
          · have huy : (useOf (nth f k).op).1.y = false := by
              cases hy : (useOf (nth f k).op).1.y
              · rfl
              · have := useOf_yx (nth f k).op hy
                rw [hux] at this; cases this
            have hsem : semT M (trAt f k) = valN M (nth f k).op (nth f k).i (nth f k).g 0#64 0#64 := by rw [trAt_leaf hlt hux]; rfl
            have hv2 : (valN M (nth f k).op (nth f k).i (nth f k).g 0#64 0#64).2 = true := by rw [← hsem]; exact hfit
            have hnd : NdOk (nth f k) := nd_ok HW.out hlt
            have HSEM := Lib.hid hsem
            have HONE : Hid (∀ u ∈ [Value.int .u64 (un (valN M (nth f k).op (nth f k).i (nth f k).g 0#64 0#64).1)], u.oneCell' = true) := fun u hu => by
              rcases List.mem_singleton.1 hu with rfl
              rfl
            have HUX := Lib.hid hux
            have HUY := Lib.hid huy
            have HV2 := Lib.hid hv2
            have HND := Lib.hid hnd
            clear hsem hv2 hnd hux huy ht hfit
            go_wp2_with (first | (go_at_call 150; refine HCF.out.mono ?_; rintro e w2 ⟨rfl, hE2⟩; rw [HFK.out, HFIT.out]; have q0 := hE2.cell p0; have q1 := hE2.cell p1; have q2 := hE2.cell p2'; have e0 := hE2.cell n0; have e1 := hE2.cell n1; have e2 := hE2.cell n2; have e3 := hE2.cell n3; have e4 := hE2.cell n4; have e5 := hE2.cell n5; have hb2 := Nat.lt_of_lt_of_le hb hE2.size; have HE2 := Lib.hid hE2; clear n0 n1 n2 n3 n4 n5 p0 p1 p2') | (go_at_call 127; refine (r5X_any _ _).mono ?_; rintro _ _ ⟨rfl, rfl⟩; rw [HUX.out]) | (go_at_call 128; refine (r5Y_any _ _).mono ?_; rintro _ _ ⟨rfl, rfl⟩; rw [HUY.out]))
            have HCO := Lib.hid (r17One_any M va ra vc rc (nth f k) 0#64 0#64 w2.drew (HM.out.ext (HEr.out.trans HE2.out).drew) N OK.out HND.out HV2.out)
            have hki : (0 : Int) ≤ (k : Int) := by omega
            have hkl : (k : Int) < (f.length : Int) := by omega
            have HVB : Hid (∀ W, GS w1 (fun q => (semT M (trAt f q)).1) k u7 W → some w.heap.size ≠ (u7).ownBlock ∧ some b ≠ (u7).ownBlock) := fun W h => ⟨fun e => by have := (h.own.lt _ e.symm).1; omega, fun e => by have := (h.own.lt _ e.symm).1; omega⟩
            have HK1 : Hid (∀ w3, Ext w2.drew w3 → w3.cell? ⟨w.heap.size, 0, none⟩ = some (.int .i64 M.worlds) ∧ w3.cell? ⟨w.heap.size, 1, none⟩ = some (.slice va M.val.length vc) ∧ w3.cell? ⟨w.heap.size, 2, none⟩ = some (.slice ra M.rel.length rc) ∧ w3.cell? ⟨b, off + k * 6, none⟩ = some (.int .i64 (nth f k).op) ∧ w3.cell? ⟨b, off + k * 6 + 1, none⟩ = some (.int .i64 (nth f k).i) ∧ w3.cell? ⟨b, off + k * 6 + 2, none⟩ = some (.int .i64 (nth f k).e) ∧ w3.cell? ⟨b, off + k * 6 + 3, none⟩ = some (.int .i64 (nth f k).g) ∧ w3.cell? ⟨b, off + k * 6 + 4, none⟩ = some (.int .i64 (nth f k).x) ∧ w3.cell? ⟨b, off + k * 6 + 5, none⟩ = some (.int .i64 (nth f k).y)) := fun w3 e => ⟨e.cell q0, e.cell q1, e.cell q2, e.cell e0, e.cell e1, e.cell e2, e.cell e3, e.cell e4, e.cell e5⟩
            have HK2 : Hid (∀ w3 W1, Ext w2.drew w3 → GS w1 (fun q => (semT M (trAt f q)).1) k u7 w3 → w3.grownBy W1 (u7).ownBlock → W1.cell? ⟨w.heap.size, 0, none⟩ = some (.int .i64 M.worlds) ∧ W1.cell? ⟨w.heap.size, 1, none⟩ = some (.slice va M.val.length vc) ∧ W1.cell? ⟨w.heap.size, 2, none⟩ = some (.slice ra M.rel.length rc) ∧ W1.cell? ⟨b, off + k * 6, none⟩ = some (.int .i64 (nth f k).op) ∧ W1.cell? ⟨b, off + k * 6 + 1, none⟩ = some (.int .i64 (nth f k).i) ∧ W1.cell? ⟨b, off + k * 6 + 2, none⟩ = some (.int .i64 (nth f k).e) ∧ W1.cell? ⟨b, off + k * 6 + 3, none⟩ = some (.int .i64 (nth f k).g) ∧ W1.cell? ⟨b, off + k * 6 + 4, none⟩ = some (.int .i64 (nth f k).x) ∧ W1.cell? ⟨b, off + k * 6 + 5, none⟩ = some (.int .i64 (nth f k).y)) := by
              intro w3 W1 e hg hgr
              obtain ⟨z1, z2⟩ := HVB.out _ hg
              obtain ⟨a0, a1, a2, a3, a4, a5, a6, a7, a8⟩ := HK1.out _ e
              exact ⟨hgr.cell a0 z1, hgr.cell a1 z1, hgr.cell a2 z1, hgr.cell a3 z2, hgr.cell a4 z2, hgr.cell a5 z2, hgr.cell a6 z2, hgr.cell a7 z2, hgr.cell a8 z2⟩
            have HPA : Hid (∀ w3 o, Ext w2.drew w3 → GS w1 (fun q => (semT M (trAt f q)).1) k u7 (w3.alloc o)) := fun w3 o e => HGS.out.ext' (((HE2.out.drew).trans e).alloc o)
            have HSZ : Hid (∀ w3 o, Ext w2.drew w3 → w1.heap.size ≤ (w3.alloc o).heap.size) := fun w3 o e => (HPA.out w3 o e).e.size
            go_region_held3 (fun w' => w'.cell? ⟨w.heap.size, 0, none⟩ = some (.int .i64 M.worlds) ∧ w'.cell? ⟨w.heap.size, 1, none⟩ = some (.slice va M.val.length vc) ∧ w'.cell? ⟨w.heap.size, 2, none⟩ = some (.slice ra M.rel.length rc) ∧ w'.cell? ⟨b, off + k * 6, none⟩ = some (.int .i64 (nth f k).op) ∧ w'.cell? ⟨b, off + k * 6 + 1, none⟩ = some (.int .i64 (nth f k).i) ∧ w'.cell? ⟨b, off + k * 6 + 2, none⟩ = some (.int .i64 (nth f k).e) ∧ w'.cell? ⟨b, off + k * 6 + 3, none⟩ = some (.int .i64 (nth f k).g) ∧ w'.cell? ⟨b, off + k * 6 + 4, none⟩ = some (.int .i64 (nth f k).x) ∧ w'.cell? ⟨b, off + k * 6 + 5, none⟩ = some (.int .i64 (nth f k).y)) (first | go_keep | assumption | exact HK1.out _ (by assumption) | exact HK1.out _ (Ext.alloc (by assumption) _))
              (first | (go_at_call 151; refine HCO.out.mono ?_; rintro e w3 ⟨rfl, hE3⟩) | (refine step_append_lies _ (by rfl) _ _ 25 (by rfl) w1.heap.size 63 i0 _ 1 8 Tryz.underlying25 hi1 hz0 hz1 hz2 rfl (by decide) u7 k _ (by rfl) (HPA.out _ _ (by assumption)).own _ 1 1 [.int .u64 (un (valN M (nth f k).op (nth f k).i (nth f k).g 0#64 0#64).1)] (by rfl) (by rfl) (cell_one_new _ _ _) HONE.out (by decide) (by unfold maxLen; omega) (by omega) (HSZ.out _ _ (by assumption)) _ rfl ?_; intro gx cap W1 hown hgrow hat hlt2; have hpush := (HPA.out _ _ (by assumption)).push (v' := .slice (some ⟨gx, 0, none⟩) (k + 1) cap) (by rw [HSEM.out]; exact hown) hgrow; have k6 := HK2.out _ _ (Ext.alloc (by assumption) _) (HPA.out _ _ (by assumption)) hgrow; have HPU := Lib.hid hpush; clear hpush hown hgrow hat) | fail)
            go_wp2
            go_roundw
            case rel => exact ⟨k + 1, hlt, by go_num, HPU.out⟩
            case measure => simp [RowKit.intOf]; omega
          · cases huy : (useOf (nth f k).op).1.y
            · obtain ⟨hx0, hxl⟩ := HW.out.x_lt hlt hux
              obtain ⟨X, hX⟩ := Int.eq_ofNat_of_zero_le hx0
              rw [hX, Int.toNat_natCast] at hxl
              have hsem : semT M (trAt f k) = valN M (nth f k).op (nth f k).i (nth f k).g (semT M (trAt f X)).1 0#64 := by
                have e := hfit
                rw [trAt_un HW.out hlt hux huy, hX, Int.toNat_natCast] at e ⊢
                rcases hs : (semT M (trAt f X)).2 with _ | _
                · simp [semT, hs] at e
                · simp [semT, hs]
              have hv2 : (valN M (nth f k).op (nth f k).i (nth f k).g (semT M (trAt f X)).1 0#64).2 = true := by rw [← hsem]; exact hfit
              have hnd : NdOk (nth f k) := nd_ok HW.out hlt
              have HSEM := Lib.hid hsem
              have HONE : Hid (∀ u ∈ [Value.int .u64 (un (valN M (nth f k).op (nth f k).i (nth f k).g (semT M (trAt f X)).1 0#64).1)], u.oneCell' = true) := fun u hu => by
                rcases List.mem_singleton.1 hu with rfl
                rfl
              have HUX := Lib.hid hux
              have HUY := Lib.hid huy
              have HV2 := Lib.hid hv2
              have HND := Lib.hid hnd
              clear hsem hv2 hnd hux huy ht hfit
              obtain ⟨gg, gc, rfl, hcx⟩ := HGS.out.take (by omega) hxl
              rw [hX] at n4
              have hxi : (0 : Int) ≤ (X : Int) := by omega
              have hxk : (X : Int) < (k : Int) := by omega
              go_wp2_with (first | (go_at_call 150; refine HCF.out.mono ?_; rintro e w2 ⟨rfl, hE2⟩; rw [HFK.out, HFIT.out]; have q0 := hE2.cell p0; have q1 := hE2.cell p1; have q2 := hE2.cell p2'; have e0 := hE2.cell n0; have e1 := hE2.cell n1; have e2 := hE2.cell n2; have e3 := hE2.cell n3; have e4 := hE2.cell n4; have e5 := hE2.cell n5; have hb2 := Nat.lt_of_lt_of_le hb hE2.size; have HE2 := Lib.hid hE2; clear n0 n1 n2 n3 n4 n5 p0 p1 p2'; have d1 := hE2.cell hcx; clear hcx) | (go_at_call 127; refine (r5X_any _ _).mono ?_; rintro _ _ ⟨rfl, rfl⟩; rw [HUX.out]) | (go_at_call 128; refine (r5Y_any _ _).mono ?_; rintro _ _ ⟨rfl, rfl⟩; rw [HUY.out]))
              have HCO := Lib.hid (r17One_any M va ra vc rc (nth f k) (semT M (trAt f X)).1 0#64 w2.drew (HM.out.ext (HEr.out.trans HE2.out).drew) N OK.out HND.out HV2.out)
              rw [hX] at HCO
              have hki : (0 : Int) ≤ (k : Int) := by omega
              have hkl : (k : Int) < (f.length : Int) := by omega
              have HVB : Hid (∀ W, GS w1 (fun q => (semT M (trAt f q)).1) k (Value.slice (some ⟨gg, 0, none⟩) k gc) W → some w.heap.size ≠ ((Value.slice (some ⟨gg, 0, none⟩) k gc)).ownBlock ∧ some b ≠ ((Value.slice (some ⟨gg, 0, none⟩) k gc)).ownBlock) := fun W h => ⟨fun e => by have := (h.own.lt _ e.symm).1; omega, fun e => by have := (h.own.lt _ e.symm).1; omega⟩
              have HK1 : Hid (∀ w3, Ext w2.drew w3 → w3.cell? ⟨w.heap.size, 0, none⟩ = some (.int .i64 M.worlds) ∧ w3.cell? ⟨w.heap.size, 1, none⟩ = some (.slice va M.val.length vc) ∧ w3.cell? ⟨w.heap.size, 2, none⟩ = some (.slice ra M.rel.length rc) ∧ w3.cell? ⟨b, off + k * 6, none⟩ = some (.int .i64 (nth f k).op) ∧ w3.cell? ⟨b, off + k * 6 + 1, none⟩ = some (.int .i64 (nth f k).i) ∧ w3.cell? ⟨b, off + k * 6 + 2, none⟩ = some (.int .i64 (nth f k).e) ∧ w3.cell? ⟨b, off + k * 6 + 3, none⟩ = some (.int .i64 (nth f k).g) ∧ w3.cell? ⟨b, off + k * 6 + 4, none⟩ = some (.int .i64 (X : Int)) ∧ w3.cell? ⟨b, off + k * 6 + 5, none⟩ = some (.int .i64 (nth f k).y)) := fun w3 e => ⟨e.cell q0, e.cell q1, e.cell q2, e.cell e0, e.cell e1, e.cell e2, e.cell e3, e.cell e4, e.cell e5⟩
              have HK2 : Hid (∀ w3 W1, Ext w2.drew w3 → GS w1 (fun q => (semT M (trAt f q)).1) k (Value.slice (some ⟨gg, 0, none⟩) k gc) w3 → w3.grownBy W1 ((Value.slice (some ⟨gg, 0, none⟩) k gc)).ownBlock → W1.cell? ⟨w.heap.size, 0, none⟩ = some (.int .i64 M.worlds) ∧ W1.cell? ⟨w.heap.size, 1, none⟩ = some (.slice va M.val.length vc) ∧ W1.cell? ⟨w.heap.size, 2, none⟩ = some (.slice ra M.rel.length rc) ∧ W1.cell? ⟨b, off + k * 6, none⟩ = some (.int .i64 (nth f k).op) ∧ W1.cell? ⟨b, off + k * 6 + 1, none⟩ = some (.int .i64 (nth f k).i) ∧ W1.cell? ⟨b, off + k * 6 + 2, none⟩ = some (.int .i64 (nth f k).e) ∧ W1.cell? ⟨b, off + k * 6 + 3, none⟩ = some (.int .i64 (nth f k).g) ∧ W1.cell? ⟨b, off + k * 6 + 4, none⟩ = some (.int .i64 (X : Int)) ∧ W1.cell? ⟨b, off + k * 6 + 5, none⟩ = some (.int .i64 (nth f k).y)) := by
                intro w3 W1 e hg hgr
                obtain ⟨z1, z2⟩ := HVB.out _ hg
                obtain ⟨a0, a1, a2, a3, a4, a5, a6, a7, a8⟩ := HK1.out _ e
                exact ⟨hgr.cell a0 z1, hgr.cell a1 z1, hgr.cell a2 z1, hgr.cell a3 z2, hgr.cell a4 z2, hgr.cell a5 z2, hgr.cell a6 z2, hgr.cell a7 z2, hgr.cell a8 z2⟩
              have HPA : Hid (∀ w3 o, Ext w2.drew w3 → GS w1 (fun q => (semT M (trAt f q)).1) k (Value.slice (some ⟨gg, 0, none⟩) k gc) (w3.alloc o)) := fun w3 o e => HGS.out.ext' (((HE2.out.drew).trans e).alloc o)
              have HSZ : Hid (∀ w3 o, Ext w2.drew w3 → w1.heap.size ≤ (w3.alloc o).heap.size) := fun w3 o e => (HPA.out w3 o e).e.size
              go_region_held3 (fun w' => w'.cell? ⟨w.heap.size, 0, none⟩ = some (.int .i64 M.worlds) ∧ w'.cell? ⟨w.heap.size, 1, none⟩ = some (.slice va M.val.length vc) ∧ w'.cell? ⟨w.heap.size, 2, none⟩ = some (.slice ra M.rel.length rc) ∧ w'.cell? ⟨b, off + k * 6, none⟩ = some (.int .i64 (nth f k).op) ∧ w'.cell? ⟨b, off + k * 6 + 1, none⟩ = some (.int .i64 (nth f k).i) ∧ w'.cell? ⟨b, off + k * 6 + 2, none⟩ = some (.int .i64 (nth f k).e) ∧ w'.cell? ⟨b, off + k * 6 + 3, none⟩ = some (.int .i64 (nth f k).g) ∧ w'.cell? ⟨b, off + k * 6 + 4, none⟩ = some (.int .i64 (X : Int)) ∧ w'.cell? ⟨b, off + k * 6 + 5, none⟩ = some (.int .i64 (nth f k).y)) (first | go_keep | assumption | exact HK1.out _ (by assumption) | exact HK1.out _ (Ext.alloc (by assumption) _))
                (first | (go_at_call 151; refine HCO.out.mono ?_; rintro e w3 ⟨rfl, hE3⟩) | (refine step_append_lies _ (by rfl) _ _ 25 (by rfl) w1.heap.size 63 i0 _ 1 8 Tryz.underlying25 hi1 hz0 hz1 hz2 rfl (by decide) (Value.slice (some ⟨gg, 0, none⟩) k gc) k _ (by rfl) (HPA.out _ _ (by assumption)).own _ 1 1 [.int .u64 (un (valN M (nth f k).op (nth f k).i (nth f k).g (semT M (trAt f X)).1 0#64).1)] (by rfl) (by rfl) (cell_one_new _ _ _) HONE.out (by decide) (by unfold maxLen; omega) (by omega) (HSZ.out _ _ (by assumption)) _ rfl ?_; intro gx cap W1 hown hgrow hat hlt2; have hpush := (HPA.out _ _ (by assumption)).push (v' := .slice (some ⟨gx, 0, none⟩) (k + 1) cap) (by rw [HSEM.out]; exact hown) hgrow; have k6 := HK2.out _ _ (Ext.alloc (by assumption) _) (HPA.out _ _ (by assumption)) hgrow; have HPU := Lib.hid hpush; clear hpush hown hgrow hat) | fail)
              go_wp2
              go_roundw
              case rel => exact ⟨k + 1, hlt, by go_num, HPU.out⟩
              case measure => simp [RowKit.intOf]; omega
            · obtain ⟨hx0, hxl⟩ := HW.out.x_lt hlt hux
              obtain ⟨X, hX⟩ := Int.eq_ofNat_of_zero_le hx0
              rw [hX, Int.toNat_natCast] at hxl
              obtain ⟨hy0, hyl⟩ := HW.out.y_lt hlt huy
              obtain ⟨Y, hY⟩ := Int.eq_ofNat_of_zero_le hy0
              rw [hY, Int.toNat_natCast] at hyl
              have hsem : semT M (trAt f k) = valN M (nth f k).op (nth f k).i (nth f k).g (semT M (trAt f X)).1 (semT M (trAt f Y)).1 := by
                have e := hfit
                rw [trAt_bin HW.out hlt huy, hX, hY, Int.toNat_natCast, Int.toNat_natCast] at e ⊢
                rcases hs : (semT M (trAt f X)).2 with _ | _
                · simp [semT, hs] at e
                · rcases hs2 : (semT M (trAt f Y)).2 with _ | _
                  · simp [semT, hs2] at e
                  · simp [semT, hs, hs2]
              have hv2 : (valN M (nth f k).op (nth f k).i (nth f k).g (semT M (trAt f X)).1 (semT M (trAt f Y)).1).2 = true := by rw [← hsem]; exact hfit
              have hnd : NdOk (nth f k) := nd_ok HW.out hlt
              have HSEM := Lib.hid hsem
              have HONE : Hid (∀ u ∈ [Value.int .u64 (un (valN M (nth f k).op (nth f k).i (nth f k).g (semT M (trAt f X)).1 (semT M (trAt f Y)).1).1)], u.oneCell' = true) := fun u hu => by
                rcases List.mem_singleton.1 hu with rfl
                rfl
              have HUX := Lib.hid hux
              have HUY := Lib.hid huy
              have HV2 := Lib.hid hv2
              have HND := Lib.hid hnd
              clear hsem hv2 hnd hux huy ht hfit
              obtain ⟨gg, gc, rfl, hcx⟩ := HGS.out.take (by omega) hxl
              rw [hX] at n4
              have hxi : (0 : Int) ≤ (X : Int) := by omega
              have hxk : (X : Int) < (k : Int) := by omega
              obtain ⟨gg2, gc2, hge, hcy⟩ := HGS.out.take (by omega) hyl
              simp only [Value.slice.injEq, Option.some.injEq, Addr.mk.injEq] at hge
              obtain ⟨⟨rfl, -, -⟩, -, rfl⟩ := hge
              rw [hY] at n5
              go_wp2_with (first | (go_at_call 150; refine HCF.out.mono ?_; rintro e w2 ⟨rfl, hE2⟩; rw [HFK.out, HFIT.out]; have q0 := hE2.cell p0; have q1 := hE2.cell p1; have q2 := hE2.cell p2'; have e0 := hE2.cell n0; have e1 := hE2.cell n1; have e2 := hE2.cell n2; have e3 := hE2.cell n3; have e4 := hE2.cell n4; have e5 := hE2.cell n5; have hb2 := Nat.lt_of_lt_of_le hb hE2.size; have HE2 := Lib.hid hE2; clear n0 n1 n2 n3 n4 n5 p0 p1 p2'; have d1 := hE2.cell hcx; clear hcx; have d2 := hE2.cell hcy; clear hcy) | (go_at_call 127; refine (r5X_any _ _).mono ?_; rintro _ _ ⟨rfl, rfl⟩; rw [HUX.out]) | (go_at_call 128; refine (r5Y_any _ _).mono ?_; rintro _ _ ⟨rfl, rfl⟩; rw [HUY.out]))
              have HCO := Lib.hid (r17One_any M va ra vc rc (nth f k) (semT M (trAt f X)).1 (semT M (trAt f Y)).1 w2.drew (HM.out.ext (HEr.out.trans HE2.out).drew) N OK.out HND.out HV2.out)
              rw [hX] at HCO
              rw [hY] at HCO
              have hki : (0 : Int) ≤ (k : Int) := by omega
              have hkl : (k : Int) < (f.length : Int) := by omega
              have HVB : Hid (∀ W, GS w1 (fun q => (semT M (trAt f q)).1) k (Value.slice (some ⟨gg, 0, none⟩) k gc) W → some w.heap.size ≠ ((Value.slice (some ⟨gg, 0, none⟩) k gc)).ownBlock ∧ some b ≠ ((Value.slice (some ⟨gg, 0, none⟩) k gc)).ownBlock) := fun W h => ⟨fun e => by have := (h.own.lt _ e.symm).1; omega, fun e => by have := (h.own.lt _ e.symm).1; omega⟩
              have HK1 : Hid (∀ w3, Ext w2.drew w3 → w3.cell? ⟨w.heap.size, 0, none⟩ = some (.int .i64 M.worlds) ∧ w3.cell? ⟨w.heap.size, 1, none⟩ = some (.slice va M.val.length vc) ∧ w3.cell? ⟨w.heap.size, 2, none⟩ = some (.slice ra M.rel.length rc) ∧ w3.cell? ⟨b, off + k * 6, none⟩ = some (.int .i64 (nth f k).op) ∧ w3.cell? ⟨b, off + k * 6 + 1, none⟩ = some (.int .i64 (nth f k).i) ∧ w3.cell? ⟨b, off + k * 6 + 2, none⟩ = some (.int .i64 (nth f k).e) ∧ w3.cell? ⟨b, off + k * 6 + 3, none⟩ = some (.int .i64 (nth f k).g) ∧ w3.cell? ⟨b, off + k * 6 + 4, none⟩ = some (.int .i64 (X : Int)) ∧ w3.cell? ⟨b, off + k * 6 + 5, none⟩ = some (.int .i64 (Y : Int))) := fun w3 e => ⟨e.cell q0, e.cell q1, e.cell q2, e.cell e0, e.cell e1, e.cell e2, e.cell e3, e.cell e4, e.cell e5⟩
              have HK2 : Hid (∀ w3 W1, Ext w2.drew w3 → GS w1 (fun q => (semT M (trAt f q)).1) k (Value.slice (some ⟨gg, 0, none⟩) k gc) w3 → w3.grownBy W1 ((Value.slice (some ⟨gg, 0, none⟩) k gc)).ownBlock → W1.cell? ⟨w.heap.size, 0, none⟩ = some (.int .i64 M.worlds) ∧ W1.cell? ⟨w.heap.size, 1, none⟩ = some (.slice va M.val.length vc) ∧ W1.cell? ⟨w.heap.size, 2, none⟩ = some (.slice ra M.rel.length rc) ∧ W1.cell? ⟨b, off + k * 6, none⟩ = some (.int .i64 (nth f k).op) ∧ W1.cell? ⟨b, off + k * 6 + 1, none⟩ = some (.int .i64 (nth f k).i) ∧ W1.cell? ⟨b, off + k * 6 + 2, none⟩ = some (.int .i64 (nth f k).e) ∧ W1.cell? ⟨b, off + k * 6 + 3, none⟩ = some (.int .i64 (nth f k).g) ∧ W1.cell? ⟨b, off + k * 6 + 4, none⟩ = some (.int .i64 (X : Int)) ∧ W1.cell? ⟨b, off + k * 6 + 5, none⟩ = some (.int .i64 (Y : Int))) := by
                intro w3 W1 e hg hgr
                obtain ⟨z1, z2⟩ := HVB.out _ hg
                obtain ⟨a0, a1, a2, a3, a4, a5, a6, a7, a8⟩ := HK1.out _ e
                exact ⟨hgr.cell a0 z1, hgr.cell a1 z1, hgr.cell a2 z1, hgr.cell a3 z2, hgr.cell a4 z2, hgr.cell a5 z2, hgr.cell a6 z2, hgr.cell a7 z2, hgr.cell a8 z2⟩
              have HPA : Hid (∀ w3 o, Ext w2.drew w3 → GS w1 (fun q => (semT M (trAt f q)).1) k (Value.slice (some ⟨gg, 0, none⟩) k gc) (w3.alloc o)) := fun w3 o e => HGS.out.ext' (((HE2.out.drew).trans e).alloc o)
              have HSZ : Hid (∀ w3 o, Ext w2.drew w3 → w1.heap.size ≤ (w3.alloc o).heap.size) := fun w3 o e => (HPA.out w3 o e).e.size
              go_region_held3 (fun w' => w'.cell? ⟨w.heap.size, 0, none⟩ = some (.int .i64 M.worlds) ∧ w'.cell? ⟨w.heap.size, 1, none⟩ = some (.slice va M.val.length vc) ∧ w'.cell? ⟨w.heap.size, 2, none⟩ = some (.slice ra M.rel.length rc) ∧ w'.cell? ⟨b, off + k * 6, none⟩ = some (.int .i64 (nth f k).op) ∧ w'.cell? ⟨b, off + k * 6 + 1, none⟩ = some (.int .i64 (nth f k).i) ∧ w'.cell? ⟨b, off + k * 6 + 2, none⟩ = some (.int .i64 (nth f k).e) ∧ w'.cell? ⟨b, off + k * 6 + 3, none⟩ = some (.int .i64 (nth f k).g) ∧ w'.cell? ⟨b, off + k * 6 + 4, none⟩ = some (.int .i64 (X : Int)) ∧ w'.cell? ⟨b, off + k * 6 + 5, none⟩ = some (.int .i64 (Y : Int))) (first | go_keep | assumption | exact HK1.out _ (by assumption) | exact HK1.out _ (Ext.alloc (by assumption) _))
                (first | (go_at_call 151; refine HCO.out.mono ?_; rintro e w3 ⟨rfl, hE3⟩) | (refine step_append_lies _ (by rfl) _ _ 25 (by rfl) w1.heap.size 63 i0 _ 1 8 Tryz.underlying25 hi1 hz0 hz1 hz2 rfl (by decide) (Value.slice (some ⟨gg, 0, none⟩) k gc) k _ (by rfl) (HPA.out _ _ (by assumption)).own _ 1 1 [.int .u64 (un (valN M (nth f k).op (nth f k).i (nth f k).g (semT M (trAt f X)).1 (semT M (trAt f Y)).1).1)] (by rfl) (by rfl) (cell_one_new _ _ _) HONE.out (by decide) (by unfold maxLen; omega) (by omega) (HSZ.out _ _ (by assumption)) _ rfl ?_; intro gx cap W1 hown hgrow hat hlt2; have hpush := (HPA.out _ _ (by assumption)).push (v' := .slice (some ⟨gx, 0, none⟩) (k + 1) cap) (by rw [HSEM.out]; exact hown) hgrow; have k6 := HK2.out _ _ (Ext.alloc (by assumption) _) (HPA.out _ _ (by assumption)) hgrow; have HPU := Lib.hid hpush; clear hpush hown hgrow hat) | fail)
              go_wp2
              go_roundw
              case rel => exact ⟨k + 1, hlt, by go_num, HPU.out⟩
              case measure => simp [RowKit.intOf]; omega
      · obtain rfl : k = f.length := by omega
        obtain ⟨a, c, rfl, hu⟩ := hgs.done (by omega)
        have HU := Lib.hid hu
        clear hgs hu
        go_wp2
        go_ret2
        have hl : (setsOf M f).length = f.length := by rw [HS.out]; simp
        refine ⟨a, c, ?_, ?_, (HE.out.trans HE1.out).trans HGS.out.e⟩
        · rw [hl, HR.out]; rfl
        · rw [HS.out]; exact HU.out
  · have HS : Hid (setsOf M f = []) := if_neg h
    have hq : (reqErr M f != 0) = true := by simp [h]
    clear h
    go_enter Tryz.func111, Tryz.ntmps111
    go_wp2_with (go_at_call 113; refine HC.out.mono ?_; rintro e w1 ⟨rfl, hE1⟩)
    go_ret2
    refine ⟨none, 0, ?_, ?_, HE.out.trans hE1⟩
    · rw [HS.out]; rfl
    · rw [HS.out]; exact RU.nil _ _
end Wt

/- Walks: wittingref17.Holds, At, Valid; wittingref13.SameSets, Few. -/
namespace Wt
open Go Go.RowKit Go.Maps Go.Proofs Fm

/-- The canonical list has the error of the formula. -/
theorem reqErr_compact (M : Mo) {f : List Nd} (h : fCheck f = 0) : reqErr M (fCompact f) = reqErr M f ∧ (fCompact f).length = fsize (trAt f (f.length - 1)) ∧ trAt (fCompact f) ((fCompact f).length - 1) = trAt f (f.length - 1) := by
  obtain ⟨h0, h200, hw⟩ := fCheck_ok.1 h
  obtain ⟨hc, hk⟩ := fCompact_of h
  have ht : fok (trAt f (f.length - 1)) := fok_trAt hw _ _ (Nat.lt_succ_self _) hk
  have hs : fsize (trAt f (f.length - 1)) ≤ 200 := Nat.le_trans (fsize_le hw hk) h200
  have hcc := compact_canon _ ht hs
  have hck := canon_check _ ht hs
  have e1 : fFrags (fCompact f) = fFrags f := by unfold fFrags; rw [hc, hcc]
  have e2 : fFits (fCompact f) M.rel.length M.val.length = fFits f M.rel.length M.val.length := by
    unfold fFits fAgents fFacts; rw [hc, hcc, hck, h]
  refine ⟨?_, by rw [hc, canon_length], by rw [hc, trAt_canon _ ht]⟩
  unfold reqErr
  rw [e1, e2, hc, hck, h]
theorem reqErr_none (M : Mo) {f : List Nd} (h : fCheck f ≠ 0) : reqErr M f ≠ 0 ∧ reqErr M (fCompact f) ≠ 0 := by
  have h3 : fCheck ([] : List Nd) = 3 := rfl
  rw [fCompact_no h]
  refine ⟨fun e => h (reqErr_ok e).2.1, fun e => ?_⟩
  have := (reqErr_ok e).2.1
  rw [h3] at this; omega
theorem reqErr_iff (M : Mo) (f : List Nd) : reqErr M (fCompact f) = 0 ↔ reqErr M f = 0 := by
  by_cases h : fCheck f = 0
  · rw [(reqErr_compact M h).1]
  · have := reqErr_none M h
    exact ⟨fun e => absurd e this.2, fun e => absurd e this.1⟩
set_option maxRecDepth 20000 in
set_option maxHeartbeats 2000000 in
theorem r17Holds_any (M : Mo) (va ra : Option Addr) (vc rc : Nat) (fa : Option Addr) (fc : Nat) (f : List Nd) (w : World) (hm : RM w va ra M) (hf : RN w fa f) :
    Calls Tryz.prog 76 #[.agg #[.int .i64 M.worlds, .slice va M.val.length vc, .slice ra M.rel.length rc], .slice fa f.length fc] w fun e w' => RetP (.int .u64 (un (holdsOf M f))) (reqErr M f) e w w' := by
  have hE0 := (Ext.refl w).alloc (.cells #[.int .i64 M.worlds, .slice va M.val.length vc, .slice ra M.rel.length rc] 28)
  have HM := Lib.hid (hm.ext hE0)
  have HF := Lib.hid (hf.ext hE0)
  have hbx := MoBox.new w M.worlds M.val M.rel va vc ra rc 28
  have HE := Lib.hid hE0
  clear hE0 hm hf
  have HI := Lib.hid (reqErr_iff M f)
  have HCM : Hid (∀ w, RN w fa f → Calls Tryz.prog 112 #[.slice fa f.length fc] w (fun e w' => RetN (fCompact f) e w w')) := fun w h => r5Compact_any fa fc f w h
  have HCK : Hid (∀ w, RM w va ra M → RN w fa f → Calls Tryz.prog 113 #[.agg #[.int .i64 M.worlds, .slice va M.val.length vc, .slice ra M.rel.length rc], .slice fa f.length fc, .int .i64 15] w (fun e w' => e = .returned (.int .i64 (reqErr M f)) ∧ Ext w w')) := fun w h h2 => r17Check_any M va ra vc rc fa fc f w h h2
  by_cases h : reqErr M f = 0
  · have h2 := (reqErr_ok h).2.1
    obtain ⟨k1, k2, k3⟩ := reqErr_compact M h2
    have hN : holdsOf M f = lastSet M f := if_pos h
    have hS : setsOf M (fCompact f) = (List.range (fCompact f).length).map (fun k => (semT M (trAt (fCompact f) k)).1) := if_pos (k1.trans h)
    have hp : 0 < (fCompact f).length := by rw [k2]; exact fsize_pos _
    have hSl : (setsOf M (fCompact f)).length = (fCompact f).length := by rw [hS]; simp
    have hSn : nth (setsOf M (fCompact f)) ((fCompact f).length - 1) = lastSet M f := by
      rw [nth_eq _ _ (by omega)]
      simp [hS, lastSet, k3]
    have h200 := (fCompact_ok f).2
    have HN := Lib.hid hN
    have HR := Lib.hid h
    have HS := Lib.hid hSn
    have HL := Lib.hid hSl
    have HK1 := Lib.hid (k1.trans h)
    clear h h2 k1 k2 k3 hN hS hSn hSl HI HCK
    generalize fCompact f = C at *
    have hsub : IntKind.i64.wrap ((C.length : Int) - 1) = ((C.length - 1 : Nat) : Int) := by rw [IntWalk.i64_in _ (by omega)]; omega
    have hq : ((C.length : Int) == 0) = false := by
      have : ¬ ((C.length : Int) = 0) := by omega
      simpa using this
    have hpos : 0 < C.length := hp
    go_enter Tryz.func76, Tryz.ntmps76
    go_wp2_with fail
    generalize w.alloc (.cells #[.int .i64 M.worlds, .slice va M.val.length vc, .slice ra M.rel.length rc] 28) = W0 at *
    obtain ⟨m0, m1, m2⟩ := hbx
    dsimp only at m0 m1 m2
    have HCX := Lib.hid (HCM.out W0.drew (HF.out.ext ((Ext.refl _).drew)))
    have HKP : Hid (∀ w1, Ext W0.drew w1 → w1.cell? ⟨w.heap.size, 0, none⟩ = some (.int .i64 M.worlds) ∧ w1.cell? ⟨w.heap.size, 1, none⟩ = some (.slice va M.val.length vc) ∧ w1.cell? ⟨w.heap.size, 2, none⟩ = some (.slice ra M.rel.length rc)) := fun w1 e => ⟨e.cell m0, e.cell m1, e.cell m2⟩
    go_region_held3 (fun w' => w'.cell? ⟨w.heap.size, 0, none⟩ = some (.int .i64 M.worlds) ∧ w'.cell? ⟨w.heap.size, 1, none⟩ = some (.slice va M.val.length vc) ∧ w'.cell? ⟨w.heap.size, 2, none⟩ = some (.slice ra M.rel.length rc)) (first | go_keep | exact HKP.out _ (by assumption))
      (first | (go_at_call 112; refine HCX.out.mono ?_; rintro e w1 ⟨ca, cc, rfl, hcn, hE1⟩) | (go_at_call 111; refine (r17Sets_any M va ra vc rc ca cc C _ (HM.out.ext (((Ext.refl _).drew).trans hE1)) hcn).mono ?_; rintro e w2 ⟨a, c, rfl, hu, hE2⟩; have hE3 := hE1.trans hE2; obtain ⟨gb, goff, rfl, hgb, hgc⟩ := hu.get (k := C.length - 1) (by rw [HL.out]; omega); rw [HS.out] at hgc; rw [HL.out, HK1.out]) | fail)
    all_goals
      go_wp2
      go_ret2
      exact ⟨by rw [HN.out, HR.out]; rfl, HE.out.drew.trans hE3⟩
  · have hN : holdsOf M f = 0#64 := if_neg h
    have hCn : reqErr M (fCompact f) ≠ 0 := fun e => h (HI.out.1 e)
    have HN := Lib.hid hN
    have hq : (reqErr M (fCompact f) != 0) = true := by simp [hCn]
    clear hN h hCn HI
    generalize fCompact f = C at *
    go_enter Tryz.func76, Tryz.ntmps76
    go_wp2_with fail
    generalize w.alloc (.cells #[.int .i64 M.worlds, .slice va M.val.length vc, .slice ra M.rel.length rc] 28) = W0 at *
    obtain ⟨m0, m1, m2⟩ := hbx
    dsimp only at m0 m1 m2
    have HCX := Lib.hid (HCM.out W0.drew (HF.out.ext ((Ext.refl _).drew)))
    have HKP : Hid (∀ w1, Ext W0.drew w1 → w1.cell? ⟨w.heap.size, 0, none⟩ = some (.int .i64 M.worlds) ∧ w1.cell? ⟨w.heap.size, 1, none⟩ = some (.slice va M.val.length vc) ∧ w1.cell? ⟨w.heap.size, 2, none⟩ = some (.slice ra M.rel.length rc)) := fun w1 e => ⟨e.cell m0, e.cell m1, e.cell m2⟩
    go_region_held3 (fun w' => w'.cell? ⟨w.heap.size, 0, none⟩ = some (.int .i64 M.worlds) ∧ w'.cell? ⟨w.heap.size, 1, none⟩ = some (.slice va M.val.length vc) ∧ w'.cell? ⟨w.heap.size, 2, none⟩ = some (.slice ra M.rel.length rc)) (first | go_keep | exact HKP.out _ (by assumption))
      (first | (go_at_call 112; refine HCX.out.mono ?_; rintro e w1 ⟨ca, cc, rfl, hcn, hE1⟩) | (go_at_call 111; refine (r17Sets_any M va ra vc rc ca cc C _ (HM.out.ext (((Ext.refl _).drew).trans hE1)) hcn).mono ?_; rintro e w2 ⟨a, c, rfl, hu, hE2⟩; have hE3 := hE1.trans hE2; obtain ⟨z0, z1, z2⟩ := HKP.out _ hE3) | fail)
    all_goals
      go_wp2_with (go_at_call 113; refine (HCK.out _ (HM.out.ext (((Ext.refl _).drew).trans hE3)) (HF.out.ext (((Ext.refl _).drew).trans hE3))).mono ?_; rintro e w4 ⟨rfl, hE4⟩)
      go_ret2
      exact ⟨by rw [HN.out]; rfl, (HE.out.drew.trans hE3).trans hE4⟩
end Wt

/- Walks: wittingref17.At, Valid; wittingref13.SameSets. -/
namespace Wt
open Go Go.RowKit Go.Maps Go.Proofs Fm

end Wt
