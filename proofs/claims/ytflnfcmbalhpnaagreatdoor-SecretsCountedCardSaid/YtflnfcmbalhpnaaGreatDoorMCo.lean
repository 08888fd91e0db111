/- The walk of SecretsCounted (printed by gen_lcs.py). -/
import Derived.Test.YtflnfcmbalhpnaaGreatDoorM7Ac
import Derived.Test.YtflnfcmbalhpnaaGreatDoorM5Af
import Derived.Test.YtflnfcmbalhpnaaGreatDoorM4Bp
import Derived.Test.YtflnfcmbalhpnaaGreatDoorRows
import Derived.Test.YtflnfcmbalhpnaaGreatDoorCards
import Derived.Test.YtflnfcmbalhpnaaGreatDoorTie
import Derived.ProofKit
import Derived.LaidMore
import Derived.SizedLaws
import Derived.SevenTiedAt
import Derived.OpenShut
namespace Wt
open Go Go.RowKit Go.Maps Go.Proofs Fm

set_option maxRecDepth 20000 in
set_option maxHeartbeats 8000000 in
theorem secretsCounted_any (n v q0 q1 q2 : Int) (w : World) (hT : Tab w) :
    Calls Tryz.prog 7 #[.int .i64 n, .int .i64 v, .agg #[.int .i64 q0, .int .i64 q1, .int .i64 q2]] w fun e w' => e = .returned (.bool true) ∧ Ext w w' := by
  obtain ⟨P, c, hD, hR, hL⟩ := counted_both n v
  obtain ⟨Q, d, hD2, hR2, hG⟩ := decided_both n v q0
  obtain ⟨b1, e1, hS1, hU1⟩ := hL q1 q2
  obtain ⟨b2, e2, hS2, hU2⟩ := hG q1 q2
  have HD := Lib.hid hD
  have HR := Lib.hid hR
  have HD2 := Lib.hid hD2
  have HR2 := Lib.hid hR2
  have HS1 := Lib.hid hS1
  have HU1 := Lib.hid hU1
  have HS2 := Lib.hid hS2
  have HU2 := Lib.hid hU2
  have HT := Lib.hid hT
  have hn1 : (P.2 != P.2) = false := by simp
  have hn2 : (c != c) = false := by simp
  have hn3 : (Q.2 != Q.2) = false := by simp
  have hn4 : (d != d) = false := by simp
  have he1 : (b1 == b1) = true := by simp
  have he2 : (e1 == e1) = true := by simp
  have he3 : (b2 == b2) = true := by simp
  have he4 : (e2 == e2) = true := by simp
  clear hD hR hD2 hR2 hS1 hU1 hS2 hU2 hL hG
  have hE0 : Ext w (w.alloc (.cells #[.int .i64 q0, .int .i64 q1, .int .i64 q2] 37)) := (Ext.refl w).alloc _
  have HQ := Lib.hid (OutAt.new w (.int .i64 q0) (.int .i64 q1) (.int .i64 q2) 37)
  have HE0 := Lib.hid hE0
  clear hE0 hT
  go_enter Tryz.func7, Tryz.ntmps7
  go_wp2_with fail
  generalize w.alloc (.cells #[.int .i64 q0, .int .i64 q1, .int .i64 q2] 37) = w0 at *
  obtain ⟨x0, x1, x2, -⟩ := HQ.out
  have xl := HQ.out.lt
  refine (HD.out _ (HT.out.ext HE0.out)).mono ?_
  rintro _ w1 ⟨va, ra, vc, rc, rfl, hk1, hE1⟩
  have hA1 : Ext w1 (w1.alloc (.cells #[.int .i64 P.1.worlds, .slice va P.1.val.length vc, .slice ra P.1.rel.length rc] 25)) := (Ext.refl w1).alloc _
  have HK1 := Lib.hid (hk1 _ (Agree.ofExt hA1))
  have HO1 := Lib.hid (OutAt.new w1 (.int .i64 P.1.worlds) (.slice va P.1.val.length vc) (.slice ra P.1.rel.length rc) 25)
  have HLT1 : Hid (w0.heap.size ≤ w1.heap.size) := Lib.hid hE1.size
  have HE1 := Lib.hid (hE1.trans hA1)
  clear x0 x1 x2 xl
  have HY1 := Lib.hid ((Ext.refl w0).trans hE1)
  obtain ⟨x0, x1, x2, -⟩ := HQ.out.ext HY1.out
  have xl := (HQ.out.ext HY1.out).lt
  clear hk1 hE1 hA1
  dsimp only
  go_wp2_with fail
  clear x0 x1 x2 xl
  generalize w1.alloc (.cells #[.int .i64 P.1.worlds, .slice va P.1.val.length vc, .slice ra P.1.rel.length rc] 25) = w2 at *
  have HX1 := Lib.hid ((Ext.refl w0).trans HE1.out)
  obtain ⟨x0, x1, x2, -⟩ := HQ.out.ext HX1.out
  have xl := (HQ.out.ext HX1.out).lt
  refine (HR.out _).mono ?_
  rintro _ w3 ⟨vb, rb, vd, rd, rfl, hk3, hE3⟩
  have hA3 : Ext w3 (w3.alloc (.cells #[.int .i64 P.1.worlds, .slice vb P.1.val.length vd, .slice rb P.1.rel.length rd] 25)) := (Ext.refl w3).alloc _
  have HK3 := Lib.hid (hk3 _ (Agree.ofExt hA3))
  have HO3 := Lib.hid (OutAt.new w3 (.int .i64 P.1.worlds) (.slice vb P.1.val.length vd) (.slice rb P.1.rel.length rd) 25)
  have HLT3 : Hid (w1.heap.size < w3.heap.size) := Lib.hid (HO1.out.ext hE3).lt
  have HE3 := Lib.hid (hE3.trans hA3)
  clear x0 x1 x2 xl
  have HY3 := Lib.hid (HX1.out.trans hE3)
  obtain ⟨x0, x1, x2, -⟩ := HQ.out.ext HY3.out
  have xl := (HQ.out.ext HY3.out).lt
  obtain ⟨a0, a1, a2, -⟩ := HO1.out.ext hE3
  have al := (HO1.out.ext hE3).lt
  clear hk3 hE3 hA3
  dsimp only
  go_wp2_with fail
  clear x0 x1 x2 xl a0 a1 a2 al
  generalize w3.alloc (.cells #[.int .i64 P.1.worlds, .slice vb P.1.val.length vd, .slice rb P.1.rel.length rd] 25) = w4 at *
  have HX3 := Lib.hid (HX1.out.trans HE3.out)
  obtain ⟨x0, x1, x2, -⟩ := HQ.out.ext HX3.out
  have xl := (HQ.out.ext HX3.out).lt
  clear x0 x1 x2 xl
  refine (sameM_any P.1 va ra vb rb vc rc vd rd _ (HK1.out.ext' HE3.out) HK3.out).mono ?_
  rintro _ w5 ⟨rfl, hE5⟩
  have HX5 := Lib.hid (HX3.out.trans hE5)
  have HO15 := Lib.hid (HO1.out.ext (HE3.out.trans hE5))
  have HO35 := Lib.hid (HO3.out.ext hE5)
  have HLT : Hid (w0.heap.size ≤ w1.heap.size ∧ w1.heap.size < w3.heap.size ∧ w3.heap.size < w5.heap.size) := Lib.hid ⟨HLT1.out, HLT3.out, HO35.out.lt⟩
  obtain ⟨x0, x1, x2, -⟩ := HQ.out.ext HX5.out
  have xl := (HQ.out.ext HX5.out).lt
  clear hE5
  dsimp only
  go_wp2_with fail
  refine (HD2.out _ (HT.out.ext (HE0.out.trans HX5.out))).mono ?_
  rintro _ w6 ⟨ve, re, vf, rf, rfl, hk6, hE6⟩
  have HK6 := Lib.hid hk6
  have HE6 := Lib.hid hE6
  have HO16 := Lib.hid (HO15.out.ext hE6)
  obtain ⟨a0, a1, a2, afz⟩ := HO16.out
  have al := HO16.out.lt
  have af0 := afz 0
  have af1 := afz 1
  have af2 := afz 2
  clear x0 x1 x2 xl hk6 hE6 afz
  dsimp only
  go_upto_region 6 with fail
  obtain ⟨hX7, hO17, hag7, hsz7⟩ := stored3 HO16.out (HX5.out.trans HE6.out) HLT.out.1 (B := w5.heap.size) (Nat.lt_trans HLT.out.2.1 HLT.out.2.2) (.int .i64 Q.1.worlds) (.slice ve Q.1.val.length vf) (.slice re Q.1.rel.length rf)
  have HO37 := Lib.hid ((((HO35.out.ext HE6.out).other (u := .int .i64 Q.1.worlds) (b' := w1.heap.size) (k := 0) (by have := HLT.out; omega)).other (u := .slice ve Q.1.val.length vf) (b' := w1.heap.size) (k := 1) (by have := HLT.out; omega)).other (u := .slice re Q.1.rel.length rf) (b' := w1.heap.size) (k := 2) (by have := HLT.out; omega))
  have HX7 := Lib.hid hX7
  have HO17 := Lib.hid hO17
  have HAG7 := Lib.hid hag7
  have HSZ7 : Hid (w5.heap.size ≤ w6.heap.size) := Lib.hid HE6.out.size
  have HSZ7' := Lib.hid hsz7
  clear a0 a1 a2 al af0 af1 af2 hX7 hO17 hag7 hsz7
  generalize ((w6.setCell ⟨w1.heap.size, 0, none⟩ (.int .i64 Q.1.worlds)).setCell ⟨w1.heap.size, 1, none⟩ (.slice ve Q.1.val.length vf)).setCell ⟨w1.heap.size, 2, none⟩ (.slice re Q.1.rel.length rf) = w7 at *
  obtain ⟨x0, x1, x2, -⟩ := HQ.out.ext HX7.out
  have xl := (HQ.out.ext HX7.out).lt
  go_wp2_with fail
  refine (HR2.out _).mono ?_
  rintro _ w8 ⟨vg, rg, vh, rh, rfl, hk8, hE8⟩
  have HK8 := Lib.hid hk8
  have HE8 := Lib.hid hE8
  have HO38 := Lib.hid (HO37.out.ext hE8)
  obtain ⟨a0, a1, a2, afz⟩ := HO38.out
  have al := HO38.out.lt
  have af0 := afz 0
  have af1 := afz 1
  have af2 := afz 2
  clear x0 x1 x2 xl hk8 hE8 afz
  dsimp only
  go_upto_region 7 with fail
  obtain ⟨hX9, hO39, hag9, hsz9⟩ := stored3 HO38.out (HX7.out.trans HE8.out) (by have := HLT.out; omega) (B := w5.heap.size) HLT.out.2.2 (.int .i64 Q.1.worlds) (.slice vg Q.1.val.length vh) (.slice rg Q.1.rel.length rh)
  have HO19 := Lib.hid ((((HO17.out.ext HE8.out).other (u := .int .i64 Q.1.worlds) (b' := w3.heap.size) (k := 0) (by have := HLT.out; omega)).other (u := .slice vg Q.1.val.length vh) (b' := w3.heap.size) (k := 1) (by have := HLT.out; omega)).other (u := .slice rg Q.1.rel.length rh) (b' := w3.heap.size) (k := 2) (by have := HLT.out; omega))
  have HX9 := Lib.hid hX9
  have HO39 := Lib.hid hO39
  have HAG9 := Lib.hid hag9
  clear a0 a1 a2 al af0 af1 af2 hX9 hO39 hag9 hsz9
  have HM1 : Hid (RM (((w8.setCell ⟨w3.heap.size, 0, none⟩ (.int .i64 Q.1.worlds)).setCell ⟨w3.heap.size, 1, none⟩ (.slice vg Q.1.val.length vh)).setCell ⟨w3.heap.size, 2, none⟩ (.slice rg Q.1.rel.length rh)) ve re Q.1) := Lib.hid (HK6.out _ (HAG7.out.trans ((Agree.ofExt HE8.out).trans HAG9.out HE8.out.size) HSZ7'.out))
  have HM2 : Hid (RM (((w8.setCell ⟨w3.heap.size, 0, none⟩ (.int .i64 Q.1.worlds)).setCell ⟨w3.heap.size, 1, none⟩ (.slice vg Q.1.val.length vh)).setCell ⟨w3.heap.size, 2, none⟩ (.slice rg Q.1.rel.length rh)) vg rg Q.1) := Lib.hid (HK8.out _ (HAG9.out.mono (Nat.le_trans HSZ7.out HSZ7'.out)))
  generalize ((w8.setCell ⟨w3.heap.size, 0, none⟩ (.int .i64 Q.1.worlds)).setCell ⟨w3.heap.size, 1, none⟩ (.slice vg Q.1.val.length vh)).setCell ⟨w3.heap.size, 2, none⟩ (.slice rg Q.1.rel.length rh) = w9 at *
  obtain ⟨a0, a1, a2, -⟩ := HO19.out
  obtain ⟨b0, b1', b2', -⟩ := HO39.out
  have al := World.block_lt_of_cell? _ _ a0
  have bl := World.block_lt_of_cell? _ _ b0
  dsimp only at al bl
  go_wp2_with fail
  clear a0 a1 a2 b0 b1' b2' al bl
  refine (sameM_any Q.1 ve re vg rg vf rf vh rh _ HM1.out HM2.out).mono ?_
  rintro _ wa ⟨rfl, hEa⟩
  have HXa := Lib.hid (HX9.out.trans hEa)
  obtain ⟨x0, x1, x2, -⟩ := HQ.out.ext HXa.out
  have xl := (HQ.out.ext HXa.out).lt
  clear hEa
  dsimp only
  go_wp2_with fail
  refine (HS1.out _ (HT.out.ext (HE0.out.trans HXa.out))).mono ?_
  rintro _ wb ⟨rfl, hEb⟩
  have HXb := Lib.hid (HXa.out.trans hEb)
  clear hEb
  clear x0 x1 x2 xl
  obtain ⟨x0, x1, x2, -⟩ := HQ.out.ext HXb.out
  have xl := (HQ.out.ext HXb.out).lt
  dsimp only
  go_wp2_with fail
  refine (HU1.out _).mono ?_
  rintro _ wc ⟨rfl, hEc⟩
  have HXc := Lib.hid (HXb.out.trans hEc)
  clear hEc
  clear x0 x1 x2 xl
  obtain ⟨x0, x1, x2, -⟩ := HQ.out.ext HXc.out
  have xl := (HQ.out.ext HXc.out).lt
  dsimp only
  go_wp2_with fail
  refine (HS2.out _ (HT.out.ext (HE0.out.trans HXc.out))).mono ?_
  rintro _ wd ⟨rfl, hEd⟩
  have HXd := Lib.hid (HXc.out.trans hEd)
  clear hEd
  clear x0 x1 x2 xl
  obtain ⟨x0, x1, x2, -⟩ := HQ.out.ext HXd.out
  have xl := (HQ.out.ext HXd.out).lt
  dsimp only
  go_wp2_with fail
  refine (HU2.out _).mono ?_
  rintro _ we ⟨rfl, hEe⟩
  have HXe := Lib.hid (HE0.out.trans (HXd.out.trans hEe))
  clear hEe x0 x1 x2 xl
  dsimp only
  go_wp2_with fail
  refine (awake44_any _ (HT.out.ext HXe.out)).mono ?_
  rintro _ wf ⟨rfl, hEf⟩
  dsimp only
  go_wp2_with fail
  go_ret
  exact ⟨rfl, HXe.out.trans hEf⟩
end Wt

namespace Go.Proofs.YtflnfcmbalhpnaaGreatDoor
open Go.ChangeShapes Go.WideShapes Go.ChangeAt Go.WideMaps Go.WideElems Go.RowKit

theorem own : ownKnob Tryz.prog.godebug = none := by kernel_rfl
theorem laidOut : laidOutB Tryz.prog = true := by kernel_rfl
theorem okWide_arr {P : Program} {w : World} {r : Reach} {base : Nat} {t e : TypeId} {n : Nat} {v : Value} (ht : P.underlying t = some (.array n e)) (h : Value.okWide P w r base t v) : ∃ cs, v = .agg cs := by
  unfold Value.okWide at h
  rw [ht] at h
  obtain ⟨cs, h1, _⟩ := h
  exact ⟨cs, h1⟩
set_option maxRecDepth 100000 in
theorem open_int3 {H : Type} {enc : TypeId × Value → H} {w : World} {v : Value} {d : DataW H} {p : List MemPlace} {r : Reach} {b0 : Nat} (hval : Value.okWide Tryz.prog w r b0 37 v) (h : DataW.Trod enc Tryz.prog w 0 (fun _ => true) true 37 v d p) :
    ∃ z0 z1 z2 : Int, v = .agg #[.int .i64 z0, .int .i64 z1, .int .i64 z2] := by
  have hc0 : Tryz.prog.cellsOf 3 = 1 := by kernel_rfl
  have hc3 : Tryz.prog.cellsOf 37 = 3 := by kernel_rfl
  obtain ⟨cs, rfl⟩ := okWide_arr Tryz.underlying37 hval
  obtain ⟨fuel, h⟩ := h
  obtain ⟨xs, m, _, _, hl, hxl, hi⟩ := DataW.trod_array Tryz.underlying37 h
  rw [hc3] at hl
  match xs, hxl with
  | [y0, y1, y2], _ =>
    have u0 := hi 0 (by omega)
    have u1 := hi 1 (by omega)
    have u2 := hi 2 (by omega)
    simp only [hc0, List.getElem?_cons_zero, List.getElem?_cons_succ] at u0 u1 u2
    obtain ⟨z0, hi0, _, w0⟩ := DataW.trod_int Tryz.underlying3 u0
    obtain ⟨z1, hi1, _, w1⟩ := DataW.trod_int Tryz.underlying3 u1
    obtain ⟨z2, hi2, _, w2⟩ := DataW.trod_int Tryz.underlying3 u2
    have hcl : (Value.agg cs).cells.toList = [.int .i64 z0, .int .i64 z1, .int .i64 z2] := by
      generalize (Value.agg cs).cells.toList = L at hl hi0 hi1 hi2
      match L, hl with
      | [c0, c1, c2], _ =>
        simp at hi0 hi1 hi2
        rw [hi0, hi1, hi2]
    have e2 : cs.toList = [.int .i64 z0, .int .i64 z1, .int .i64 z2] := hcl
    have e3 : cs = #[.int .i64 z0, .int .i64 z1, .int .i64 z2] := by
      apply Array.ext'
      rw [e2]
    exact ⟨z0, z1, z2, by rw [e3]⟩
theorem door_met (os : Os) (args : Array Value) : laidMetH Tryz.prog [("math/bits.deBruijn64tab", Rows.laid_math_bits_deBruijn64tab)] ((World.doorLaid Tryz.prog 400 os).forCall (fun _ _ => 0) ⟨#[], args, []⟩).memory := by
  rw [MakeChecks.laidMetH_plain _ _ _ (by kernel_rfl)]
  exact laidMet_of_run' 8 (by kernel_rfl) (by kernel_rfl)
set_option maxRecDepth 100000 in
set_option maxHeartbeats 1000000 in
theorem law_lifted (os : Os) (started : os.Started) (H : Type) (enc : TypeId × Value → H) :
    ReturnsInHanded {} Tryz.checked os 7 .any (fun w args => (Rows.secretsCountedSpec.pre enc Tryz.prog Tryz.f7 Rows.secretsCountedRow.domain false w args ∧ laidMetH Tryz.prog [("math/bits.deBruijn64tab", Rows.laid_math_bits_deBruijn64tab)] w) ∧ sizedMet enc Tryz.prog Tryz.f7 (OpenSpec.ofChange Rows.secretsCountedSpec) false w args)
      (Rows.secretsCountedSpec.post enc Tryz.prog Tryz.f7 false true false false) := by
  refine returnsInHanded_of_change_and (C := Tryz.checked) (X := fun w _ => laidMetH Tryz.prog [("math/bits.deBruijn64tab", Rows.laid_math_bits_deBruijn64tab)] w) (fun _ _ _ hh h => h.of_heap hh) own started (by kernel_rfl) Tryz.func7
    (ChangeSpec.witness_shaped (enc := enc) (C := Tryz.checked) (os := os) (X := fun w _ => laidMetH Tryz.prog [("math/bits.deBruijn64tab", Rows.laid_math_bits_deBruijn64tab)] w) false (World.doorLaid Tryz.prog 400 os) #[.int .i64 0, .int .i64 0, .agg #[.int .i64 0, .int .i64 0, .int .i64 0]] 8 rfl (World.shaped_of_RefB (by kernel_rfl) (by kernel_rfl)) (by kernel_rfl) (by kernel_rfl) (by kernel_rfl) (door_met os _)) ?_
  intro W base args ds gs before hval0 hW _ hsz0 hL _
  have hT := of_laid hL
  have hval : ∀ (j : Nat) t v, Tryz.f7.params[j]? = some t → args[j]? = some v → Value.okWide Tryz.prog W .any base t v := hval0
  have hsz : (DataW.weightsEach Tryz.prog (Tryz.f7.params.toList ++ Rows.secretsCountedSpec.plain.varTypes Tryz.prog) (ds ++ gs)).all (· ≤ reachBytes) = true := hsz0
  have hW' := hW
  obtain ⟨p, q, hA0, hV, rfl, hfz, hnd⟩ := hW
  have hA : DataW.TrodAll enc Tryz.prog W 0 (fun _ => true) true Tryz.f7.params.toList args.toList ds p := hA0
  rw [Tryz.params7] at hA hval hsz
  obtain ⟨v0, v1, v2, d0, d1, d2, p0, p1, p2, rfl, rfl, rfl, h0, h1, h2⟩ := trodAll_three hA
  obtain ⟨rfl, rfl⟩ := trodVars_none hV
  have hv0 : Rows.secretsCountedSpec.plain.varTypes Tryz.prog = [] := rfl
  rw [hv0] at hsz
  have hz : ∀ n ∈ DataW.weightsEach Tryz.prog [3, 3, 37] [d0, d1, d2], n ≤ reachBytes := fun n hn => by
    have := List.all_eq_true.1 hsz n (by simpa using hn)
    simpa using this
  have k0 := h0
  have k1 := h1
  have k2 := h2
  obtain ⟨n, rfl, rfl, rfl, wn⟩ := open_int Tryz.underlying3 (hval 0 3 v0 rfl rfl) h0
  obtain ⟨v, rfl, rfl, rfl, wv⟩ := open_int Tryz.underlying3 (hval 1 3 v1 rfl rfl) h1
  obtain ⟨q0, q1, q2, rfl⟩ := open_int3 (hval 2 37 v2 rfl rfl) h2
  have hl2 : ∀ y ∈ p2, y.block < W.heap.size := fun y hy => by simpa using hW'.lt y (by simp [hy])
  refine (Wt.secretsCounted_any n v q0 q1 q2 W hT).mono fun e W' he => ?_
  obtain ⟨rfl, hE⟩ := he
  have bel : Below W.heap.size W W' := hE
  refine ⟨_, rfl, ⟨_, _, _, [], [] ++ ([] ++ (p2)), [], hW', trodAll_mk1 (shut_bool Tryz.underlying4 true), trodAll_mk3 (shut_int Tryz.underlying3 wn) (shut_int Tryz.underlying3 wv) (Below.trod laidOut (by kernel_rfl) (of_decide_eq_true (by kernel_rfl)) k2 bel (fun y hy => hl2 y (by simpa using hy))), rfl, bel.frame _, fun h => by cases h⟩⟩
theorem secretsCounted_holds : Rows.SecretsCountedSaid :=
  OpenClaim.holds_of_wide 7 Tryz.f7 rfl rfl rfl rfl rfl rfl rfl ⟨rfl, rfl, rfl, rfl, rfl⟩ rfl rfl rfl rfl rfl (by kernel_rfl) Tryz.func7 (by kernel_rfl)
    (of_decide_eq_true (by kernel_rfl)) (by unfold Func.isWrapper; first | (rw [if_pos (by decide +kernel)]; kernel_rfl) | (rw [if_neg (by decide +kernel)]; exact ⟨rfl, rfl⟩))
    (fun os started H enc _ => law_lifted os started H enc)
theorem secretsCounted_card_holds : Rows.SecretsCountedCardSaid :=
  Claim7.holds_tied_plain_at .later [] [.data] true Rows.secretsCountedCard.stood.harness false
    secretsCounted_holds (fun _ h => by cases h) (by kernel_rfl) (fun _ h => by cases h) secretsCounted_row_tie rfl ⟨rfl, rfl⟩ (by kernel_rfl) rfl
    (fun f fn hf hfn => by
      obtain rfl : f = 7 := Option.some.inj ((show Tryz.prog.funcNamed "witting/wittinglaw44.SecretsCounted" = some 7 by kernel_rfl).symm.trans hf) |>.symm
      obtain rfl : fn = Tryz.f7 := (Option.some.inj (Tryz.func7.symm.trans hfn)).symm
      exact ⟨by kernel_rfl, fun j t ht => by
        rw [Tryz.params7] at ht
        have hm : t ∈ [3, 3, 37] := by simpa using Array.mem_of_getElem? ht
        have hall : ([3, 3, 37].all fun u => !Tryz.prog.wantsStandIn u) = true := by kernel_rfl
        exact (show Tryz.prog.wantsStandIn t = false by simpa using List.all_eq_true.1 hall t hm)⟩)
    (by kernel_rfl)
#print axioms secretsCounted_card_holds
end Go.Proofs.YtflnfcmbalhpnaaGreatDoor
