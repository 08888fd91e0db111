/- Walk: wittingref13.Copy (printed by gen_copy.py). -/
import Derived.Test.YticoljmflljghaaGreatDoorMRdB
namespace Wt
open Go Go.RowKit Go.Maps Go.Proofs Fm

set_option maxRecDepth 20000 in
set_option maxHeartbeats 8000000 in
theorem r13CopyN (V : List (BitVec 64)) (R : List (List (BitVec 64))) (va ra : Option Addr) (vc rc : Nat) (w : World) (N : Nat) (ok : MoOk ⟨N, V, R⟩ N) (hm : RM w va ra ⟨N, V, R⟩) :
    Calls Tryz.prog 37 #[.agg #[.int .i64 (N : Int), .slice va V.length vc, .slice ra R.length rc]] w fun e w' => RetMO ⟨N, V, R⟩ e w w' := by
  have hbx := MoBox.new w (N : Int) V R va vc ra rc 25
  have hv8 := ok.val
  have hr4 := ok.rel
  obtain ⟨i0, hi1, hz0, hz1, hz2⟩ := info_parts u64_info
  have HM := Lib.hid hm
  have HBX := Lib.hid hbx
  have OK := Lib.hid ok
  obtain ⟨m0, m1, m2⟩ := hbx
  dsimp only at m0 m1 m2
  have hNm := ok.most
  dsimp only at hv8 hr4 hNm
  clear hm ok
  go_enter Tryz.func37, Tryz.ntmps37
  go_wp2
  have hE0 : Ext w (((w.alloc (.cells #[.int .i64 (N : Int), .slice va V.length vc, .slice ra R.length rc] 25)).alloc (.cells #[.int .i64 0, .slice none 0 0, .slice none 0 0] 25)).alloc (.cells #[.int .i64 (N : Int), .slice none 0 0, .slice none 0 0] 25)) := (((Ext.refl w).alloc _).alloc _).alloc _
  have hA00 := OutAt.new3 w (.cells #[.int .i64 (N : Int), .slice va V.length vc, .slice ra R.length rc] 25) (.cells #[.int .i64 0, .slice none 0 0, .slice none 0 0] 25) (.int .i64 (N : Int)) (.slice none 0 0) (.slice none 0 0) 25
  have hA0 : AR (((w.alloc (.cells #[.int .i64 (N : Int), .slice va V.length vc, .slice ra R.length rc] 25)).alloc (.cells #[.int .i64 0, .slice none 0 0, .slice none 0 0] 25)).alloc (.cells #[.int .i64 (N : Int), .slice none 0 0, .slice none 0 0] 25)) w.heap.size N [] [] [] (.slice none 0 0) (.slice none 0 0) (((w.alloc (.cells #[.int .i64 (N : Int), .slice va V.length vc, .slice ra R.length rc] 25)).alloc (.cells #[.int .i64 0, .slice none 0 0, .slice none 0 0] 25)).alloc (.cells #[.int .i64 (N : Int), .slice none 0 0, .slice none 0 0] 25)) :=
    ⟨Below.refl _ _, by simp, hA00, World.ownsRow_nil _ _ _ _, World.ownsRow_nil _ _ _ _, rfl, fun j hj => absurd hj (by simp), fun i j _ hj => absurd hj (by simp), fun j hj => absurd hj (by simp)⟩
  have hbx0 : MoBox (((w.alloc (.cells #[.int .i64 (N : Int), .slice va V.length vc, .slice ra R.length rc] 25)).alloc (.cells #[.int .i64 0, .slice none 0 0, .slice none 0 0] 25)).alloc (.cells #[.int .i64 (N : Int), .slice none 0 0, .slice none 0 0] 25)) w.heap.size ⟨N, V, R⟩ va vc ra rc := HBX.out.ext (((Ext.refl _).alloc _).alloc _)
  have hres0 : OutAt (((w.alloc (.cells #[.int .i64 (N : Int), .slice va V.length vc, .slice ra R.length rc] 25)).alloc (.cells #[.int .i64 0, .slice none 0 0, .slice none 0 0] 25)).alloc (.cells #[.int .i64 (N : Int), .slice none 0 0, .slice none 0 0] 25)) (w.heap.size + 1) (.int .i64 0) (.slice none 0 0) (.slice none 0 0) := OutAt.new2 w _ _ _ _ _ _
  generalize hW0 : (((w.alloc (.cells #[.int .i64 (N : Int), .slice va V.length vc, .slice ra R.length rc] 25)).alloc (.cells #[.int .i64 0, .slice none 0 0, .slice none 0 0] 25)).alloc (.cells #[.int .i64 (N : Int), .slice none 0 0, .slice none 0 0] 25)) = W0 at *
  have HE0 := Lib.hid hE0
  have HV : Hid (∀ w', Ext W0 w' ∨ Below (w.heap.size + 2) W0 w' → Ext w w') := Lib.hid fun w' e => by
    rcases e with e | e
    · exact hE0.trans e
    · exact Below.trans hE0 (Below.mono e (by omega))
  have hlo := hA0.lo
  have HBOX : Hid (∀ w', Below (w.heap.size + 2) W0 w' → MoBox w' w.heap.size ⟨N, V, R⟩ va vc ra rc) := Lib.hid fun w' e => by
    obtain ⟨q0, q1, q2⟩ := hbx0
    have hb := e.block w.heap.size (by omega)
    exact ⟨by rw [World.cell?_of_block (w := W0) hb]; exact q0, by rw [World.cell?_of_block (w := W0) hb]; exact q1, by rw [World.cell?_of_block (w := W0) hb]; exact q2⟩
  have HRES : Hid (∀ w', Below (w.heap.size + 2) W0 w' → OutAt w' (w.heap.size + 1) (.int .i64 0) (.slice none 0 0) (.slice none 0 0)) := Lib.hid fun w' e => hres0.keep (e.block _ (by omega))
  clear m0 m1 m2 hE0 hW0
  go_loopw [4] (fun i wr => ∃ k : Nat, k ≤ V.length ∧ i = .int .i64 (k : Int) ∧ ARV W0 w.heap.size N V k wr) (fun i _ => V.length - (intOf i).toNat)
  case atStart => exact ⟨0, Nat.zero_le _, rfl, _, hA0⟩
  case round =>
    obtain ⟨k, hk, rfl, vv, hAR⟩ := hrel
    have HAR := Lib.hid hAR
    by_cases hkl : k < V.length
    · obtain ⟨b, off, rfl, hb, hc⟩ := (HM.out.val.ext (HV.out wr (.inr hAR.e))).get hkl
      obtain ⟨m0, m1, m2⟩ := HBOX.out wr hAR.e
      dsimp only at m0 m1 m2
      have hbm := World.block_lt_of_cell? wr _ m0
      obtain ⟨o0, o1, o2, ofz⟩ := hAR.out
      have hsz := hAR.out.lt
      have htk : (V.take k).length = k := by rw [List.length_take]; omega
      have HPA : Hid (∀ w', Ext wr w' → AR W0 w.heap.size N (V.take k) [] [] vv (.slice none 0 0) w') := Lib.hid fun w' e => HAR.out.ext' e
      have HONE : Hid (∀ u ∈ [Value.int .u64 (un (nth V k))], u.oneCell' = true) := fun u hu => by
        rcases List.mem_singleton.1 hu with rfl
        rfl
      have hfz := ofz 1
      clear hAR
      go_wp2_with fail
      go_region_law (first | (refine step_append_lies _ (by rfl) _ _ 22 (by rfl) (w.heap.size + 3) 55 i0 _ 1 8 Tryz.underlying22 hi1 hz0 hz1 hz2 rfl (by decide) vv (V.take k).length ((V.take k).map uv) (by rfl) (HPA.out _ ((Ext.refl _).drew.alloc _)).ov ⟨wr.heap.size, 0, none⟩ 1 1 [.int .u64 (un (nth V k))] (by rfl) (by rfl) (cell_one_new _ _ _) HONE.out (by decide) (by unfold maxLen; omega) (by omega) (by simp; omega) (wr.heap.size + 1) (by simp) ?_; intro gx cap w1 hown1 hgrow hat hlt2; obtain ⟨p0, p1, p2, pfz⟩ := (HPA.out _ ((Ext.refl _).drew.alloc _)).outV hgrow; have pf := pfz 1; clear pfz))
      all_goals
        have hone : V.take (k + 1) = V.take k ++ [nth V k] := by
          rw [nth_eq _ _ (by omega), List.take_add_one, List.getElem?_eq_getElem (by omega)]; rfl
        have hnew := (HPA.out _ ((Ext.refl _).drew.alloc _)).pushV hown1 hgrow
        have HNEW := Lib.hid hnew
        have HONE1 := Lib.hid hone
        clear hnew hown1 hgrow hone
        go_wp2
        go_roundw
        case rel => exact ⟨k + 1, hkl, by go_num, _, by rw [HONE1.out]; rw [htk] at HNEW; exact HNEW.out⟩
        case measure => simp [intOf]; omega
    · obtain rfl : k = V.length := by omega
      have hfull : V.take V.length = V := List.take_of_length_le (by omega)
      rw [hfull] at hAR
      have HA2 := Lib.hid hAR
      obtain ⟨m0, m1, m2⟩ := HBOX.out wr hAR.e
      dsimp only at m0 m1 m2
      obtain ⟨i2, hj1, hy0, hy1, hy2⟩ := info_parts sl_info
      clear hAR HAR
      go_wp2
      go_loopw [5] (fun i wz => ∃ k : Nat, k ≤ R.length ∧ i = .int .i64 (k : Int) ∧ ARR W0 w.heap.size  N V R k wz) (fun i _ => R.length - (intOf i).toNat)
      case atStart => exact ⟨0, Nat.zero_le _, rfl, _, _, _, HA2.out⟩
      case round =>
        obtain ⟨k, hk, rfl, vv2, svs, vr, hAR⟩ := hrel
        have HAR := Lib.hid hAR
        by_cases hkl2 : k < R.length
        · obtain ⟨b, off, a', c', rfl, hb, hc, hu⟩ := (HM.out.rel.ext (HV.out wr (.inr hAR.e))).get hkl2
          have hrl : (nth R k).length = N := OK.out.row _ (by rw [nth_eq _ _ hkl2]; exact List.getElem_mem _)
          have HU := Lib.hid hu
          have hsz := hAR.out.lt
          have hrowl : (nth R k).length = N := hrl
          obtain ⟨m0, m1, m2⟩ := HBOX.out wr HAR.out.e
          dsimp only at m0 m1 m2
          clear hAR hu
          go_wp2
          go_loopw [6, 7] (fun vl i wz => ∃ j : Nat, j ≤ N ∧ i = .int .i64 (j : Int) ∧ GLE wr (nth R k) j vl wz) (fun _ i _ => N - (intOf i).toNat)
          case atStart => exact ⟨0, Nat.zero_le _, rfl, Ext.refl _, World.ownsRow_nil _ _ _ _⟩
          case round =>
            rename World => wz
            obtain ⟨j, hj, rfl, hGL⟩ := hrel
            have hGL : GL wr 55 uv ((nth R k).take j) u6 wz := hGL
            have HGL := Lib.hid hGL
            have hszz : wr.heap.size ≤ wz.heap.size := hGL.e.size
            have hcz := HGL.out.e.cell hc
            by_cases hjl : j < N
            · obtain ⟨b2, off2, rfl, hb2, hc2⟩ := (HU.out.ext hGL.e).get (k := j) (by omega)
              have htk : ((nth R k).take j).length = j := by rw [List.length_take]; omega
              have hone : (nth R k).take (j + 1) = (nth R k).take j ++ [nth (nth R k) j] := by
                rw [nth_eq (nth R k) j (by omega), List.take_add_one, List.getElem?_eq_getElem (by omega)]; rfl
              have HONE1 := Lib.hid hone
              have HPA : Hid (∀ w', Ext wz w' → GL wr 55 uv ((nth R k).take j) u6 w') := Lib.hid fun w' e => HGL.out.ext' e
              have HONE : Hid (∀ u ∈ [Value.int .u64 (un (nth (nth R k) j))], u.oneCell' = true) := fun u hu => by
                rcases List.mem_singleton.1 hu with rfl
                rfl
              clear hGL hone
              obtain ⟨m0, m1, m2⟩ := HBOX.out wz (Below.trans HAR.out.e (Below.mono HGL.out.e (by have := HAR.out.out.lt; omega)))
              dsimp only at m0 m1 m2
              have hcz := HGL.out.e.cell hc
              go_wp2_with (at_builtin; refine wpList_append_lies _ rfl _ _ 22 rfl wr.heap.size 55 i0 _ 1 8 Tryz.underlying22 hi1 hz0 hz1 hz2 rfl (by decide) u6 ((nth R k).take j).length (((nth R k).take j).map uv) rfl (HPA.out _ ((Ext.refl _).alloc _)).own ⟨wz.heap.size, 0, none⟩ 1 1 [.int .u64 (un (nth (nth R k) j))] rfl rfl (cell_one_new _ _ _) HONE.out (by decide) (by unfold maxLen; omega) (by omega) (Nat.le_trans hszz (by simp)) (wz.heap.size + 1) (by simp) ?_; intro gx cap W1 hown hgrow hat hlt2; have hpush := (HPA.out _ ((Ext.refl _).alloc _)).push (x := nth (nth R k) j) hown hgrow; have HPU := Lib.hid hpush; clear hpush hown hgrow hat)
              go_roundw
              case rel => exact ⟨j + 1, hjl, by go_num, by show GL _ _ _ ((nth R k).take (j + 1)) _ _; rw [HONE1.out]; rw [htk] at HPU; exact HPU.out⟩
              case measure => simp [intOf]; omega
            · obtain rfl : N = j := by omega
              have hfull3 : (nth R k).take N = nth R k := List.take_of_length_le (by omega)
              rw [hfull3] at hGL
              obtain ⟨a3, c3, rfl, hu3⟩ := RU_of_OU (show OU wz wr.heap.size u6 (nth R k) from hGL.own) (by omega)
              rw [hrowl]
              have hrow3 : OU wz (w.heap.size + 3) (.slice a3 N c3) (nth R k) := by
                have h := OU.mono (b' := w.heap.size + 3) (show OU wz wr.heap.size _ (nth R k) from hGL.own) (by omega)
                rw [hrowl] at h; exact h
              have HAP := Lib.hid (HAR.out.apart (show OU wz wr.heap.size _ (nth R k) from hGL.own))
              rw [hrowl] at HAP
              have HA3 := Lib.hid (HAR.out.ext' hGL.e)
              obtain ⟨m0, m1, m2⟩ := HBOX.out wz HA3.out.e
              dsimp only at m0 m1 m2
              obtain ⟨o0, o1, o2, ofz⟩ := HA3.out.out
              have hsz3 := HA3.out.out.lt
              have hfz := ofz 2
              have hrl2 : svs.length = k := by rw [HA3.out.rl, List.length_take]; omega
              have HPA : Hid (∀ o, AR W0 w.heap.size N V svs (R.take k) vv2 vr (wz.alloc o)) := Lib.hid fun o => HA3.out.ext' ((Ext.refl wz).alloc o)
              have HR3 : Hid (∀ o, OU (wz.alloc o) (w.heap.size + 3) (.slice a3 N c3) (nth R k)) := Lib.hid fun o => hrow3.ext ((Ext.refl wz).alloc o)
              have HONE : Hid (∀ u ∈ [Value.slice a3 N c3], u.oneCell' = true) := fun u hu => by
                rcases List.mem_singleton.1 hu with rfl
                rfl
              have hone : R.take (k + 1) = R.take k ++ [nth R k] := by
                rw [nth_eq _ _ (by omega), List.take_add_one, List.getElem?_eq_getElem (by omega)]; rfl
              have HONE1 := Lib.hid hone
              clear hGL hu3 hrow3 hone HGL
              go_wp2_with (at_builtin; refine wpList_append_lies _ rfl _ _ 23 rfl (w.heap.size + 3) 22 i2 _ 1 24 Tryz.underlying23 hj1 hy0 hy1 hy2 rfl (by decide) vr svs.length svs rfl (HPA.out _).orr ⟨wz.heap.size, 0, none⟩ 1 1 [.slice a3 N c3] rfl rfl (cell_one_new _ _ _) HONE.out (by decide) (by unfold maxLen; omega) (by omega) (by simp; omega) (wz.heap.size + 1) (by simp) ?_; intro gx cap W1 hown hgrow hat hlt2; obtain ⟨p0, p1, p2, pfz⟩ := (HPA.out _).outR hgrow; have pf := pfz 2; clear pfz; have hnew := (HPA.out _).pushR (HR3.out _) HAP.out hown hgrow; have HNEW := Lib.hid hnew; clear hnew hown hgrow hat)
              go_roundw
              case rel => exact ⟨k + 1, hkl2, by go_num, vv2, _, _, by rw [HONE1.out]; rw [hrl2] at HNEW; exact HNEW.out⟩
              case measure => simp [intOf]; omega
        · obtain rfl : k = R.length := by omega
          have hfull2 : R.take R.length = R := List.take_of_length_le (by omega)
          rw [hfull2] at hAR
          have HA4 := Lib.hid hAR
          obtain ⟨o0, o1, o2, ofz⟩ := hAR.out
          obtain ⟨m0, m1, m2⟩ := HBOX.out wr hAR.e
          dsimp only at m0 m1 m2
          have hh := HRES.out wr hAR.e
          have hew : Ext w wr := HV.out wr (.inr hAR.e)
          obtain ⟨v1, vc1, rfl, -⟩ := RU_of_OU (show OU wr (w.heap.size + 3) vv2 V from hAR.ov) (by omega)
          have hsl : svs.length = R.length := hAR.rl
          obtain ⟨r1, rc1, rfl⟩ : ∃ a c, vr = .slice a R.length c := by
            rcases hAR.orr.2 with ⟨rfl, h0⟩ | ⟨g, cap, cur, rfl, _⟩
            · exact ⟨none, 0, by rw [← hsl, h0]⟩
            · exact ⟨some ⟨g, 0, none⟩, cap, by rw [hsl]⟩
          obtain ⟨r0, rr1, rr2, rfz⟩ := hh
          have f0 := rfz 0
          have f1 := rfz 1
          have f2 := rfz 2
          have hh : OutAt wr (w.heap.size + 1) (.int .i64 0) (.slice none 0 0) (.slice none 0 0) := ⟨r0, rr1, rr2, rfz⟩
          have HH := Lib.hid hh
          have HEW := Lib.hid hew
          have hrl4 := hAR.rl
          clear hAR ofz hh hew rfz
          go_wp2
          have hk2 : ∀ {T sz m : Nat} {v : Value} {xs : List Value}, wr.ownsRow (w.heap.size + 3) T sz v m xs → (((wr.setCell ⟨w.heap.size + 1, 0, none⟩ (.int .i64 (N : Int))).setCell ⟨w.heap.size + 1, 1, none⟩ (.slice v1 V.length vc1)).setCell ⟨w.heap.size + 1, 2, none⟩ (.slice r1 R.length rc1)).ownsRow (w.heap.size + 3) T sz v m xs := by
            intro T sz m v xs ho
            exact setOther (setOther (setOther ho (by omega)) (by omega)) (by omega)
          obtain ⟨d0, d1, d2, -⟩ := ((HH.out.set0 (.int .i64 (N : Int))).set1 (.slice v1 V.length vc1)).set2 (.slice r1 R.length rc1)
          have hEx : Ext w (((wr.setCell ⟨w.heap.size + 1, 0, none⟩ (.int .i64 (N : Int))).setCell ⟨w.heap.size + 1, 1, none⟩ (.slice v1 V.length vc1)).setCell ⟨w.heap.size + 1, 2, none⟩ (.slice r1 R.length rc1)) := ((HEW.out.setCell (by simp) _).setCell (by simp) _).setCell (by simp) _
          have hovF := hk2 HA4.out.ov
          have horF := hk2 HA4.out.orr
          have hrwF := fun j hj => hk2 (HA4.out.rw j hj)
          generalize ((wr.setCell ⟨w.heap.size + 1, 0, none⟩ (.int .i64 (N : Int))).setCell ⟨w.heap.size + 1, 1, none⟩ (.slice v1 V.length vc1)).setCell ⟨w.heap.size + 1, 2, none⟩ (.slice r1 R.length rc1) = W2 at *
          refine bodyPost_ret (v := .agg #[.int .i64 (N : Int), .slice v1 V.length vc1, .slice r1 R.length rc1]) ?_ rfl ?_
          · rw [results_cell_oneA rfl]
            go_simp
          · have hww : ∀ j, j < R.length → (nth R j).length ≤ 140737488355328 := fun j hj => by
              have : (nth R j).length = N := OK.out.row _ (by rw [nth_eq _ _ hj]; exact List.getElem_mem _)
              omega
            have hdv := HA4.out.dv
            have hdj := HA4.out.dj
            have hF : FrM w.heap.size W2 v1 r1 vc1 rc1 ⟨N, V, R⟩ svs :=
              ⟨OU.mono (b' := w.heap.size) (show OU W2 (w.heap.size + 3) (.slice v1 V.length vc1) V from hovF) (by omega), own_mono horF (by omega), hrl4, fun j hj => OU.mono (b' := w.heap.size) (show OU W2 (w.heap.size + 3) _ _ from hrwF j hj) (by omega), hdj, hdv, ⟨by simpa using Nat.le_trans hv8 (by decide), by simpa using Nat.le_trans hr4 (by decide), hww⟩⟩
            exact ⟨v1, r1, vc1, rc1, svs, rfl, hF, hEx⟩
theorem r13Copy_any (M : Mo) (va ra : Option Addr) (vc rc : Nat) (w : World) (N : Nat) (ok : MoOk M N) (hm : RM w va ra M) :
    Calls Tryz.prog 37 #[.agg #[.int .i64 M.worlds, .slice va M.val.length vc, .slice ra M.rel.length rc]] w fun e w' => RetMO M e w w' := by
  obtain ⟨W, V, R⟩ := M
  obtain rfl : W = (N : Int) := ok.worlds
  exact r13CopyN V R va ra vc rc w N ok hm

end Wt
