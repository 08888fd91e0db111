/- Walk: wittingref13.Copy (printed by gen_copy.py). -/
import Derived.Test.YtaghfmcaikjobaaGreatMRfC
import Derived.Test.YtaghfmcaikjobaaGreatMObQ
import Derived.Test.YtaghfmcaikjobaaGreatMOcE
import Derived.Test.YtaghfmcaikjobaaGreatMRef
import Derived.Test.YtaghfmcaikjobaaGreatMObG
namespace Wt
open Go Go.RowKit Go.Maps Go.Proofs Fm

set_option maxRecDepth 20000 in
set_option maxHeartbeats 8000000 in
theorem r13CopyN (V : List (BitVec 64)) (R : List (List (BitVec 64))) (va ra : Option Addr) (vc rc : Nat) (w : World) (N : Nat) (ok : MoOk ⟨N, V, R⟩ N) (hm : RM w va ra ⟨N, V, R⟩) :
    Calls Tryz.prog 22 #[.agg #[.int .i64 (N : Int), .slice va V.length vc, .slice ra R.length rc]] w fun e w' => RetMO ⟨N, V, R⟩ e w w' := by
  have hbx := MoBox.new w (N : Int) V R va vc ra rc 25
  have hv8 := ok.val
  have hr4 := ok.rel
  obtain ⟨i0, hi1, hz0, hz1, hz2⟩ := info_parts u64_info
  have HM := Lib.hid hm
  have HBX := Lib.hid hbx
  have OK := Lib.hid ok
  obtain ⟨m0, m1, m2⟩ := hbx
  dsimp only at m0 m1 m2
  have hNm := ok.most
  dsimp only at hv8 hr4 hNm
  clear hm ok
  go_enter Tryz.func22, Tryz.ntmps22
  go_wp2
  have hE0 : Ext w (((w.alloc (.cells #[.int .i64 (N : Int), .slice va V.length vc, .slice ra R.length rc] 25)).alloc (.cells #[.int .i64 0, .slice none 0 0, .slice none 0 0] 25)).alloc (.cells #[.int .i64 (N : Int), .slice none 0 0, .slice none 0 0] 25)) := (((Ext.refl w).alloc _).alloc _).alloc _
  have hA00 := OutAt.new3 w (.cells #[.int .i64 (N : Int), .slice va V.length vc, .slice ra R.length rc] 25) (.cells #[.int .i64 0, .slice none 0 0, .slice none 0 0] 25) (.int .i64 (N : Int)) (.slice none 0 0) (.slice none 0 0) 25
  have hA0 : AR (((w.alloc (.cells #[.int .i64 (N : Int), .slice va V.length vc, .slice ra R.length rc] 25)).alloc (.cells #[.int .i64 0, .slice none 0 0, .slice none 0 0] 25)).alloc (.cells #[.int .i64 (N : Int), .slice none 0 0, .slice none 0 0] 25)) w.heap.size N [] [] [] (.slice none 0 0) (.slice none 0 0) (((w.alloc (.cells #[.int .i64 (N : Int), .slice va V.length vc, .slice ra R.length rc] 25)).alloc (.cells #[.int .i64 0, .slice none 0 0, .slice none 0 0] 25)).alloc (.cells #[.int .i64 (N : Int), .slice none 0 0, .slice none 0 0] 25)) :=
    ⟨Below.refl _ _, by simp, hA00, World.ownsRow_nil _ _ _ _, World.ownsRow_nil _ _ _ _, rfl, fun j hj => absurd hj (by simp), fun i j _ hj => absurd hj (by simp), fun j hj => absurd hj (by simp)⟩
  have hbx0 : MoBox (((w.alloc (.cells #[.int .i64 (N : Int), .slice va V.length vc, .slice ra R.length rc] 25)).alloc (.cells #[.int .i64 0, .slice none 0 0, .slice none 0 0] 25)).alloc (.cells #[.int .i64 (N : Int), .slice none 0 0, .slice none 0 0] 25)) w.heap.size ⟨N, V, R⟩ va vc ra rc := HBX.out.ext (((Ext.refl _).alloc _).alloc _)
  have hres0 : OutAt (((w.alloc (.cells #[.int .i64 (N : Int), .slice va V.length vc, .slice ra R.length rc] 25)).alloc (.cells #[.int .i64 0, .slice none 0 0, .slice none 0 0] 25)).alloc (.cells #[.int .i64 (N : Int), .slice none 0 0, .slice none 0 0] 25)) (w.heap.size + 1) (.int .i64 0) (.slice none 0 0) (.slice none 0 0) := OutAt.new2 w _ _ _ _ _ _
  generalize hW0 : (((w.alloc (.cells #[.int .i64 (N : Int), .slice va V.length vc, .slice ra R.length rc] 25)).alloc (.cells #[.int .i64 0, .slice none 0 0, .slice none 0 0] 25)).alloc (.cells #[.int .i64 (N : Int), .slice none 0 0, .slice none 0 0] 25)) = W0 at *
  have HE0 := Lib.hid hE0
  have HV : Hid (∀ w', Ext W0 w' ∨ Below (w.heap.size + 2) W0 w' → Ext w w') := Lib.hid fun w' e => by
    rcases e with e | e
    · exact hE0.trans e
    · exact Below.trans hE0 (Below.mono e (by omega))
  have hlo := hA0.lo
  have HBOX : Hid (∀ w', Below (w.heap.size + 2) W0 w' → MoBox w' w.heap.size ⟨N, V, R⟩ va vc ra rc) := Lib.hid fun w' e => by
    obtain ⟨q0, q1, q2⟩ := hbx0
    have hb := e.block w.heap.size (by omega)
    exact ⟨by rw [World.cell?_of_block (w := W0) hb]; exact q0, by rw [World.cell?_of_block (w := W0) hb]; exact q1, by rw [World.cell?_of_block (w := W0) hb]; exact q2⟩
  have HRES : Hid (∀ w', Below (w.heap.size + 2) W0 w' → OutAt w' (w.heap.size + 1) (.int .i64 0) (.slice none 0 0) (.slice none 0 0)) := Lib.hid fun w' e => hres0.keep (e.block _ (by omega))
  clear m0 m1 m2 hE0 hW0
  go_loopw [4] (fun i wr => ∃ k : Nat, k ≤ V.length ∧ i = .int .i64 (k : Int) ∧ ARV W0 w.heap.size N V k wr) (fun i _ => V.length - (intOf i).toNat)
  case atStart => exact ⟨0, Nat.zero_le _, rfl, _, hA0⟩
  case round =>
    obtain ⟨k, hk, rfl, vv, hAR⟩ := hrel
    have HAR := Lib.hid hAR
    by_cases hkl : k < V.length
    · obtain ⟨b, off, rfl, hb, hc⟩ := (HM.out.val.ext (HV.out wr (.inr hAR.e))).get hkl
      obtain ⟨m0, m1, m2⟩ := HBOX.out wr hAR.e
      dsimp only at m0 m1 m2
      have hbm := World.block_lt_of_cell? wr _ m0
      obtain ⟨o0, o1, o2, ofz⟩ := hAR.out
      have hsz := hAR.out.lt
      have htk : (V.take k).length = k := by rw [List.length_take]; omega
      have HPA : Hid (∀ w', Ext wr w' → AR W0 w.heap.size N (V.take k) [] [] vv (.slice none 0 0) w') := Lib.hid fun w' e => HAR.out.ext' e
      have HONE : Hid (∀ u ∈ [Value.int .u64 (un (nth V k))], u.oneCell' = true) := fun u hu => by
        rcases List.mem_singleton.1 hu with rfl
        rfl
      have hfz := ofz 1
      clear hAR
      go_wp2_with fail
      go_region_law (first | (refine step_append_lies _ (by rfl) _ _ 22 (by rfl) (w.heap.size + 3) 44 i0 _ 1 8 Tryz.underlying22 hi1 hz0 hz1 hz2 rfl (by decide) vv (V.take k).length ((V.take k).map uv) (by rfl) (HPA.out _ ((Ext.refl _).drew.alloc _)).ov ⟨wr.heap.size, 0, none⟩ 1 1 [.int .u64 (un (nth V k))] (by rfl) (by rfl) (cell_one_new _ _ _) HONE.out (by decide) (by unfold maxLen; omega) (by omega) (by simp; omega) (wr.heap.size + 1) (by simp) ?_; intro gx cap w1 hown1 hgrow hat hlt2; obtain ⟨p0, p1, p2, pfz⟩ := (HPA.out _ ((Ext.refl _).drew.alloc _)).outV hgrow; have pf := pfz 1; clear pfz))
      all_goals
        have hone : V.take (k + 1) = V.take k ++ [nth V k] := by
          rw [nth_eq _ _ (by omega), List.take_add_one, List.getElem?_eq_getElem (by omega)]; rfl
        have hnew := (HPA.out _ ((Ext.refl _).drew.alloc _)).pushV hown1 hgrow
        have HNEW := Lib.hid hnew
        have HONE1 := Lib.hid hone
        clear hnew hown1 hgrow hone
        go_wp2
        go_roundw
        case rel => exact ⟨k + 1, hkl, by go_num, _, by rw [HONE1.out]; rw [htk] at HNEW; exact HNEW.out⟩
        case measure => simp [intOf]; omega
    · obtain rfl : k = V.length := by omega
      have hfull : V.take V.length = V := List.take_of_length_le (by omega)
      rw [hfull] at hAR
      have HA2 := Lib.hid hAR
      obtain ⟨m0, m1, m2⟩ := HBOX.out wr hAR.e
      dsimp only at m0 m1 m2
      obtain ⟨i2, hj1, hy0, hy1, hy2⟩ := info_parts sl_info
      clear hAR HAR
      go_wp2
      go_loopw [5] (fun i wz => ∃ k : Nat, k ≤ R.length ∧ i = .int .i64 (k : Int) ∧ ARR W0 w.heap.size  N V R k wz) (fun i _ => R.length - (intOf i).toNat)
      case atStart => exact ⟨0, Nat.zero_le _, rfl, _, _, _, HA2.out⟩
      case round =>
        obtain ⟨k, hk, rfl, vv2, svs, vr, hAR⟩ := hrel
        have HAR := Lib.hid hAR
        by_cases hkl2 : k < R.length
        · obtain ⟨b, off, a', c', rfl, hb, hc, hu⟩ := (HM.out.rel.ext (HV.out wr (.inr hAR.e))).get hkl2
          have hrl : (nth R k).length = N := OK.out.row _ (by rw [nth_eq _ _ hkl2]; exact List.getElem_mem _)
          have HU := Lib.hid hu
          have hsz := hAR.out.lt
          have hrowl : (nth R k).length = N := hrl
          obtain ⟨m0, m1, m2⟩ := HBOX.out wr HAR.out.e
          dsimp only at m0 m1 m2
          clear hAR hu
          go_wp2
          go_loopw [6, 7] (fun vl i wz => ∃ j : Nat, j ≤ N ∧ i = .int .i64 (j : Int) ∧ GLE wr (nth R k) j vl wz) (fun _ i _ => N - (intOf i).toNat)
          case atStart => exact ⟨0, Nat.zero_le _, rfl, Ext.refl _, World.ownsRow_nil _ _ _ _⟩
          case round =>
            rename World => wz
            obtain ⟨j, hj, rfl, hGL⟩ := hrel
            have hGL : GL wr 44 uv ((nth R k).take j) u6 wz := hGL
            have HGL := Lib.hid hGL
            have hszz : wr.heap.size ≤ wz.heap.size := hGL.e.size
            have hcz := HGL.out.e.cell hc
            by_cases hjl : j < N
            · obtain ⟨b2, off2, rfl, hb2, hc2⟩ := (HU.out.ext hGL.e).get (k := j) (by omega)
              have htk : ((nth R k).take j).length = j := by rw [List.length_take]; omega
              have hone : (nth R k).take (j + 1) = (nth R k).take j ++ [nth (nth R k) j] := by
                rw [nth_eq (nth R k) j (by omega), List.take_add_one, List.getElem?_eq_getElem (by omega)]; rfl
              have HONE1 := Lib.hid hone
              have HPA : Hid (∀ w', Ext wz w' → GL wr 44 uv ((nth R k).take j) u6 w') := Lib.hid fun w' e => HGL.out.ext' e
              have HONE : Hid (∀ u ∈ [Value.int .u64 (un (nth (nth R k) j))], u.oneCell' = true) := fun u hu => by
                rcases List.mem_singleton.1 hu with rfl
                rfl
              clear hGL hone
              obtain ⟨m0, m1, m2⟩ := HBOX.out wz (Below.trans HAR.out.e (Below.mono HGL.out.e (by have := HAR.out.out.lt; omega)))
              dsimp only at m0 m1 m2
              have hcz := HGL.out.e.cell hc
              go_wp2_with (at_builtin; refine wpList_append_lies _ rfl _ _ 22 rfl wr.heap.size 44 i0 _ 1 8 Tryz.underlying22 hi1 hz0 hz1 hz2 rfl (by decide) u6 ((nth R k).take j).length (((nth R k).take j).map uv) rfl (HPA.out _ ((Ext.refl _).alloc _)).own ⟨wz.heap.size, 0, none⟩ 1 1 [.int .u64 (un (nth (nth R k) j))] rfl rfl (cell_one_new _ _ _) HONE.out (by decide) (by unfold maxLen; omega) (by omega) (Nat.le_trans hszz (by simp)) (wz.heap.size + 1) (by simp) ?_; intro gx cap W1 hown hgrow hat hlt2; have hpush := (HPA.out _ ((Ext.refl _).alloc _)).push (x := nth (nth R k) j) hown hgrow; have HPU := Lib.hid hpush; clear hpush hown hgrow hat)
              go_roundw
              case rel => exact ⟨j + 1, hjl, by go_num, by show GL _ _ _ ((nth R k).take (j + 1)) _ _; rw [HONE1.out]; rw [htk] at HPU; exact HPU.out⟩
              case measure => simp [intOf]; omega
            · obtain rfl : N = j := by omega
              have hfull3 : (nth R k).take N = nth R k := List.take_of_length_le (by omega)
              rw [hfull3] at hGL
              obtain ⟨a3, c3, rfl, hu3⟩ := RU_of_OU (show OU wz wr.heap.size u6 (nth R k) from hGL.own) (by omega)
              rw [hrowl]
              have hrow3 : OU wz (w.heap.size + 3) (.slice a3 N c3) (nth R k) := by
                have h := OU.mono (b' := w.heap.size + 3) (show OU wz wr.heap.size _ (nth R k) from hGL.own) (by omega)
                rw [hrowl] at h; exact h
              have HAP := Lib.hid (HAR.out.apart (show OU wz wr.heap.size _ (nth R k) from hGL.own))
              rw [hrowl] at HAP
              have HA3 := Lib.hid (HAR.out.ext' hGL.e)
              obtain ⟨m0, m1, m2⟩ := HBOX.out wz HA3.out.e
              dsimp only at m0 m1 m2
              obtain ⟨o0, o1, o2, ofz⟩ := HA3.out.out
              have hsz3 := HA3.out.out.lt
              have hfz := ofz 2
              have hrl2 : svs.length = k := by rw [HA3.out.rl, List.length_take]; omega
              have HPA : Hid (∀ o, AR W0 w.heap.size N V svs (R.take k) vv2 vr (wz.alloc o)) := Lib.hid fun o => HA3.out.ext' ((Ext.refl wz).alloc o)
              have HR3 : Hid (∀ o, OU (wz.alloc o) (w.heap.size + 3) (.slice a3 N c3) (nth R k)) := Lib.hid fun o => hrow3.ext ((Ext.refl wz).alloc o)
              have HONE : Hid (∀ u ∈ [Value.slice a3 N c3], u.oneCell' = true) := fun u hu => by
                rcases List.mem_singleton.1 hu with rfl
                rfl
              have hone : R.take (k + 1) = R.take k ++ [nth R k] := by
                rw [nth_eq _ _ (by omega), List.take_add_one, List.getElem?_eq_getElem (by omega)]; rfl
              have HONE1 := Lib.hid hone
              clear hGL hu3 hrow3 hone HGL
              go_wp2_with (at_builtin; refine wpList_append_lies _ rfl _ _ 23 rfl (w.heap.size + 3) 22 i2 _ 1 24 Tryz.underlying23 hj1 hy0 hy1 hy2 rfl (by decide) vr svs.length svs rfl (HPA.out _).orr ⟨wz.heap.size, 0, none⟩ 1 1 [.slice a3 N c3] rfl rfl (cell_one_new _ _ _) HONE.out (by decide) (by unfold maxLen; omega) (by omega) (by simp; omega) (wz.heap.size + 1) (by simp) ?_; intro gx cap W1 hown hgrow hat hlt2; obtain ⟨p0, p1, p2, pfz⟩ := (HPA.out _).outR hgrow; have pf := pfz 2; clear pfz; have hnew := (HPA.out _).pushR (HR3.out _) HAP.out hown hgrow; have HNEW := Lib.hid hnew; clear hnew hown hgrow hat)
              go_roundw
              case rel => exact ⟨k + 1, hkl2, by go_num, vv2, _, _, by rw [HONE1.out]; rw [hrl2] at HNEW; exact HNEW.out⟩
              case measure => simp [intOf]; omega
        · obtain rfl : k = R.length := by omega
          have hfull2 : R.take R.length = R := List.take_of_length_le (by omega)
          rw [hfull2] at hAR
          have HA4 := Lib.hid hAR
          obtain ⟨o0, o1, o2, ofz⟩ := hAR.out
          obtain ⟨m0, m1, m2⟩ := HBOX.out wr hAR.e
          dsimp only at m0 m1 m2
          have hh := HRES.out wr hAR.e
          have hew : Ext w wr := HV.out wr (.inr hAR.e)
          obtain ⟨v1, vc1, rfl, -⟩ := RU_of_OU (show OU wr (w.heap.size + 3) vv2 V from hAR.ov) (by omega)
          have hsl : svs.length = R.length := hAR.rl
          obtain ⟨r1, rc1, rfl⟩ : ∃ a c, vr = .slice a R.length c := by
            rcases hAR.orr.2 with ⟨rfl, h0⟩ | ⟨g, cap, cur, rfl, _⟩
            · exact ⟨none, 0, by rw [← hsl, h0]⟩
            · exact ⟨some ⟨g, 0, none⟩, cap, by rw [hsl]⟩
          obtain ⟨r0, rr1, rr2, rfz⟩ := hh
          have f0 := rfz 0
          have f1 := rfz 1
          have f2 := rfz 2
          have hh : OutAt wr (w.heap.size + 1) (.int .i64 0) (.slice none 0 0) (.slice none 0 0) := ⟨r0, rr1, rr2, rfz⟩
          have HH := Lib.hid hh
          have HEW := Lib.hid hew
          have hrl4 := hAR.rl
          clear hAR ofz hh hew rfz
          go_wp2
          have hk2 : ∀ {T sz m : Nat} {v : Value} {xs : List Value}, wr.ownsRow (w.heap.size + 3) T sz v m xs → (((wr.setCell ⟨w.heap.size + 1, 0, none⟩ (.int .i64 (N : Int))).setCell ⟨w.heap.size + 1, 1, none⟩ (.slice v1 V.length vc1)).setCell ⟨w.heap.size + 1, 2, none⟩ (.slice r1 R.length rc1)).ownsRow (w.heap.size + 3) T sz v m xs := by
            intro T sz m v xs ho
            exact setOther (setOther (setOther ho (by omega)) (by omega)) (by omega)
          obtain ⟨d0, d1, d2, -⟩ := ((HH.out.set0 (.int .i64 (N : Int))).set1 (.slice v1 V.length vc1)).set2 (.slice r1 R.length rc1)
          have hEx : Ext w (((wr.setCell ⟨w.heap.size + 1, 0, none⟩ (.int .i64 (N : Int))).setCell ⟨w.heap.size + 1, 1, none⟩ (.slice v1 V.length vc1)).setCell ⟨w.heap.size + 1, 2, none⟩ (.slice r1 R.length rc1)) := ((HEW.out.setCell (by simp) _).setCell (by simp) _).setCell (by simp) _
          have hovF := hk2 HA4.out.ov
          have horF := hk2 HA4.out.orr
          have hrwF := fun j hj => hk2 (HA4.out.rw j hj)
          generalize ((wr.setCell ⟨w.heap.size + 1, 0, none⟩ (.int .i64 (N : Int))).setCell ⟨w.heap.size + 1, 1, none⟩ (.slice v1 V.length vc1)).setCell ⟨w.heap.size + 1, 2, none⟩ (.slice r1 R.length rc1) = W2 at *
          refine bodyPost_ret (v := .agg #[.int .i64 (N : Int), .slice v1 V.length vc1, .slice r1 R.length rc1]) ?_ rfl ?_
          · rw [results_cell_oneA rfl]
            go_simp
          · have hww : ∀ j, j < R.length → (nth R j).length ≤ 140737488355328 := fun j hj => by
              have : (nth R j).length = N := OK.out.row _ (by rw [nth_eq _ _ hj]; exact List.getElem_mem _)
              omega
            have hdv := HA4.out.dv
            have hdj := HA4.out.dj
            have hF : FrM w.heap.size W2 v1 r1 vc1 rc1 ⟨N, V, R⟩ svs :=
              ⟨OU.mono (b' := w.heap.size) (show OU W2 (w.heap.size + 3) (.slice v1 V.length vc1) V from hovF) (by omega), own_mono horF (by omega), hrl4, fun j hj => OU.mono (b' := w.heap.size) (show OU W2 (w.heap.size + 3) _ _ from hrwF j hj) (by omega), hdj, hdv, ⟨by simpa using Nat.le_trans hv8 (by decide), by simpa using Nat.le_trans hr4 (by decide), hww⟩⟩
            exact ⟨v1, r1, vc1, rc1, svs, rfl, hF, hEx⟩
theorem r13Copy_any (M : Mo) (va ra : Option Addr) (vc rc : Nat) (w : World) (N : Nat) (ok : MoOk M N) (hm : RM w va ra M) :
    Calls Tryz.prog 22 #[.agg #[.int .i64 M.worlds, .slice va M.val.length vc, .slice ra M.rel.length rc]] w fun e w' => RetMO M e w w' := by
  obtain ⟨W, V, R⟩ := M
  obtain rfl : W = (N : Int) := ok.worlds
  exact r13CopyN V R va ra vc rc w N ok hm

end Wt

/- Walks: wittingref22.alike, tables. -/
namespace Wt
open Go Go.RowKit Go.Maps Go.Proofs Fm

theorem r01HasN_any (s : BitVec 64) (n : Nat) (w : World) :
    Calls Tryz.prog 23 #[.int .u64 (un s), .int .i64 (n : Int)] w fun e w' => e = .returned (.bool (bt s n)) ∧ w = w' := by
  have h := r01Has_any s (n : Int) w
  rw [hasW_nat] at h
  exact h
/-- The tables of formulas, or none. -/
def tabsL (n : Int) (l : List (List Nd)) : List (BitVec 64) := if tabsErr n l = 0 then l.map fun f => tabOf f n else []
end Wt

/- Walks: wittingref22.Reveal, Informed (printed by gen_rrv.py). -/
namespace Wt
open Go Go.RowKit Go.Maps Go.Proofs Fm

theorem RvI.drew {W0 wr : World} {B bo : Nat} {W : Int} {V : List (BitVec 64)} {R : List (List (BitVec 64))} {G : Nat} {s : BitVec 64} {va ra : Option Addr} {vc rc : Nat} {svs : List Value} {a j : Nat} (h : RvI W0 B bo W V R G s va ra vc rc svs a j wr) : RvI W0 B bo W V R G s va ra vc rc svs a j wr.drew :=
  ⟨h.fr.agree (Agree.ofExt (Ext.refl _).drew), h.out.ext (Ext.refl _).drew, h.old.drew, h.sz⟩
set_option maxRecDepth 20000 in
set_option maxHeartbeats 8000000 in
theorem r22reveal_any (M : Mo) (va ra : Option Addr) (vc rc : Nat) (g : Int) (fa : Option Addr) (fc : Nat) (f : List Nd) (w : World) (hm : RM w va ra M) (hf : RN w fa f) :
    Calls Tryz.prog 7 #[.agg #[.int .i64 M.worlds, .slice va M.val.length vc, .slice ra M.rel.length rc], .int .i64 g, .slice fa f.length fc] w fun e w' => RetW (revM M g f) (revErr M g f) e w w' := by
  have hbx := MoBox.new w M.worlds M.val M.rel va vc ra rc 25
  have hE0 : Ext w ((w.alloc (.cells #[.int .i64 M.worlds, .slice va M.val.length vc, .slice ra M.rel.length rc] 25)).alloc (.cells #[.int .i64 0, .slice none 0 0, .slice none 0 0] 25)) := ((Ext.refl w).alloc _).alloc _
  have hbx0 := hbx.ext ((Ext.refl _).alloc (.cells #[.int .i64 0, .slice none 0 0, .slice none 0 0] 25))
  have hm0 := hm.ext hE0
  have HHO := Lib.hid (r17Holds_any M va ra vc rc fa fc f _ hm0 (hf.ext hE0))
  have HM0 := Lib.hid hm0
  obtain ⟨m0, m1, m2⟩ := hbx0
  dsimp only at m0 m1 m2
  have HE := Lib.hid hE0
  have HR := Lib.hid (OutAt.new1 w (.cells #[.int .i64 M.worlds, .slice va M.val.length vc, .slice ra M.rel.length rc] 25) (.int .i64 0) (.slice none 0 0) (.slice none 0 0) 25)
  have hs0 : ((w.alloc (.cells #[.int .i64 M.worlds, .slice va M.val.length vc, .slice ra M.rel.length rc] 25)).alloc (.cells #[.int .i64 0, .slice none 0 0, .slice none 0 0] 25)).heap.size = w.heap.size + 2 := by simp
  have HS0 := Lib.hid hs0
  clear hm hbx hE0 hf hs0 hm0
  by_cases hM : reqErr M f = 0
  rotate_left
  · have hq : (reqErr M f != 0) = true := by simpa using hM
    have hn : revErr M g f = reqErr M f := if_pos hM
    have hn2 : revM M g f = ⟨0, [], []⟩ := if_neg (by rw [hn]; exact hM)
    have HN := Lib.hid hn
    have HN2 := Lib.hid hn2
    clear hn hn2 hM
    go_enter Tryz.func7, Tryz.ntmps7
    go_wp2_with fail
    generalize (w.alloc (.cells #[.int .i64 M.worlds, .slice va M.val.length vc, .slice ra M.rel.length rc] 25)).alloc (.cells #[.int .i64 0, .slice none 0 0, .slice none 0 0] 25) = W0 at *
    refine HHO.out.mono ?_
    rintro _ w1 ⟨rfl, hE1⟩
    dsimp only
    obtain ⟨r0, r1, r2, rfz⟩ := HR.out.ext hE1
    have f0 := rfz 0
    have f1 := rfz 1
    have f2 := rfz 2
    have HO := Lib.hid (HR.out.ext hE1)
    have hsz := HO.out.lt
    clear rfz
    go_wp2_with fail
    rw [HN.out, HN2.out]
    have hEx : Ext w (((w1.setCell ⟨w.heap.size + 1, 0, none⟩ (.int .i64 0)).setCell ⟨w.heap.size + 1, 1, none⟩ (.slice none 0 0)).setCell ⟨w.heap.size + 1, 2, none⟩ (.slice none 0 0)) := (HE.out.trans hE1).set3 (by simp) _ _ _
    obtain ⟨d0, d1, d2, -⟩ := ((HO.out.set0 (.int .i64 0)).set1 (.slice none 0 0)).set2 (.slice none 0 0)
    generalize (((w1.setCell ⟨w.heap.size + 1, 0, none⟩ (.int .i64 0)).setCell ⟨w.heap.size + 1, 1, none⟩ (.slice none 0 0)).setCell ⟨w.heap.size + 1, 2, none⟩ (.slice none 0 0)) = W2 at *
    refine bodyPost_ret (v := .tuple #[.agg #[.int .i64 0, .slice none 0 0, .slice none 0 0], .int .i64 (reqErr M f)]) ?_ rfl ?_
    · rw [results_cell_v rfl]
      go_simp
    · exact RetW.zero _ hEx
  have hRq0 := Lib.hid hM
  have hM0 := (reqErr_ok hM).1
  have hr4 : M.rel.length ≤ 4 := by obtain ⟨N, ok⟩ := moCheck_ok hM0; exact ok.rel
  have h63 : M.rel.length < 63 := by omega
  by_cases hz : revErr M g f = 0
  rotate_left
  · have hn : revErr M g f = 1 := by
      unfold revErr at hz ⊢
      rw [if_neg (by simp [hM])] at hz ⊢
      split
      · rfl
      · next h => rw [if_neg h] at hz; exact absurd rfl hz
    have hn2 : revM M g f = ⟨0, [], []⟩ := if_neg hz
    have hd : (decide (g < 1) || decide (p2 M.rel.length ≤ g)) = true := by
      have h2 : g < 1 ∨ p2 M.rel.length ≤ g := by
        by_cases h : g < 1 ∨ p2 M.rel.length ≤ g
        · exact h
        · unfold revErr at hz; rw [if_neg (by simp [hM]), if_neg h] at hz; exact absurd rfl hz
      rcases h2 with h | h
      · simp [h]
      · simp [h]
    have HN := Lib.hid hn
    have HN2 := Lib.hid hn2
    clear hz hn hn2 hM hM0
    cases d2 : decide (g < 1) <;> cases d3 : decide (p2 M.rel.length ≤ g)
    all_goals rw [d2, d3] at hd
    case false.false => cases hd
    all_goals
      clear hd
      go_enter Tryz.func7, Tryz.ntmps7
      go_wp2_with fail
      generalize (w.alloc (.cells #[.int .i64 M.worlds, .slice va M.val.length vc, .slice ra M.rel.length rc] 25)).alloc (.cells #[.int .i64 0, .slice none 0 0, .slice none 0 0] 25) = W0 at *
      refine HHO.out.mono ?_
      rintro _ w1 ⟨rfl, hE1⟩
      rw [hRq0.out]
      dsimp only
      obtain ⟨r0, r1, r2, rfz⟩ := HR.out.ext hE1
      have f0 := rfz 0
      have f1 := rfz 1
      have f2 := rfz 2
      have HO := Lib.hid (HR.out.ext hE1)
      have hsz := HO.out.lt
      have q0 := hE1.cell m0
      have q1 := hE1.cell m1
      have q2 := hE1.cell m2
      clear rfz m0 m1 m2
      go_wp2_with fail
      rw [HN.out, HN2.out]
      have hEx : Ext w (((w1.setCell ⟨w.heap.size + 1, 0, none⟩ (.int .i64 0)).setCell ⟨w.heap.size + 1, 1, none⟩ (.slice none 0 0)).setCell ⟨w.heap.size + 1, 2, none⟩ (.slice none 0 0)) := (HE.out.trans hE1).set3 (by simp) _ _ _
      obtain ⟨d0, d1, d2, -⟩ := ((HO.out.set0 (.int .i64 0)).set1 (.slice none 0 0)).set2 (.slice none 0 0)
      generalize (((w1.setCell ⟨w.heap.size + 1, 0, none⟩ (.int .i64 0)).setCell ⟨w.heap.size + 1, 1, none⟩ (.slice none 0 0)).setCell ⟨w.heap.size + 1, 2, none⟩ (.slice none 0 0)) = W2 at *
      refine bodyPost_ret (v := .tuple #[.agg #[.int .i64 0, .slice none 0 0, .slice none 0 0], .int .i64 1]) ?_ rfl ?_
      · rw [results_cell_v rfl]
        go_simp
      · exact RetW.zero _ hEx
  · obtain ⟨-, hg1, hg2⟩ := revErr_ok hz
    obtain ⟨gn, rfl⟩ := Int.eq_ofNat_of_zero_le (show 0 ≤ g by omega)
    have d2 : decide ((gn : Int) < 1) = false := by simp; omega
    have d3 : decide (p2 M.rel.length ≤ (gn : Int)) = false := by simp; omega
    have hgn : gn < 9223372036854775808 := by
      unfold p2 at hg2
      have h5 : 2 ^ M.rel.length ≤ 2 ^ 4 := Nat.pow_le_pow_right (by omega) hr4
      omega
    obtain ⟨N, ok⟩ := moCheck_ok hM0
    have hR : revM M gn f = ⟨M.worlds, M.val, (List.range M.rel.length).map (revR M gn (holdsOf M f))⟩ := by unfold revM; rw [if_pos hz]; simp
    have HRE := Lib.hid hR
    have HZ := Lib.hid hz
    have hoks := Lib.hid ok.row
    have hN64 := ok.most
    have HOK := Lib.hid ok
    clear hM hM0 hz hg1 hg2 hR ok
    generalize holdsOf M f = S at *
    go_enter Tryz.func7, Tryz.ntmps7
    go_wp2_with fail
    generalize (w.alloc (.cells #[.int .i64 M.worlds, .slice va M.val.length vc, .slice ra M.rel.length rc] 25)).alloc (.cells #[.int .i64 0, .slice none 0 0, .slice none 0 0] 25) = W0 at *
    refine HHO.out.mono ?_
    rintro _ wa1 ⟨rfl, hEa⟩
    rw [hRq0.out]
    dsimp only
    have q0 := hEa.cell m0
    have q1 := hEa.cell m1
    have q2 := hEa.cell m2
    have HCL := Lib.hid (r13Copy_any M va ra vc rc wa1 N HOK.out (HM0.out.ext hEa))
    have HM00 : Hid (W0.cell? ⟨w.heap.size, 0, none⟩ = some (.int .i64 M.worlds) ∧ W0.cell? ⟨w.heap.size, 2, none⟩ = some (.slice ra M.rel.length rc)) := Lib.hid ⟨m0, m2⟩
    clear m0 m1 m2
    go_wp2_with fail
    refine HCL.out.mono ?_
    rintro _ w1 ⟨va2, ra2, vc2, rc2, svs, rfl, hm3, hEb⟩
    dsimp only
    have hE1 : Ext W0 w1 := hEa.trans hEb
    have hBB : w.heap.size + 2 ≤ wa1.heap.size := by have := hEa.size; rw [HS0.out] at this; exact this
    have hlt1 : ∀ q g, q < M.rel.length → (nth svs q).ownBlock = some g → g < w1.heap.size := fun q g hq hg => ((hm3.rw q hq).lt g hg).2
    have hXX : Ext W0 (w1.alloc (.cells #[.int .i64 M.worlds, .slice va2 M.val.length vc2, .slice ra2 M.rel.length rc2] 25)) := hE1.alloc _
    have hwi := RvI.zero (G := gn) (s := S) (W0 := W0) (B := w.heap.size + 2) (bo := w1.heap.size) ((hm3.mono hBB).agree (Agree.ofExt ((Ext.refl _).alloc (.cells #[.int .i64 M.worlds, .slice va2 M.val.length vc2, .slice ra2 M.rel.length rc2] 25)))) (OutAt.new w1 _ _ _ 25) (Below.mono hXX (by rw [HS0.out]; exact Nat.le_refl _)) hXX.size
    have HWI := Lib.hid hwi
    have HLT := Lib.hid hlt1
    have HB1 := Lib.hid hE1.size
    have HOKW := Lib.hid HOK.out.worlds
    have HOLD : Hid (∀ (va2 ra2 : Option Addr) (a j : Nat) (wr : World), RvI W0 (w.heap.size + 2) w1.heap.size M.worlds M.val M.rel gn S va2 ra2 vc2 rc2 svs a j wr → ∀ p v, W0.cell? p = some v → wr.cell? p = some v) := Lib.hid fun va2 ra2 a j wr h p v hp => (Below.cell h.old (by have := World.block_lt_of_cell? W0 p hp; rw [HS0.out] at this; exact this)).trans hp
    clear hm3 hwi hlt1 hXX q0 q1 q2 hE1 hEb hEa
    go_wp2_with fail
    go_loopw [11] (fun i wr => ∃ a : Nat, a ≤ M.rel.length ∧ i = .int .i64 (a : Int) ∧ RvI W0 (w.heap.size + 2) w1.heap.size M.worlds M.val M.rel gn S va2 ra2 vc2 rc2 svs a 0 wr) (fun i _ => M.rel.length - (intOf i).toNat)
    case atStart => exact ⟨0, Nat.zero_le _, rfl, HWI.out⟩
    case round =>
      obtain ⟨a, ha, rfl, hI⟩ := hrel
      have HI := Lib.hid hI
      have p0 := HOLD.out _ _ _ _ _ hI _ _ HM00.out.1
      have p2' := HOLD.out _ _ _ _ _ hI _ _ HM00.out.2
      have hpl := World.block_lt_of_cell? _ _ p0
      dsimp only at hpl
      by_cases hal : a < M.rel.length
      · have hrow : (nth M.rel a).length = N := hoks.out _ (nth_mem hal)
        have haI : (a : Int) < (M.rel.length : Int) := by omega
        obtain ⟨b, rfl, hb, hc⟩ := hI.row hal
        obtain ⟨p, pc, hsh⟩ := hI.shape hal
        rw [hsh, hrow] at hc
        obtain ⟨bm, om, am, cm, hra, hbm, hcm, hum⟩ := HM0.out.rel.get hal
        subst hra
        rw [hrow] at hcm
        have HUM := Lib.hid hum
        have HCM := Lib.hid hcm
        have HROW := Lib.hid hrow
        have HSH := Lib.hid hsh
        clear hum hbm hcm hrow hsh hI hb hc
        cases hg : gn.testBit a
        · have hb0 : b01 gn a = 0 := by simp [b01, hg]
          have HNX := Lib.hid (HI.out.skip hg)
          have hwN : decide ((0 : Int) < M.worlds) = true := decide_eq_true (by have := HOKW.out; have := HOK.out.one; omega)
          clear hg
          go_wp2_with fail
          go_loopw [12] (fun i wz => i = .int .i64 0 ∧ wz = wr) (fun i _ => 0)
          case atStart => exact ⟨rfl, rfl⟩
          case round =>
            obtain ⟨rfl, rfl⟩ := hrel
            go_wp2
            go_roundw
            case rel => exact ⟨a + 1, hal, by go_num, HNX.out⟩
            case measure => simp [intOf]; omega
        · have hb0 : b01 gn a = 1 := by simp [b01, hg]
          have HG := Lib.hid hg
          clear hg
          go_wp2_with fail
          clear p0 p2' hpl
          go_loopw [12] (fun i wz => ∃ j : Nat, j ≤ N ∧ i = .int .i64 (j : Int) ∧ RvI W0 (w.heap.size + 2) w1.heap.size M.worlds M.val M.rel gn S va2 (some ⟨b, 0, none⟩) vc2 rc2 svs a j wz) (fun i _ => N - (intOf i).toNat)
          case atStart => exact ⟨0, Nat.zero_le _, rfl, HI.out⟩
          case round =>
            rename World => wz
            obtain ⟨j, hj, rfl, hJ⟩ := hrel
            have HJ := Lib.hid hJ
            have p0 := HOLD.out _ _ _ _ _ hJ _ _ HM00.out.1
            have p2' := HOLD.out _ _ _ _ _ hJ _ _ HM00.out.2
            have hpl := World.block_lt_of_cell? _ _ p0
            dsimp only at hpl
            by_cases hjl : j < N
            · have hwd : decide ((j : Int) < M.worlds) = true := decide_eq_true (by have := HOKW.out; omega)
              have hjI : (j : Int) < (N : Int) := by omega
              obtain ⟨b9, hb9, hbz, hcz⟩ := hJ.row hal
              simp only [Option.some.injEq, Addr.mk.injEq] at hb9
              obtain ⟨rfl, -, -⟩ := hb9
              obtain ⟨g2, gc2, hsv2, hg2, hf2, hc2, hnext⟩ := hJ.step hal (by rw [HROW.out]; exact hjl) HLT.out
              rw [hsv2, HROW.out] at hcz
              obtain ⟨o0, o1, o2, -⟩ := hJ.out
              have hol := hJ.out.lt
              obtain ⟨bx, ox, hax, hbx, hcx⟩ := HUM.out.get (k := j) (by rw [HROW.out]; exact hjl)
              subst hax
              have zcm := HOLD.out _ _ _ _ _ hJ _ _ HCM.out
              have zcx := HOLD.out _ _ _ _ _ hJ _ _ hcx
              have zl1 := World.block_lt_of_cell? _ _ zcm
              have zl2 := World.block_lt_of_cell? _ _ zcx
              dsimp only at zl1 zl2
              unfold whE at hnext
              clear hbx hcx hJ hsv2
              generalize nth (nth M.rel a) j = x at *
              cases hbt : bt S j
              all_goals have HBT := Lib.hid hbt
              · rw [hbt, if_neg (by simp)] at hnext
                have HNE := Lib.hid hnext
                clear hnext hbt
                go_wp2_with (go_at_call 23; refine (r01HasN_any S j _).mono ?_; rintro _ _ ⟨rfl, rfl⟩; rw [HBT.out])
                refine wp_region_still_tail 17 (by kernel_rfl) (by kernel_rfl) ?_
                simp only [List.take_succ_cons, List.take_zero, List.drop_succ_cons, List.drop_zero]
                repeat still_step
                refine wpStill_nil ?_
                have hf3 : wz.drew.frozen? ⟨g2, j, none⟩ = false := hf2
                have hc3 : wz.drew.cell? ⟨g2, j, none⟩ = some (.int .u64 (un x)) := hc2
                change wpList _ _ _ _ _ wz.drew
                go_wp2
                go_roundw
                case rel => exact ⟨j + 1, hjl, by go_num, HNE.out.drew⟩
                case measure => simp [intOf]; omega
              · rw [hbt, if_pos rfl] at hnext
                have HNE := Lib.hid hnext
                clear hnext hbt
                go_wp2_with (go_at_call 23; refine (r01HasN_any S j _).mono ?_; rintro _ _ ⟨rfl, rfl⟩; rw [HBT.out])
                refine wp_region_still_tail 17 (by kernel_rfl) (by kernel_rfl) ?_
                simp only [List.take_succ_cons, List.take_zero, List.drop_succ_cons, List.drop_zero]
                repeat still_step
                refine wpStill_nil ?_
                have hf3 : wz.drew.frozen? ⟨g2, j, none⟩ = false := hf2
                have hc3 : wz.drew.cell? ⟨g2, j, none⟩ = some (.int .u64 (un x)) := hc2
                change wpList _ _ _ _ _ wz.drew
                go_wp2
                go_roundw
                case rel => exact ⟨j + 1, hjl, by go_num, HNE.out.drew⟩
                case measure => simp [intOf]; omega
            · obtain rfl : N = j := by omega
              have hwd : decide ((N : Int) < M.worlds) = false := decide_eq_false (by have := HOKW.out; omega)
              have HNX := Lib.hid (RvI.next (a := a) (by rw [HROW.out]; exact hJ) HG.out)
              clear hJ
              go_wp2
              go_roundw
              case rel => exact ⟨a + 1, hal, by go_num, HNX.out⟩
              case measure => simp [intOf]; omega
      · obtain rfl : a = M.rel.length := by omega
        have hfr := hI.fr
        rw [rvR_full] at hfr
        have HFR := Lib.hid hfr
        obtain ⟨o0, o1, o2, -⟩ := hI.out
        have hol := hI.out.lt
        have hres : OutAt wr (w.heap.size + 1) (.int .i64 0) (.slice none 0 0) (.slice none 0 0) := HR.out.keep (hI.old.block _ (by omega))
        have HO := Lib.hid hres
        obtain ⟨r0, r1, r2, rfz⟩ := hres
        have f0 := rfz 0
        have f1 := rfz 1
        have f2 := rfz 2
        have hrl := HO.out.lt
        have hEw : Ext w wr := Below.trans HE.out (Below.mono hI.old (by omega))
        have HEW := Lib.hid hEw
        clear hI rfz hfr hEw
        go_wp2_with fail
        have hEx : Ext w (((wr.setCell ⟨w.heap.size + 1, 0, none⟩ (.int .i64 M.worlds)).setCell ⟨w.heap.size + 1, 1, none⟩ (.slice va2 M.val.length vc2)).setCell ⟨w.heap.size + 1, 2, none⟩ (.slice ra2 M.rel.length rc2)) := HEW.out.set3 (by simp) _ _ _
        obtain ⟨d0, d1, d2, -⟩ := ((HO.out.set0 (.int .i64 M.worlds)).set1 (.slice va2 M.val.length vc2)).set2 (.slice ra2 M.rel.length rc2)
        have hag : Agree (w.heap.size + 2) wr (((wr.setCell ⟨w.heap.size + 1, 0, none⟩ (.int .i64 M.worlds)).setCell ⟨w.heap.size + 1, 1, none⟩ (.slice va2 M.val.length vc2)).setCell ⟨w.heap.size + 1, 2, none⟩ (.slice ra2 M.rel.length rc2)) := Agree.set3 (B := w.heap.size + 2) wr (b := w.heap.size + 1) (by omega) (.int .i64 M.worlds) (.slice va2 M.val.length vc2) (.slice ra2 M.rel.length rc2)
        generalize (((wr.setCell ⟨w.heap.size + 1, 0, none⟩ (.int .i64 M.worlds)).setCell ⟨w.heap.size + 1, 1, none⟩ (.slice va2 M.val.length vc2)).setCell ⟨w.heap.size + 1, 2, none⟩ (.slice ra2 M.rel.length rc2)) = W2 at *
        refine bodyPost_ret (v := .tuple #[.agg #[.int .i64 M.worlds, .slice va2 M.val.length vc2, .slice ra2 M.rel.length rc2], .int .i64 0]) ?_ rfl ?_
        · rw [results_cell_v rfl]
          go_simp
        · rw [HRE.out, HZ.out]
          exact ⟨va2, ra2, vc2, rc2, by simp, fun w'' hw => ((HFR.out.agree hag).agree (hw.mono (by omega))).rm, hEx⟩
set_option maxRecDepth 20000 in
set_option maxHeartbeats 4000000 in
theorem r22informed_any (M : Mo) (va ra : Option Addr) (vc rc : Nat) (a b : Int) (w : World) (hm : RM w va ra M) :
    Calls Tryz.prog 9 #[.agg #[.int .i64 M.worlds, .slice va M.val.length vc, .slice ra M.rel.length rc], .int .i64 a, .int .i64 b] w fun e w' => RetP (.bool (infOf M a b)) (infErr M a b) e w w' := by
  have hE0 := (Ext.refl w).alloc (.cells #[.int .i64 M.worlds, .slice va M.val.length vc, .slice ra M.rel.length rc] 25)
  have hm0 := hm.ext hE0
  obtain ⟨m0, m1, m2⟩ := MoBox.new w M.worlds M.val M.rel va vc ra rc 25
  have HE := Lib.hid hE0
  have HM := Lib.hid hm0
  clear hE0 hm
  have H := Lib.hid (r13Check_any M va ra vc rc _ hm0)
  by_cases h1 : moCheck M = 0
  rotate_left
  · have hn : infErr M a b = moCheck M := by unfold infErr; rw [if_pos h1]
    have hn2 : infOf M a b = false := by unfold infOf; rw [hn]; simp [h1]
    have hq : (moCheck M != 0) = true := by simp [h1]
    have HN := Lib.hid hn
    have HN2 := Lib.hid hn2
    clear hn hn2 h1 hm0
    go_enter Tryz.func9, Tryz.ntmps9
    go_wp2_with (go_at_call 25; refine (H.out).mono ?_; rintro e w1 ⟨rfl, hE1⟩)
    go_ret2
    exact ⟨by rw [HN.out, HN2.out]; rfl, HE.out.trans hE1⟩
  have H1 := Lib.hid h1
  by_cases h2 : a < 0 ∨ (M.rel.length : Int) ≤ a ∨ b < 0 ∨ (M.rel.length : Int) ≤ b
  · have hn : infErr M a b = 1 := by unfold infErr; rw [if_neg (by simp [h1]), if_pos h2]
    have hn2 : infOf M a b = false := by unfold infOf; rw [hn]; rfl
    have hd : (decide (a < 0) || decide ((M.rel.length : Int) ≤ a) || decide (b < 0) || decide ((M.rel.length : Int) ≤ b)) = true := by
      rcases h2 with h | h | h | h <;> simp [h]
    have HN := Lib.hid hn
    have HN2 := Lib.hid hn2
    clear hn hn2 h1 h2 hm0
    cases ha : decide (a < 0) <;> cases ha2 : decide ((M.rel.length : Int) ≤ a) <;> cases hb : decide (b < 0) <;> cases hb2 : decide ((M.rel.length : Int) ≤ b)
    all_goals rw [ha, ha2, hb, hb2] at hd
    case false.false.false.false => cases hd
    all_goals
      clear hd
      go_enter Tryz.func9, Tryz.ntmps9
      go_wp2_with (go_at_call 25; refine (H.out).mono ?_; rintro e w1 ⟨rfl, hE1⟩; rw [H1.out]; have q0 := hE1.cell m0; have q1 := hE1.cell m1; have q2 := hE1.cell m2)
      go_ret2
      exact ⟨by rw [HN.out, HN2.out]; rfl, HE.out.trans hE1⟩
  · have hn : infErr M a b = 0 := by unfold infErr; rw [if_neg (by simp [h1]), if_neg h2]
    obtain ⟨N, ok⟩ := moCheck_ok h1
    obtain ⟨an, rfl⟩ := Int.eq_ofNat_of_zero_le (show 0 ≤ a by omega)
    obtain ⟨bn, rfl⟩ := Int.eq_ofNat_of_zero_le (show 0 ≤ b by omega)
    have hal : an < M.rel.length := by omega
    have hbl : bn < M.rel.length := by omega
    have hn2 : infOf M an bn = infTo (nth M.rel an) (nth M.rel bn) (nth M.rel an).length := by unfold infOf; rw [hn]; simp
    have d1 : decide ((an : Int) < 0) = false := by simp
    have d2 : decide ((M.rel.length : Int) ≤ an) = false := by simp; omega
    have d3 : decide ((bn : Int) < 0) = false := by simp
    have d4 : decide ((M.rel.length : Int) ≤ bn) = false := by simp; omega
    have ea := (row_in ok hal).1
    have hl64 : (nth M.rel an).length ≤ 64 := by rw [ea]; exact ok.most
    have eb := (row_in ok hbl).1
    obtain ⟨b1, o1, a1, c1, rfl, hlt1, hc1, hu1⟩ := hm0.rel.get hal
    obtain ⟨b2, o2, a2, c2, he2, hlt2, hc2, hu2⟩ := hm0.rel.get hbl
    simp only [Option.some.injEq, Addr.mk.injEq] at he2
    obtain ⟨rfl, rfl, -⟩ := he2
    have HN := Lib.hid hn
    have HN2 := Lib.hid hn2
    have HU1 := Lib.hid hu1
    have HU2 := Lib.hid hu2
    have HEA := Lib.hid ea
    have HEB := Lib.hid eb
    have HOKN := Lib.hid ok
    clear hn hn2 h1 h2 hm0 ok hu1 hu2 ea eb
    go_enter Tryz.func9, Tryz.ntmps9
    go_wp2_with (go_at_call 25; refine (H.out).mono ?_; rintro e w1 ⟨rfl, hE1⟩; rw [H1.out]; have q0 := hE1.cell m0; have q1 := hE1.cell m1; have q2 := hE1.cell m2; have q3 := hE1.cell hc1; have q4 := hE1.cell hc2)
    have HE1 := Lib.hid hE1
    have HWN := Lib.hid HOKN.out.worlds
    go_loopw [9] (fun i wr => ∃ k : Nat, k ≤ (nth M.rel an).length ∧ i = .int .i64 k ∧ Ext w1 wr ∧ Hid (∀ n, n ≤ k → infTo (nth M.rel an) (nth M.rel bn) n = true)) (fun i _ => (nth M.rel an).length - (intOf i).toNat)
    case atStart => exact ⟨0, Nat.zero_le _, rfl, Ext.refl _, Lib.hid fun n h => by
      obtain rfl : n = 0 := by omega
      rfl⟩
    case round =>
      obtain ⟨k, hk, rfl, hE, hT⟩ := hrel
      have HEk := Lib.hid hE
      have hE2 := HE1.out.trans hE
      have p0 := hE2.cell m0
      have p2' := hE2.cell m2
      have p3 := hE2.cell hc1
      have p4 := hE2.cell hc2
      have hpl : w.heap.size < wr.heap.size := World.block_lt_of_cell? _ _ p0
      have hpb := World.block_lt_of_cell? _ _ p3
      dsimp only at hpb
      clear q0 q1 q2 q3 q4
      by_cases hlt : k < (nth M.rel an).length
      · have hwd : decide ((k : Int) < M.worlds) = true := decide_eq_true (by have := HWN.out; have := HEA.out; omega)
        obtain ⟨x1, y1, hx1e, hx1, hr1⟩ := (HU1.out.ext hE2).get hlt
        subst hx1e
        obtain ⟨x2, y2, hx2e, hx2, hr2⟩ := (HU2.out.ext hE2).get (k := k) (by rw [HEB.out, ← HEA.out]; exact hlt)
        subst hx2e
        have hkb : k < (nth M.rel bn).length := by rw [HEB.out, ← HEA.out]; exact hlt
        have hkI : (k : Int) < ((nth M.rel an).length : Int) := by omega
        have hkJ : (k : Int) < ((nth M.rel bn).length : Int) := by omega
        have hanI : (an : Int) < (M.rel.length : Int) := by omega
        have hbnI : (bn : Int) < (M.rel.length : Int) := by omega
        clear hE hE2
        cases hb : (nth (nth M.rel an) k &&& ~~~ nth (nth M.rel bn) k == 0#64)
        · have HB := Lib.hid hb
          have hb' : (nth (nth M.rel an) k &&& ~~~ nth (nth M.rel bn) k != 0#64) = true := by rw [bne, hb]; rfl
          clear hb
          go_wp2_with fail
          go_quiet (fail)
          go_wp2
          go_ret2
          exact ⟨by rw [HN.out, HN2.out, infTo_bad HB.out _ hlt]; rfl, HE.out.trans (HE1.out.trans (HEk.out.drewN _))⟩
        · have HB := Lib.hid hb
          have hb' : (nth (nth M.rel an) k &&& ~~~ nth (nth M.rel bn) k != 0#64) = false := by rw [bne, hb]; rfl
          clear hb
          go_wp2_with fail
          go_quiet (fail)
          go_wp2
          go_roundw
          case rel => exact ⟨k + 1, hlt, by go_num, HEk.out.drewN _, Lib.hid fun n hn => by
            rcases Nat.lt_or_ge k n with h | h
            · obtain rfl : n = k + 1 := by omega
              rw [infTo_step, hT.out k (Nat.le_refl _), HB.out]; rfl
            · exact hT.out n h⟩
          case measure => simp [intOf]; omega
      · obtain rfl : k = (nth M.rel an).length := by omega
        have hwd : decide (((nth M.rel an).length : Int) < M.worlds) = false := decide_eq_false (by have := HWN.out; have := HEA.out; omega)
        go_wp2
        go_ret2
        exact ⟨by rw [HN.out, HN2.out, hT.out _ (Nat.le_refl _)]; rfl, HE.out.trans (HE1.out.trans HEk.out)⟩
end Wt
