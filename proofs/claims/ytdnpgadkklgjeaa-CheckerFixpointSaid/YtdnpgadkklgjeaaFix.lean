/- The walk of CheckerFixpoint. -/
import Derived.Test.YtdnpgadkklgjeaaGrp
namespace Wt
open Go Go.RowKit Go.Maps Go.Proofs Fm

set_option maxRecDepth 20000 in
set_option maxHeartbeats 8000000 in
theorem checkerFixpoint_any (M : Mo) (va ra : Option Addr) (vc rc : Nat) (fa : Option Addr) (fc : Nat) (f : List Nd) (ca : Option Addr) (cc : Nat) (c : List Nd) (w : World) (hm : RM w va ra M) (hf : RN w fa f) (hc : RN w ca c) :
    Calls Try.prog 6 #[.agg #[.int .i64 M.worlds, .slice va M.val.length vc, .slice ra M.rel.length rc], .slice fa f.length fc, .slice ca c.length cc] w fun e w' => e = .returned (.bool true) ∧ Ext w w' := by
  have hE0 := (Ext.refl w).alloc (.cells #[.int .i64 M.worlds, .slice va M.val.length vc, .slice ra M.rel.length rc] 25)
  have hbx := MoBox.new w M.worlds M.val M.rel va vc ra rc 25
  have Hf := Lib.hid (hf.ext hE0)
  have Hc := Lib.hid (hc.ext hE0)
  have HM := Lib.hid (hm.ext hE0)
  have HE := Lib.hid hE0
  have HBX := Lib.hid hbx
  have hrl := hm.rel.len
  clear hm hf hc hE0 hbx
  go_enter Try.func6, Try.ntmps6
  go_wp2_with fail
  refine (awake_any _).mono ?_
  rintro _ w1 ⟨rfl, hX1⟩
  dsimp only
  obtain ⟨m0, m1, m2⟩ := HBX.out.ext hX1
  dsimp only at m0 m1 m2
  go_wp2_with fail
  refine (few_any M va ra vc rc _ 2 [f, c] _ (HM.out.ext (hX1.alloc _)) (RNN.two _ fa ca fc cc f c 26 (Hf.out.ext hX1) (Hc.out.ext hX1))).mono ?_
  rintro _ w2 ⟨b, rfl, hE2, hsm⟩
  dsimp only
  have hX2 := (hX1.alloc (.cells #[.slice fa f.length fc, .slice ca c.length cc] 26)).trans hE2
  cases b
  · go_wp2_with fail
    refine (awake_any _).mono ?_
    rintro _ w3 ⟨rfl, hE3⟩
    dsimp only
    go_wp2_with fail
    go_ret
    exact ⟨rfl, HE.out.trans (hX2.trans hE3)⟩
  have hlf : f.length ≤ 60 := hsm rfl 0 (by simp)
  have hlc : c.length ≤ 60 := hsm rfl 1 (by simp)
  clear hsm m0 m1 m2
  obtain ⟨m0, m1, m2⟩ := HBX.out.ext hX2
  dsimp only at m0 m1 m2
  go_wp2_with fail
  refine (r13Check_any M va ra vc rc _ (HM.out.ext hX2)).mono ?_
  rintro _ w3 ⟨rfl, hE3⟩
  dsimp only
  have hX3 := hX2.trans hE3
  clear m0 m1 m2
  obtain ⟨m0, m1, m2⟩ := HBX.out.ext hX3
  dsimp only at m0 m1 m2
  by_cases hM : moCheck M = 0
  rotate_left
  · have hq : (moCheck M != 0) = true := by simpa using hM
    go_wp2_with fail
    refine (awake_any _).mono ?_
    rintro _ w4 ⟨rfl, hE4⟩
    dsimp only
    go_wp2_with fail
    go_ret
    exact ⟨rfl, HE.out.trans (hX3.trans hE4)⟩
  have hq : (moCheck M != 0) = false := by simp [hM]
  obtain ⟨N, ok⟩ := moCheck_ok hM
  by_cases hR : M.rel.length = 0
  · have hq2 : ((M.rel.length : Int) == 0) = true := by rw [beq_iff_eq]; omega
    go_wp2_with fail
    refine (awake_any _).mono ?_
    rintro _ w4 ⟨rfl, hE4⟩
    dsimp only
    go_wp2_with fail
    go_ret
    exact ⟨rfl, HE.out.trans (hX3.trans hE4)⟩
  have hq2 : ((M.rel.length : Int) == 0) = false := by rw [beq_eq_false_iff_ne]; omega
  go_wp2_with fail
  refine (set_any M va ra vc rc ca cc c _ (HM.out.ext hX3) (Hc.out.ext hX3)).mono ?_
  rintro _ w4 ⟨rfl, hE4⟩
  dsimp only
  have hX4 := hX3.trans hE4
  clear m0 m1 m2
  obtain ⟨m0, m1, m2⟩ := HBX.out.ext hX4
  dsimp only at m0 m1 m2
  go_wp2_with fail
  refine (set_any M va ra vc rc fa fc f _ (HM.out.ext hX4) (Hf.out.ext hX4)).mono ?_
  rintro _ w5 ⟨rfl, hE5⟩
  dsimp only
  have hX5 := hX4.trans hE5
  clear m0 m1 m2
  obtain ⟨m0, m1, m2⟩ := HBX.out.ext hX5
  dsimp only at m0 m1 m2
  by_cases hq3 : (reqErr M c == 0) = true
  rotate_left
  · have hq3' : (reqErr M c == 0) = false := by simpa using hq3
    go_wp2_with fail
    go_ret
    exact ⟨rfl, HE.out.trans hX5⟩
  by_cases hq4 : (reqErr M f == 0) = true
  rotate_left
  · have hq4' : (reqErr M f == 0) = false := by simpa using hq4
    go_wp2_with fail
    go_ret
    exact ⟨rfl, HE.out.trans hX5⟩
  obtain ⟨_, Ic, Sc⟩ := set_ok hq3
  obtain ⟨_, If, Sf⟩ := set_ok hq4
  have hNt : M.worlds.toNat = N := by rw [ok.worlds]; exact Int.toNat_natCast N
  have zf : fsize (rt f) ≤ 60 := Nat.le_trans If.sz hlf
  have kf := If.fk
  have ef : (semT M (rt f)).2 = true := by rw [Sf]
  have vf : (semT M (rt f)).1 = holdsOf M f := by rw [Sf]
  have zc : fsize (rt c) ≤ 60 := Nat.le_trans Ic.sz hlc
  have kc := Ic.fk
  have ec : (semT M (rt c)).2 = true := by rw [Sc]
  have vc2 : (semT M (rt c)).1 = holdsOf M c := by rw [Sc]
  have hR1 : 1 ≤ M.rel.length := by omega
  obtain ⟨G, hG1, hG2, hGt, hgw⟩ := full_group hR1 ok.rel
  obtain ⟨hp1, hp2⟩ := p2_small hR1 ok.rel
  have h63 : M.rel.length < 63 := by have := ok.rel; omega
  have I1 := Lib.hid (isF_bin (o := 13) (i := 0) (e := 0) (q := (G : Int)) Ic If (fok_common (G : Int) (by omega) kc kf) (Nat.le_trans (fsize_bin 13 0 0 (G : Int)) (by omega)) rfl)
  have S1 : Hid (semT M (.bin 13 0 0 (G : Int) (rt c) (rt f)) = (fxS M N (holdsOf M c) (holdsOf M f) (N + 1), true)) := Lib.hid (by
    rw [semT_bin _ _ _ _ ec ef, vc2, vf, ← fix_law ok hG1.1 hG2 hGt (holdsOf M c) (holdsOf M f)]
    have hng : ¬ (p2 M.rel.length ≤ (G : Int)) := by omega
    simp [valN, hNt, hng])
  have hw1 : IntKind.i64.wrap ((N : Int) + 1) = ((N + 1 : Nat) : Int) := by rw [IntWalk.i64_in _ (by have := ok.most; omega)]; rfl
  have HO := Lib.hid ok
  have hR4 := ok.rel
  have hN64 := ok.most
  clear zf zc kf kc ef ec vf vc2 hlf hlc If Ic Sf Sc hG1 hG2 hGt hNt
  have HK5 : Hid (∀ w', Ext w5 w' → w'.cell? ⟨w.heap.size, 0, none⟩ = some (.int .i64 M.worlds) ∧ w'.cell? ⟨w.heap.size, 1, none⟩ = some (.slice va M.val.length vc) ∧ w'.cell? ⟨w.heap.size, 2, none⟩ = some (.slice ra M.rel.length rc)) := Lib.hid fun w' e => ⟨e.cell m0, e.cell m1, e.cell m2⟩
  have HX5 : Hid (∀ w', Ext w5 w' → Ext (w.alloc (.cells #[.int .i64 M.worlds, .slice va M.val.length vc, .slice ra M.rel.length rc] 25)) w') := Lib.hid fun w' e => hX5.trans e
  go_wp2_with fail
  clear m0 m1 m2
  go_region_held3 (fun w' => w'.cell? ⟨w.heap.size, 0, none⟩ = some (.int .i64 M.worlds) ∧ w'.cell? ⟨w.heap.size, 1, none⟩ = some (.slice va M.val.length vc) ∧ w'.cell? ⟨w.heap.size, 2, none⟩ = some (.slice ra M.rel.length rc)) (first | exact HK5.out _ (Ext.refl _) | exact HK5.out _ ((Ext.refl _).drew) | exact HK5.out _ (by assumption) | go_keep)
    (first | (go_at_call 29; refine (cCommon_any _ _ _ _ _ _ _ _ (by first | assumption | exact Hf.out.ext (HX5.out _ (by first | exact Ext.refl _ | exact (Ext.refl _).drew | assumption)) | exact Hc.out.ext (HX5.out _ (by first | exact Ext.refl _ | exact (Ext.refl _).drew | assumption))) (by first | assumption | exact Hf.out.ext (HX5.out _ (by first | exact Ext.refl _ | exact (Ext.refl _).drew | assumption)) | exact Hc.out.ext (HX5.out _ (by first | exact Ext.refl _ | exact (Ext.refl _).drew | assumption)))).mono ?_; rintro _ wa ⟨la, lc, rfl, hr, hY⟩; have hZ : Ext w5 wa := Ext.trans (by first | exact Ext.refl _ | exact (Ext.refl _).drew | assumption) hY) | (go_at_call 22; refine (setT hM I1.out S1.out va ra vc rc _ _ _ (HM.out.ext (HX5.out _ (by assumption))) (by assumption)).mono ?_; rintro _ w6 ⟨rfl, hY2⟩; have hE6 : Ext w5 w6 := Ext.trans (by assumption) hY2) | fail)
  have hX6 := hX5.trans hE6
  obtain ⟨m0, m1, m2⟩ := HBX.out.ext hX6
  dsimp only at m0 m1 m2
  have hW := ok.worlds
  have HRR := Lib.hid ((HM.out.ext hX6).rel)
  clear ok
  simp only [hW] at *
  generalize holdsOf M c = X at *
  generalize holdsOf M f = Y at *
  go_wp2_with (go_at_call 28; refine (r13All_any N _).mono ?_; rintro _ _ ⟨rfl, rfl⟩)
  go_loop [14, 81] (fun s i => ∃ k : Nat, k ≤ N + 1 ∧ i = .int .i64 (k : Int) ∧ s = .int .u64 (un (fxS M N X Y k))) (fun _ i => N + 1 - (intOf i).toNat)
  case atStart => exact ⟨0, Nat.zero_le _, rfl, rfl⟩
  case round =>
    obtain ⟨k, hk, rfl, rfl⟩ := hrel
    by_cases hlt : k < N + 1
    · generalize hS : fxS M N X Y k = S
      have HS := Lib.hid hS
      clear hS
      go_wp2
      go_loop [15, 85] (fun nx i => ∃ j : Nat, j ≤ N ∧ i = .int .i64 (j : Int) ∧ nx = .int .u64 (un (nextK M X Y S j))) (fun _ i => N - (intOf i).toNat)
      case atStart => exact ⟨0, Nat.zero_le _, rfl, rfl⟩
      case round =>
        obtain ⟨j, hj, rfl, rfl⟩ := hrel
        by_cases hjl : j < N
        · go_wp2
          go_loop [17, 91] (fun ins i => ∃ q : Nat, q ≤ M.rel.length ∧ i = .int .i64 (q : Int) ∧ ins = .bool (insK M X Y S j q)) (fun _ i => M.rel.length - (intOf i).toNat)
          case atStart => exact ⟨0, Nat.zero_le _, rfl, rfl⟩
          case round =>
            obtain ⟨q, hq5, rfl, rfl⟩ := hrel
            by_cases hql : q < M.rel.length
            · obtain ⟨b, off, a', c', rfl, hb, hcq, hu⟩ := HRR.out.get hql
              have hul : (nth M.rel q).length = N := (row_in HO.out hql).1
              obtain ⟨b2, off2, rfl, hb2, hc2⟩ := hu.get (k := j) (by omega)
              have hst : insK M X Y S j (q + 1) = (insK M X Y S j q && ((nth (nth M.rel q) j &&& X) &&& ~~~ (Y &&& S) == 0#64)) := rfl
              have HST := Lib.hid hst
              clear hst hu
              cases hin : insK M X Y S j q
              · go_wp2
                go_round
                case rel => exact ⟨q + 1, hql, by go_num, by rw [HST.out, hin]; rfl⟩
                case measure => simp [intOf]; omega
              · cases hz : ((nth (nth M.rel q) j &&& X) &&& ~~~ (Y &&& S) == 0#64)
                · go_wp2
                  go_round
                  case rel => exact ⟨q + 1, hql, by go_num, by rw [HST.out, hin, hz]; rfl⟩
                  case measure => simp [intOf]; omega
                · go_wp2
                  go_round
                  case rel => exact ⟨q + 1, hql, by go_num, by rw [HST.out, hin, hz]; rfl⟩
                  case measure => simp [intOf]; omega
            · obtain rfl : q = M.rel.length := by omega
              cases hin : insK M X Y S j M.rel.length
              · have hs : nextK M X Y S (j + 1) = nextK M X Y S j := if_neg (by simp [hin])
                have HN := Lib.hid hs
                clear hs
                go_wp2
                go_round
                case rel => exact ⟨j + 1, hjl, by go_num, by rw [HN.out]⟩
                case measure => simp [intOf]; omega
              · have hs : nextK M X Y S (j + 1) = nextK M X Y S j ||| 1#64 <<< j := if_pos hin
                have HN := Lib.hid hs
                clear hs
                go_wp2
                go_round
                case rel => exact ⟨j + 1, hjl, by go_num, by rw [HN.out]⟩
                case measure => simp [intOf]; omega
        · obtain rfl : j = N := by omega
          go_wp2
          go_round
          case rel => exact ⟨k + 1, hlt, by go_num, by rw [← HS.out]; rfl⟩
          case measure => simp [intOf]; omega
    · obtain rfl : k = N + 1 := by omega
      go_wp2
      go_ret
      exact ⟨by simp, HE.out.trans hX6⟩
end Wt
