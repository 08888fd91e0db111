/- The walk of CheckerPaths. -/
import Derived.Test.YtdnpgadkklgjeaaGrp
namespace Wt
open Go Go.RowKit Go.Maps Go.Proofs Fm

theorem gRow_last (R : List (List (BitVec 64))) (G k N : Nat) (hG : ∀ q, q < R.length → G.testBit q = decide (q + 1 = R.length)) : ∀ q, q < R.length → gRow (jOf false) (zOf false N) R G k q = 0#64
  | 0, _ => rfl
  | q + 1, h => by
    rw [gRow_no (by rw [hG q (by omega)]; simp; omega)]
    exact gRow_last R G k N hG q (by omega)
theorem group_last {M : Mo} {N : Nat} (ok : MoOk M N) {G : Nat} (h1 : 1 ≤ G) (h2 : (G : Int) < p2 M.rel.length) (hG : ∀ q, q < M.rel.length → G.testBit q = decide (q + 1 = M.rel.length)) (hR : 1 ≤ M.rel.length) : groupOf M G = nth M.rel (M.rel.length - 1) := by
  obtain ⟨hl, _⟩ := group_in ok h1 h2
  obtain ⟨hl2, _⟩ := row_in ok (k := M.rel.length - 1) (by omega)
  apply List.ext_getElem (by omega)
  intro k hk hk2
  rw [← nth_eq _ _ hk, ← nth_eq _ _ hk2, group_row ok h1 h2 (by omega)]
  have e : M.rel.length = (M.rel.length - 1) + 1 := by omega
  have hb : G.testBit (M.rel.length - 1) = true := by rw [hG _ (by omega)]; simp; omega
  rw [show gRow (jOf false) (zOf false N) M.rel G k M.rel.length = gRow (jOf false) (zOf false N) M.rel G k ((M.rel.length - 1) + 1) by rw [← e], gRow_yes hb, gRow_last _ _ _ _ hG _ (by omega)]
  show 0#64 ||| _ = _
  simp
set_option maxRecDepth 20000 in
set_option maxHeartbeats 8000000 in
theorem checkerPaths_any (M : Mo) (va ra : Option Addr) (vc rc : Nat) (fa : Option Addr) (fc : Nat) (f : List Nd) (ca : Option Addr) (cc : Nat) (c : List Nd) (w : World) (hm : RM w va ra M) (hf : RN w fa f) (hc : RN w ca c) :
    Calls Try.prog 7 #[.agg #[.int .i64 M.worlds, .slice va M.val.length vc, .slice ra M.rel.length rc], .slice fa f.length fc, .slice ca c.length cc] w fun e w' => e = .returned (.bool true) ∧ Ext w w' := by
  have hE0 := (Ext.refl w).alloc (.cells #[.int .i64 M.worlds, .slice va M.val.length vc, .slice ra M.rel.length rc] 25)
  have hbx := MoBox.new w M.worlds M.val M.rel va vc ra rc 25
  have Hf := Lib.hid (hf.ext hE0)
  have Hc := Lib.hid (hc.ext hE0)
  have HM := Lib.hid (hm.ext hE0)
  have HE := Lib.hid hE0
  have HBX := Lib.hid hbx
  have hrl := hm.rel.len
  clear hm hf hc hE0 hbx
  go_enter Try.func7, Try.ntmps7
  go_wp2_with fail
  refine (awake_any _).mono ?_
  rintro _ w1 ⟨rfl, hX1⟩
  dsimp only
  obtain ⟨m0, m1, m2⟩ := HBX.out.ext hX1
  dsimp only at m0 m1 m2
  go_wp2_with fail
  refine (few_any M va ra vc rc _ 2 [f, c] _ (HM.out.ext (hX1.alloc _)) (RNN.two _ fa ca fc cc f c 26 (Hf.out.ext hX1) (Hc.out.ext hX1))).mono ?_
  rintro _ w2 ⟨b, rfl, hE2, hsm⟩
  dsimp only
  have hX2 := (hX1.alloc (.cells #[.slice fa f.length fc, .slice ca c.length cc] 26)).trans hE2
  cases b
  · go_wp2_with fail
    refine (awake_any _).mono ?_
    rintro _ w3 ⟨rfl, hE3⟩
    dsimp only
    go_wp2_with fail
    go_ret
    exact ⟨rfl, HE.out.trans (hX2.trans hE3)⟩
  have hlf : f.length ≤ 60 := hsm rfl 0 (by simp)
  have hlc : c.length ≤ 60 := hsm rfl 1 (by simp)
  clear hsm m0 m1 m2
  obtain ⟨m0, m1, m2⟩ := HBX.out.ext hX2
  dsimp only at m0 m1 m2
  go_wp2_with fail
  refine (r13Check_any M va ra vc rc _ (HM.out.ext hX2)).mono ?_
  rintro _ w3 ⟨rfl, hE3⟩
  dsimp only
  have hX3 := hX2.trans hE3
  clear m0 m1 m2
  obtain ⟨m0, m1, m2⟩ := HBX.out.ext hX3
  dsimp only at m0 m1 m2
  by_cases hM : moCheck M = 0
  rotate_left
  · have hq : (moCheck M != 0) = true := by simpa using hM
    go_wp2_with fail
    refine (awake_any _).mono ?_
    rintro _ w4 ⟨rfl, hE4⟩
    dsimp only
    go_wp2_with fail
    go_ret
    exact ⟨rfl, HE.out.trans (hX3.trans hE4)⟩
  have hq : (moCheck M != 0) = false := by simp [hM]
  obtain ⟨N, ok⟩ := moCheck_ok hM
  by_cases hR : M.rel.length = 0
  · have hq2 : ((M.rel.length : Int) == 0) = true := by rw [beq_iff_eq]; omega
    go_wp2_with fail
    refine (awake_any _).mono ?_
    rintro _ w4 ⟨rfl, hE4⟩
    dsimp only
    go_wp2_with fail
    go_ret
    exact ⟨rfl, HE.out.trans (hX3.trans hE4)⟩
  have hq2 : ((M.rel.length : Int) == 0) = false := by rw [beq_eq_false_iff_ne]; omega
  go_wp2_with fail
  refine (set_any M va ra vc rc ca cc c _ (HM.out.ext hX3) (Hc.out.ext hX3)).mono ?_
  rintro _ w4 ⟨rfl, hE4⟩
  dsimp only
  have hX4 := hX3.trans hE4
  clear m0 m1 m2
  obtain ⟨m0, m1, m2⟩ := HBX.out.ext hX4
  dsimp only at m0 m1 m2
  go_wp2_with fail
  refine (set_any M va ra vc rc fa fc f _ (HM.out.ext hX4) (Hf.out.ext hX4)).mono ?_
  rintro _ w5 ⟨rfl, hE5⟩
  dsimp only
  have hX5 := hX4.trans hE5
  clear m0 m1 m2
  obtain ⟨m0, m1, m2⟩ := HBX.out.ext hX5
  dsimp only at m0 m1 m2
  by_cases hq3 : (reqErr M c == 0) = true
  rotate_left
  · have hq3' : (reqErr M c == 0) = false := by simpa using hq3
    go_wp2_with fail
    go_ret
    exact ⟨rfl, HE.out.trans hX5⟩
  by_cases hq4 : (reqErr M f == 0) = true
  rotate_left
  · have hq4' : (reqErr M f == 0) = false := by simpa using hq4
    go_wp2_with fail
    go_ret
    exact ⟨rfl, HE.out.trans hX5⟩
  obtain ⟨_, Ic, Sc⟩ := set_ok hq3
  obtain ⟨_, If, Sf⟩ := set_ok hq4
  have hNt : M.worlds.toNat = N := by rw [ok.worlds]; exact Int.toNat_natCast N
  have zf : fsize (rt f) ≤ 60 := Nat.le_trans If.sz hlf
  have kf := If.fk
  have ef : (semT M (rt f)).2 = true := by rw [Sf]
  have vf : (semT M (rt f)).1 = holdsOf M f := by rw [Sf]
  have zc : fsize (rt c) ≤ 60 := Nat.le_trans Ic.sz hlc
  have kc := Ic.fk
  have ec : (semT M (rt c)).2 = true := by rw [Sc]
  have vc2 : (semT M (rt c)).1 = holdsOf M c := by rw [Sc]
  have hR1 : 1 ≤ M.rel.length := by omega
  obtain ⟨G, hG1, hG2, hGt, hgw⟩ := last_group hR1 ok.rel
  obtain ⟨hp1, hp2⟩ := p2_small hR1 ok.rel
  have h63 : (M.rel.length - 1) < 63 := by have := ok.rel; omega
  have I1 := Lib.hid (isF_bin (o := 13) (i := 0) (e := 0) (q := (G : Int)) Ic If (fok_common (G : Int) (by omega) kc kf) (Nat.le_trans (fsize_bin 13 0 0 (G : Int)) (by omega)) rfl)
  have S1 : Hid (semT M (.bin 13 0 0 (G : Int) (rt c) (rt f)) = (cmn (nth M.rel (M.rel.length - 1)) N (holdsOf M c) (holdsOf M f), true)) := Lib.hid (by
    rw [semT_bin _ _ _ _ ec ef, vc2, vf, ← congrArg (fun r => cmn r N (holdsOf M c) (holdsOf M f)) (group_last ok hG1.1 hG2 hGt hR1)]
    have hng : ¬ (p2 M.rel.length ≤ (G : Int)) := by omega
    simp [valN, hNt, hng])
  have hsub : IntKind.i64.wrap ((M.rel.length : Int) - 1) = ((M.rel.length - 1 : Nat) : Int) := by rw [IntWalk.i64_in _ (by have := ok.rel; omega)]; omega
  have hN64 := ok.most
  have hR4 := ok.rel
  have hlast : M.rel.length - 1 < M.rel.length := by omega
  obtain ⟨hrlen, hrow⟩ := row_in ok hlast
  have HBAD : Hid (∀ k, k < N → badP (nth M.rel (M.rel.length - 1)) (holdsOf M c) (holdsOf M f) N (1#64 <<< k) N = !bt (cmn (nth M.rel (M.rel.length - 1)) N (holdsOf M c) (holdsOf M f)) k) := Lib.hid fun k hk => path_law hrlen hN64 hrow _ _ hk
  clear zf zc kf kc ef ec vf vc2 hlf hlc If Ic Sf Sc hG1 hG2 hGt hNt hrow
  have HK5 : Hid (∀ w', Ext w5 w' → w'.cell? ⟨w.heap.size, 0, none⟩ = some (.int .i64 M.worlds) ∧ w'.cell? ⟨w.heap.size, 1, none⟩ = some (.slice va M.val.length vc) ∧ w'.cell? ⟨w.heap.size, 2, none⟩ = some (.slice ra M.rel.length rc)) := Lib.hid fun w' e => ⟨e.cell m0, e.cell m1, e.cell m2⟩
  have HX5 : Hid (∀ w', Ext w5 w' → Ext (w.alloc (.cells #[.int .i64 M.worlds, .slice va M.val.length vc, .slice ra M.rel.length rc] 25)) w') := Lib.hid fun w' e => hX5.trans e
  go_wp2_with fail
  clear m0 m1 m2
  go_region_held3 (fun w' => w'.cell? ⟨w.heap.size, 0, none⟩ = some (.int .i64 M.worlds) ∧ w'.cell? ⟨w.heap.size, 1, none⟩ = some (.slice va M.val.length vc) ∧ w'.cell? ⟨w.heap.size, 2, none⟩ = some (.slice ra M.rel.length rc)) (first | exact HK5.out _ (Ext.refl _) | exact HK5.out _ ((Ext.refl _).drew) | exact HK5.out _ (by assumption) | go_keep)
    (first | (go_at_call 29; refine (cCommon_any _ _ _ _ _ _ _ _ (by first | assumption | exact Hf.out.ext (HX5.out _ (by first | exact Ext.refl _ | exact (Ext.refl _).drew | assumption)) | exact Hc.out.ext (HX5.out _ (by first | exact Ext.refl _ | exact (Ext.refl _).drew | assumption))) (by first | assumption | exact Hf.out.ext (HX5.out _ (by first | exact Ext.refl _ | exact (Ext.refl _).drew | assumption)) | exact Hc.out.ext (HX5.out _ (by first | exact Ext.refl _ | exact (Ext.refl _).drew | assumption)))).mono ?_; rintro _ wa ⟨la, lc, rfl, hr, hY⟩; have hZ : Ext w5 wa := Ext.trans (by first | exact Ext.refl _ | exact (Ext.refl _).drew | assumption) hY) | (go_at_call 22; refine (setT hM I1.out S1.out va ra vc rc _ _ _ (HM.out.ext (HX5.out _ (by assumption))) (by assumption)).mono ?_; rintro _ w6 ⟨rfl, hY2⟩; have hE6 : Ext w5 w6 := Ext.trans (by assumption) hY2) | fail)
  have hX6 := hX5.trans hE6
  obtain ⟨m0, m1, m2⟩ := HBX.out.ext hX6
  dsimp only at m0 m1 m2
  rw [ok.worlds] at m0
  have HRR := Lib.hid ((HM.out.ext hX6).rel)
  obtain ⟨b, off, a', c', rfl, hb, hcq, hu⟩ := HRR.out.get hlast
  have HU := Lib.hid hu
  clear ok hu
  generalize holdsOf M c = X at *
  generalize holdsOf M f = Y at *
  generalize cmn (nth M.rel (M.rel.length - 1)) N X Y = C at *
  generalize nth M.rel (M.rel.length - 1) = r at *
  go_wp2
  go_loop [86] (fun i => ∃ k : Nat, k ≤ N ∧ i = .int .i64 (k : Int)) (fun i => N - (intOf i).toNat)
  case atStart => exact ⟨0, Nat.zero_le _, rfl⟩
  case round =>
    obtain ⟨k, hk, rfl⟩ := hrel
    by_cases hlt : k < N
    · have HB := Lib.hid (HBAD.out k hlt)
      go_wp2
      go_loop [16, 17, 93] (fun e b i => ∃ j : Nat, j ≤ N ∧ i = .int .i64 (j : Int) ∧ e = .int .u64 (un (endP r X N (1#64 <<< k) j)) ∧ b = .bool (badP r X Y N (1#64 <<< k) j)) (fun _ _ i => N - (intOf i).toNat)
      case atStart => exact ⟨0, Nat.zero_le _, rfl, rfl, rfl⟩
      case round =>
        obtain ⟨j, hj, rfl, rfl, rfl⟩ := hrel
        by_cases hjl : j < N
        · have hse : endP r X N (1#64 <<< k) (j + 1) = nxP r X (endP r X N (1#64 <<< k) j) N := rfl
          have hsb : badP r X Y N (1#64 <<< k) (j + 1) = (badP r X Y N (1#64 <<< k) j || (endP r X N (1#64 <<< k) (j + 1) &&& ~~~ Y != 0#64)) := rfl
          rw [hse] at hsb
          have HSE := Lib.hid hse
          have HSB := Lib.hid hsb
          clear hse hsb
          generalize endP r X N (1#64 <<< k) j = E at *
          generalize badP r X Y N (1#64 <<< k) j = B at *
          go_wp2
          go_loop [18, 97] (fun nx i => ∃ v : Nat, v ≤ N ∧ i = .int .i64 (v : Int) ∧ nx = .int .u64 (un (nxP r X E v))) (fun _ i => N - (intOf i).toNat)
          case atStart => exact ⟨0, Nat.zero_le _, rfl, rfl⟩
          case round =>
            obtain ⟨v, hv, rfl, rfl⟩ := hrel
            by_cases hvl : v < N
            · obtain ⟨b2, off2, rfl, hb2, hc2⟩ := HU.out.get (k := v) (by omega)
              cases hbt : bt E v
              · have hs : nxP r X E (v + 1) = nxP r X E v := if_neg (by simp [hbt])
                have HN := Lib.hid hs
                clear hs
                go_wp2
                go_round
                case rel => exact ⟨v + 1, hvl, by go_num, by rw [HN.out]⟩
                case measure => simp [intOf]; omega
              · have hs : nxP r X E (v + 1) = nxP r X E v ||| (nth r v &&& X) := if_pos hbt
                have HN := Lib.hid hs
                clear hs
                go_wp2
                go_round
                case rel => exact ⟨v + 1, hvl, by go_num, by rw [HN.out]⟩
                case measure => simp [intOf]; omega
            · obtain rfl : v = N := by omega
              cases B
              · cases hz : (nxP r X E v &&& ~~~ Y != 0#64)
                · go_wp2
                  go_round
                  case rel => exact ⟨j + 1, hjl, by go_num, by rw [HSE.out], by rw [HSB.out, hz]; rfl⟩
                  case measure => simp [intOf]; omega
                · go_wp2
                  go_round
                  case rel => exact ⟨j + 1, hjl, by go_num, by rw [HSE.out], by rw [HSB.out, hz]; rfl⟩
                  case measure => simp [intOf]; omega
              · go_wp2
                go_round
                case rel => exact ⟨j + 1, hjl, by go_num, by rw [HSE.out], by rw [HSB.out]; rfl⟩
                case measure => simp [intOf]; omega
        · obtain rfl : j = N := by omega
          rw [HB.out]
          cases hc : bt C k
          · go_wp2
            go_round
            case rel => exact ⟨k + 1, hlt, by go_num⟩
            case measure => simp [intOf]; omega
          · go_wp2
            go_round
            case rel => exact ⟨k + 1, hlt, by go_num⟩
            case measure => simp [intOf]; omega
    · obtain rfl : k = N := by omega
      go_wp2
      go_ret
      exact ⟨rfl, HE.out.trans hX6⟩
end Wt
