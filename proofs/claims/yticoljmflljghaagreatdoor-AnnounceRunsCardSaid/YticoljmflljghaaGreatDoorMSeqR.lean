/- Walk: wittingref25.Sequence. -/
import Derived.Test.YticoljmflljghaaGreatDoorMSeq
import Derived.Test.YticoljmflljghaaGreatDoorMRdC
namespace Wt
open Go Go.RowKit Go.Maps Go.Proofs Fm

set_option maxRecDepth 20000 in
set_option maxHeartbeats 4000000 in
theorem r25Sequence_any (M : Mo) (va ra : Option Addr) (vc rc : Nat) (oa : Option Addr) (oc : Nat) (l : List (List Nd)) (w : World) (hm : RM w va ra M) (hl : RNN w oa l) :
    Calls Tryz.prog 15 #[.agg #[.int .i64 M.worlds, .slice va M.val.length vc, .slice ra M.rel.length rc], .slice oa l.length oc] w fun e w' => RetQ (seqOf M l) e w w' := by
  have hbx := MoBox.new w M.worlds M.val M.rel va vc ra rc 25
  have hE0 : Ext w ((w.alloc (.cells #[.int .i64 M.worlds, .slice va M.val.length vc, .slice ra M.rel.length rc] 25)).alloc (.cells #[.int .i64 0, .slice none 0 0, .slice none 0 0] 25)) := ((Ext.refl w).alloc _).alloc _
  have hbx0 := hbx.ext ((Ext.refl _).alloc (.cells #[.int .i64 0, .slice none 0 0, .slice none 0 0] 25))
  have hm0 := hm.ext hE0
  have HL := Lib.hid (hl.ext hE0)
  have hll := hl.len
  obtain ⟨m0, m1, m2⟩ := hbx0
  dsimp only at m0 m1 m2
  have HE := Lib.hid hE0
  have HR := Lib.hid (OutAt.new1 w (.cells #[.int .i64 M.worlds, .slice va M.val.length vc, .slice ra M.rel.length rc] 25) (.int .i64 0) (.slice none 0 0) (.slice none 0 0) 25)
  have hs0 : ((w.alloc (.cells #[.int .i64 M.worlds, .slice va M.val.length vc, .slice ra M.rel.length rc] 25)).alloc (.cells #[.int .i64 0, .slice none 0 0, .slice none 0 0] 25)).heap.size = w.heap.size + 2 := by simp
  have HS0 := Lib.hid hs0
  clear hm hbx hE0 hl hs0
  by_cases hM : moCheck M = 0
  rotate_left
  · have hq : (moCheck M != 0) = true := by simpa using hM
    have hn : seqOf M l = (⟨0, [], []⟩, [], 0, moCheck M) := if_pos hM
    have HN := Lib.hid hn
    clear hn hM
    go_enter Tryz.func15, Tryz.ntmps15
    go_wp2_with fail
    generalize (w.alloc (.cells #[.int .i64 M.worlds, .slice va M.val.length vc, .slice ra M.rel.length rc] 25)).alloc (.cells #[.int .i64 0, .slice none 0 0, .slice none 0 0] 25) = W0 at *
    refine (r13Check_any M va ra vc rc _ hm0).mono ?_
    rintro _ w1 ⟨rfl, hE1⟩
    dsimp only
    obtain ⟨r0, r1, r2, rfz⟩ := HR.out.ext hE1
    have f0 := rfz 0
    have f1 := rfz 1
    have f2 := rfz 2
    have HO := Lib.hid (HR.out.ext hE1)
    have hsz := HO.out.lt
    clear rfz
    go_wp2_with fail
    rw [HN.out]
    have hEx : Ext w (((w1.setCell ⟨w.heap.size + 1, 0, none⟩ (.int .i64 0)).setCell ⟨w.heap.size + 1, 1, none⟩ (.slice none 0 0)).setCell ⟨w.heap.size + 1, 2, none⟩ (.slice none 0 0)) := (HE.out.trans hE1).set3 (by simp) _ _ _
    obtain ⟨d0, d1, d2, -⟩ := ((HO.out.set0 (.int .i64 0)).set1 (.slice none 0 0)).set2 (.slice none 0 0)
    generalize (((w1.setCell ⟨w.heap.size + 1, 0, none⟩ (.int .i64 0)).setCell ⟨w.heap.size + 1, 1, none⟩ (.slice none 0 0)).setCell ⟨w.heap.size + 1, 2, none⟩ (.slice none 0 0)) = W2 at *
    refine bodyPost_ret (v := .tuple #[.agg #[.int .i64 0, .slice none 0 0, .slice none 0 0], .slice none 0 0, .int .i64 0, .int .i64 (moCheck M)]) ?_ rfl ?_
    · rw [results_cell_three rfl]
      go_simp
    · exact RetQ.zero _ _ hEx
  · have hq : (moCheck M != 0) = false := by simp [hM]
    obtain ⟨N, ok⟩ := moCheck_ok hM
    have hNt : M.worlds.toNat = N := by rw [ok.worlds]; exact Int.toNat_natCast N
    have hR : seqR M (List.range N) (l.drop 0) 0 = seqOf M l := by unfold seqOf; rw [if_neg (by simp [hM]), hNt]; rfl
    have HM := Lib.hid hm0
    have HM0 := Lib.hid hM
    have HALL : Hid (∀ w, Calls Tryz.prog 43 #[.int .i64 M.worlds] w fun e w' => e = .returned (.int .u64 (un (allW N))) ∧ w = w') := by rw [ok.worlds]; exact Lib.hid fun w => r13All_any N w
    have HOK := Lib.hid ok
    have HRR := Lib.hid hR
    have hlr : (natI (List.range N)).length = N := by rw [natI_len]; simp
    generalize seqOf M l = R at *
    clear ok hR hM hm0
    go_enter Tryz.func15, Tryz.ntmps15
    go_wp2_with fail
    generalize (w.alloc (.cells #[.int .i64 M.worlds, .slice va M.val.length vc, .slice ra M.rel.length rc] 25)).alloc (.cells #[.int .i64 0, .slice none 0 0, .slice none 0 0] 25) = W0 at *
    refine (r13Check_any M va ra vc rc _ HM.out).mono ?_
    rintro _ wa1 ⟨rfl, hEa⟩
    rw [HM0.out]
    dsimp only
    have q0 := hEa.cell m0
    have q1 := hEa.cell m1
    have q2 := hEa.cell m2
    go_wp2_with fail
    refine (HALL.out _).mono ?_
    rintro _ _ ⟨rfl, rfl⟩
    dsimp only
    go_wp2_with fail
    refine (r13Members_any (allW N) _).mono ?_
    rintro _ wb1 ⟨la, lc, rfl, hu3, hEb⟩
    rw [memL_allW HOK.out.most] at hu3 ⊢
    dsimp only
    rw [hlr]
    have r0 := hEb.cell q0
    have r1 := hEb.cell q1
    have r2 := hEb.cell q2
    clear q0 q1 q2
    go_wp2_with fail
    refine (r13Copy_any M va ra vc rc _ N HOK.out (HM.out.ext (hEa.trans hEb))).mono ?_
    rintro _ w1 ⟨va2, ra2, vc2, rc2, svs, rfl, hm3, hEc⟩
    dsimp only
    have hE1 : Ext W0 w1 := (hEa.trans hEb).trans hEc
    have hnow := NowAt.newC (ws := List.range N) (B := w.heap.size + 2) (wa := la) (hm3.mono hEb.size) (fun w'' ha => hu3 w'' fun k hk hl => (ha k hk (Nat.lt_of_lt_of_le hl hEc.size)).trans (hEc.block k hl)) (by have := hEa.size; rw [HS0.out] at this; exact this) (hEb.trans hEc).size 25
    have HB := Lib.hid hE1.size
    have HB0 : Hid (w.heap.size + 2 ≤ W0.heap.size) := Lib.hid (by rw [HS0.out]; exact Nat.le_refl _)
    have hXX : Ext W0 (w1.alloc (.cells #[.int .i64 M.worlds, .slice va2 M.val.length vc2, .slice ra2 M.rel.length rc2] 25)) := hE1.alloc _
    obtain ⟨n0, n1, n2, nfz⟩ := hnow.out
    have HNOW := Lib.hid hnow
    have HX := Lib.hid hXX
    clear hnow hm3 hu3 nfz hXX r0 r1 r2
    go_wp2_with fail
    clear n0 n1 n2
    go_loopw [9, 11] (fun v i wr => ∃ k : Nat, k ≤ l.length ∧ i = .int .i64 (k : Int) ∧ SeqI W0 w.heap.size w1.heap.size R l k v wr) (fun _ i _ => l.length - (intOf i).toNat)
    case atStart => exact ⟨0, Nat.zero_le _, rfl, _, List.range N, _, _, _, _, _, lc, by simp, HNOW.out, by simpa using HOK.out, HRR.out, HX.out⟩
    case round =>
      obtain ⟨k, hk, rfl, A, ws, va3, ra3, wa, vc3, rc3, wc, rfl, hN, hok, hR, hX⟩ := hrel
      obtain ⟨n0, n1, n2, nfz⟩ := hN.out
      have g0 := nfz 0
      have g1 := nfz 1
      have g2 := nfz 2
      have HN := Lib.hid hN
      have HX3 := Lib.hid hX
      have HOK3 := Lib.hid hok
      clear nfz
      by_cases hkl : k < l.length
      · obtain ⟨bl, ol, fa, fc, rfl, hbl, hcl, hf⟩ := (HL.out.ext hX).get k hkl
        have hfl := hf.len
        rw [drop_nth hkl] at hR
        have hnx := OutAt.new wr (.int .i64 0) (.slice none 0 0) (.slice none 0 0) 25
        have hEn : Ext wr (wr.alloc (.cells #[.int .i64 0, .slice none 0 0, .slice none 0 0] 25)) := (Ext.refl _).alloc _
        have hsn : (wr.alloc (.cells #[.int .i64 0, .slice none 0 0, .slice none 0 0] 25)).heap.size = wr.heap.size + 1 := by simp
        have HUP : Hid (∀ w', Ext wr w' → Calls Tryz.prog 9 #[.agg #[.int .i64 A.worlds, .slice va3 A.val.length vc3, .slice ra3 A.rel.length rc3], .slice fa (nth l k).length fc] w' fun e w2 => RetRO (upM A (nth l k)) (natI (upL A (nth l k))) (upErr A (nth l k)) e w' w2) := Lib.hid fun w' e => r25Update_any A va3 ra3 vc3 rc3 fa fc (nth l k) w' (hN.ext e).rm (hf.ext e)
        have hbw := World.block_lt_of_cell? wr _ n0
        generalize nth l k = f at *
        by_cases hu : upErr A f = 0
        · have hq1 : (upErr A f != 0) = false := by simp [hu]
          rw [seqR_ok hu] at hR
          obtain ⟨N2, ok2, hok2, -, -, hlt2, hle2, -⟩ := up_ok hu
          have hN2 : N2 = ws.length := by
            have h1 := ok2.worlds
            have h2 := hok.worlds
            omega
          have hth := r25through_any ws (upL A f) wa
          have h64 := Nat.le_trans hle2 ok2.most
          rw [hu] at HUP
          have HOK4 := Lib.hid (show MoOk (upM A f) (thr ws (upL A f)).length by rw [thr_len]; exact hok2)
          have HRR := Lib.hid hR
          have hnl := natI_len (upL A f)
          have hnl2 : (natI (thr ws (upL A f))).length = (thr ws (upL A f)).length := natI_len _
          rw [hN2] at hlt2
          clear hN hok hR hu hok2 ok2
          have HEn := Lib.hid hEn
          have HNX : Hid (OutAt (wr.alloc (.cells #[.int .i64 0, .slice none 0 0, .slice none 0 0] 25)).drew wr.heap.size (.int .i64 0) (.slice none 0 0) (.slice none 0 0)) := Lib.hid (hnx.ext (Ext.refl _).drew)
          clear hnx hEn
          go_wp2_with fail
          go_region_law (first | (refine step_go (by rfl) ?_; go_simp; refine (HUP.out _ HEn.out.drew).mono ?_; rintro _ w2 ⟨va4, ra4, la4, vc4, rc4, lc4, svs4, rfl, hm4, hu4, hE4⟩; have hNX := HNX.out.ext hE4; obtain ⟨x0, x1, x2, xfz⟩ := hNX; have xf0 := xfz 0; have xf1 := xfz 1; have xf2 := xfz 2; clear xfz; rw [hnl]; dsimp only) | (refine step_go (by rfl) ?_; go_simp; refine (HUP.out _ (Ext.refl _).drew).mono ?_; rintro _ w2 ⟨va4, ra4, la4, vc4, rc4, lc4, svs4, rfl, hm4, hu4, hE4⟩; rw [hnl]; dsimp only))
          all_goals
            first
            | skip
              have hEr : Ext wr w2 := HEn.out.drew.trans hE4
              have hsn2 : wr.heap.size < (wr.alloc (.cells #[.int .i64 0, .slice none 0 0, .slice none 0 0] 25)).drew.heap.size := by show _ < (wr.alloc (.cells #[.int .i64 0, .slice none 0 0, .slice none 0 0] 25)).heap.size; omega
              clear n0 n1 n2 g0 g1 g2
              have hth := hth la4 wc lc4
              generalize upM A f = A2 at *
              generalize upL A f = l2 at *
              generalize thr ws l2 = ws2 at *
              go_wp2_with fail
              have hE3 : Ext wr (((w2.setCell ⟨wr.heap.size, 0, none⟩ (.int .i64 A2.worlds)).setCell ⟨wr.heap.size, 1, none⟩ (.slice va4 A2.val.length vc4)).setCell ⟨wr.heap.size, 2, none⟩ (.slice ra4 A2.rel.length rc4)) := hEr.set3 (Nat.le_refl _) _ _ _
              have hag : Agree (wr.alloc (.cells #[.int .i64 0, .slice none 0 0, .slice none 0 0] 25)).drew.heap.size w2 (((w2.setCell ⟨wr.heap.size, 0, none⟩ (.int .i64 A2.worlds)).setCell ⟨wr.heap.size, 1, none⟩ (.slice va4 A2.val.length vc4)).setCell ⟨wr.heap.size, 2, none⟩ (.slice ra4 A2.rel.length rc4)) := Agree.set3 w2 hsn2 _ _ _
              obtain ⟨x0, x1, x2, -⟩ := (((HNX.out.ext hE4).set0 (.int .i64 A2.worlds)).set1 (.slice va4 A2.val.length vc4)).set2 (.slice ra4 A2.rel.length rc4)
              generalize (((w2.setCell ⟨wr.heap.size, 0, none⟩ (.int .i64 A2.worlds)).setCell ⟨wr.heap.size, 1, none⟩ (.slice va4 A2.val.length vc4)).setCell ⟨wr.heap.size, 2, none⟩ (.slice ra4 A2.rel.length rc4)) = w3 at *
              have HM4 := Lib.hid ((hm4.agree hag).mono (B' := wr.heap.size) (Nat.le_of_lt hsn2))
              have HN6 := Lib.hid (HN.out.ext hE3.drew)
              have HU6 := Lib.hid (hu4 w3.drew hag)
              have HNX3 := Lib.hid ((Ext.refl w3).drew)
              clear hm4 hu4 hag HNX HEn hsn2 hsn xf0 xf1 xf2
              go_region_law (refine step_go (by rfl) ?_; go_simp; refine (hth _ HN6.out.ri HU6.out hlt2 h64).mono ?_; rintro _ w4 ⟨ta, tc, rfl, hu5, hE7⟩; rw [hnl2]; obtain ⟨p0, p1, p2, pfz⟩ := (HN6.out.ext hE7).out; have pf0 := pfz 0; have pf1 := pfz 1; have pf2 := pfz 2; have y0 := hE7.cell x0; have y1 := hE7.cell x1; have y2 := hE7.cell x2; have HU5 := Lib.hid hu5; have HE7 := Lib.hid hE7; clear pfz hu5; dsimp only)
              all_goals
                go_wp2
                go_roundw
                case rel => exact ⟨k + 1, hkl, by go_num, A2, ws2, _, _, _, _, _, tc, rfl, HN.out.next (by have := HB0.out; have := HX3.out.size; omega) hE3 HM4.out HNX3.out HE7.out HU5.out, HOK4.out, HRR.out, (HX3.out.trans (hE3.trans (HNX3.out.trans HE7.out))).set3 HB.out _ _ _⟩
                case measure => simp [intOf]; omega
            | skip
              have hEr : Ext wr w2 := (Ext.refl wr).drew.trans hE4
              clear n0 n1 n2 g0 g1 g2
              have hth := hth la4 wc lc4
              generalize upM A f = A2 at *
              generalize upL A f = l2 at *
              generalize thr ws l2 = ws2 at *
              have hnx := OutAt.new w2 (.int .i64 A2.worlds) (.slice va4 A2.val.length vc4) (.slice ra4 A2.rel.length rc4) 25
              have hE6 : Ext w2 (w2.alloc (.cells #[.int .i64 A2.worlds, .slice va4 A2.val.length vc4, .slice ra4 A2.rel.length rc4] 25)) := (Ext.refl _).alloc _
              go_wp2_with fail
              have hE3 : Ext wr (w2.alloc (.cells #[.int .i64 A2.worlds, .slice va4 A2.val.length vc4, .slice ra4 A2.rel.length rc4] 25)) := hEr.trans hE6
              have hag : Agree wr.drew.heap.size w2 (w2.alloc (.cells #[.int .i64 A2.worlds, .slice va4 A2.val.length vc4, .slice ra4 A2.rel.length rc4] 25)) := Agree.ofExt hE6
              obtain ⟨x0, x1, x2, -⟩ := hnx
              generalize (w2.alloc (.cells #[.int .i64 A2.worlds, .slice va4 A2.val.length vc4, .slice ra4 A2.rel.length rc4] 25)) = w3 at *
              have HM4 := Lib.hid ((hm4.agree hag).mono (B' := wr.heap.size) (Nat.le_refl _))
              have HN6 := Lib.hid (HN.out.ext hE3.drew)
              have HU6 := Lib.hid (hu4 w3.drew hag)
              have HNX3 := Lib.hid ((Ext.refl w3).drew)
              clear hm4 hu4 hag HNX HEn hsn hE6
              go_region_law (refine step_go (by rfl) ?_; go_simp; refine (hth _ HN6.out.ri HU6.out hlt2 h64).mono ?_; rintro _ w4 ⟨ta, tc, rfl, hu5, hE7⟩; rw [hnl2]; obtain ⟨p0, p1, p2, pfz⟩ := (HN6.out.ext hE7).out; have pf0 := pfz 0; have pf1 := pfz 1; have pf2 := pfz 2; have y0 := hE7.cell x0; have y1 := hE7.cell x1; have y2 := hE7.cell x2; have HU5 := Lib.hid hu5; have HE7 := Lib.hid hE7; clear pfz hu5; dsimp only)
              all_goals
                go_wp2
                go_roundw
                case rel => exact ⟨k + 1, hkl, by go_num, A2, ws2, _, _, _, _, _, tc, rfl, HN.out.next (by have := HB0.out; have := HX3.out.size; omega) hE3 HM4.out HNX3.out HE7.out HU5.out, HOK4.out, HRR.out, (HX3.out.trans (hE3.trans (HNX3.out.trans HE7.out))).set3 HB.out _ _ _⟩
                case measure => simp [intOf]; omega
        · have hq1 : (upErr A f != 0) = true := by simpa using hu
          rw [seqR_bad hu] at hR
          have HRR := Lib.hid hR
          clear hN hok hR hu
          have HEn := Lib.hid hEn
          have HNX : Hid (OutAt (wr.alloc (.cells #[.int .i64 0, .slice none 0 0, .slice none 0 0] 25)).drew wr.heap.size (.int .i64 0) (.slice none 0 0) (.slice none 0 0)) := Lib.hid (hnx.ext (Ext.refl _).drew)
          clear hnx hEn
          go_wp2_with fail
          go_region_law (first | (refine step_go (by rfl) ?_; go_simp; refine (HUP.out _ HEn.out.drew).mono ?_; rintro _ w2 ⟨va4, ra4, la4, vc4, rc4, lc4, svs4, rfl, hm4, hu4, hE4⟩; have hNX := HNX.out.ext hE4; obtain ⟨x0, x1, x2, xfz⟩ := hNX; have xf0 := xfz 0; have xf1 := xfz 1; have xf2 := xfz 2; clear xfz; dsimp only) | (refine step_go (by rfl) ?_; go_simp; refine (HUP.out _ (Ext.refl _).drew).mono ?_; rintro _ w2 ⟨va4, ra4, la4, vc4, rc4, lc4, svs4, rfl, hm4, hu4, hE4⟩; dsimp only))
          all_goals
            first
            | skip
              have hEr : Ext wr w2 := HEn.out.drew.trans hE4
              obtain ⟨r0, r1, r2, rfz⟩ := HR.out.ext (HX3.out.trans hEr)
              have f0 := rfz 0
              have f1 := rfz 1
              have f2 := rfz 2
              have HO := Lib.hid (HR.out.ext (HX3.out.trans hEr))
              have hsz := HO.out.lt
              clear rfz
              have hlw : w.heap.size + 1 < wr.heap.size := by have := HB0.out; have := HX3.out.size; omega
              go_wp2_with fail
              rw [← HRR.out]
              have hEx : Ext w ((((((w2.setCell ⟨wr.heap.size, 0, none⟩ (.int .i64 (upM A f).worlds)).setCell ⟨wr.heap.size, 1, none⟩ (.slice va4 (upM A f).val.length vc4)).setCell ⟨wr.heap.size, 2, none⟩ (.slice ra4 (upM A f).rel.length rc4)).setCell ⟨w.heap.size + 1, 0, none⟩ (.int .i64 0)).setCell ⟨w.heap.size + 1, 1, none⟩ (.slice none 0 0)).setCell ⟨w.heap.size + 1, 2, none⟩ (.slice none 0 0)) := (((HE.out.trans HX3.out).trans hEr).set3 (b := wr.heap.size) (by omega) _ _ _).set3 (by simp) _ _ _
              obtain ⟨d0, d1, d2, -⟩ := (((HO.out.other3 (b' := wr.heap.size) (u := .int .i64 (upM A f).worlds) (v := .slice va4 (upM A f).val.length vc4) (t := .slice ra4 (upM A f).rel.length rc4) (by omega)).set0 (.int .i64 0)).set1 (.slice none 0 0)).set2 (.slice none 0 0)
              generalize ((((((w2.setCell ⟨wr.heap.size, 0, none⟩ (.int .i64 (upM A f).worlds)).setCell ⟨wr.heap.size, 1, none⟩ (.slice va4 (upM A f).val.length vc4)).setCell ⟨wr.heap.size, 2, none⟩ (.slice ra4 (upM A f).rel.length rc4)).setCell ⟨w.heap.size + 1, 0, none⟩ (.int .i64 0)).setCell ⟨w.heap.size + 1, 1, none⟩ (.slice none 0 0)).setCell ⟨w.heap.size + 1, 2, none⟩ (.slice none 0 0)) = W2 at *
              refine bodyPost_ret (v := .tuple #[.agg #[.int .i64 0, .slice none 0 0, .slice none 0 0], .slice none 0 0, .int .i64 k, .int .i64 (upErr A f)]) ?_ rfl ?_
              · rw [results_cell_three rfl]
                go_simp
              · exact RetQ.zero _ _ hEx
            | skip
              have hEr : Ext wr w2 := (Ext.refl wr).drew.trans hE4
              obtain ⟨r0, r1, r2, rfz⟩ := HR.out.ext (HX3.out.trans hEr)
              have f0 := rfz 0
              have f1 := rfz 1
              have f2 := rfz 2
              have HO := Lib.hid (HR.out.ext (HX3.out.trans hEr))
              have hsz := HO.out.lt
              clear rfz
              go_wp2_with fail
              rw [← HRR.out]
              have hEx : Ext w ((((w2.setCell ⟨w.heap.size + 1, 0, none⟩ (.int .i64 0)).setCell ⟨w.heap.size + 1, 1, none⟩ (.slice none 0 0)).setCell ⟨w.heap.size + 1, 2, none⟩ (.slice none 0 0)).alloc (.cells #[.int .i64 (upM A f).worlds, .slice va4 (upM A f).val.length vc4, .slice ra4 (upM A f).rel.length rc4] 25)) := (((HE.out.trans HX3.out).trans hEr).set3 (by simp) _ _ _).alloc _
              obtain ⟨d0, d1, d2, -⟩ := HO.out.ext3 (.int .i64 0) (.slice none 0 0) (.slice none 0 0) (.cells #[.int .i64 (upM A f).worlds, .slice va4 (upM A f).val.length vc4, .slice ra4 (upM A f).rel.length rc4] 25)
              generalize ((((w2.setCell ⟨w.heap.size + 1, 0, none⟩ (.int .i64 0)).setCell ⟨w.heap.size + 1, 1, none⟩ (.slice none 0 0)).setCell ⟨w.heap.size + 1, 2, none⟩ (.slice none 0 0)).alloc (.cells #[.int .i64 (upM A f).worlds, .slice va4 (upM A f).val.length vc4, .slice ra4 (upM A f).rel.length rc4] 25)) = W2 at *
              refine bodyPost_ret (v := .tuple #[.agg #[.int .i64 0, .slice none 0 0, .slice none 0 0], .slice none 0 0, .int .i64 k, .int .i64 (upErr A f)]) ?_ rfl ?_
              · rw [results_cell_three rfl]
                go_simp
              · exact RetQ.zero _ _ hEx
      · obtain rfl : k = l.length := by omega
        rw [List.drop_length, seqR_nil] at hR
        have HRR := Lib.hid hR
        obtain ⟨r0, r1, r2, rfz⟩ := HR.out.ext hX
        have f0 := rfz 0
        have f1 := rfz 1
        have f2 := rfz 2
        have HO := Lib.hid (HR.out.ext hX)
        clear rfz hN hok hR
        go_wp2_with fail
        have hEx : Ext w (((wr.setCell ⟨w.heap.size + 1, 0, none⟩ (.int .i64 A.worlds)).setCell ⟨w.heap.size + 1, 1, none⟩ (.slice va3 A.val.length vc3)).setCell ⟨w.heap.size + 1, 2, none⟩ (.slice ra3 A.rel.length rc3)) := (HE.out.trans hX).set3 (by simp) _ _ _
        obtain ⟨d0, d1, d2, -⟩ := ((HO.out.set0 (.int .i64 A.worlds)).set1 (.slice va3 A.val.length vc3)).set2 (.slice ra3 A.rel.length rc3)
        have hag := Agree.set3 (B := w.heap.size + 2) wr (b := w.heap.size + 1) (by omega) (.int .i64 A.worlds) (.slice va3 A.val.length vc3) (.slice ra3 A.rel.length rc3)
        have hsz : wr.heap.size ≤ (((wr.setCell ⟨w.heap.size + 1, 0, none⟩ (.int .i64 A.worlds)).setCell ⟨w.heap.size + 1, 1, none⟩ (.slice va3 A.val.length vc3)).setCell ⟨w.heap.size + 1, 2, none⟩ (.slice ra3 A.rel.length rc3)).heap.size := by simp
        generalize ((wr.setCell ⟨w.heap.size + 1, 0, none⟩ (.int .i64 A.worlds)).setCell ⟨w.heap.size + 1, 1, none⟩ (.slice va3 A.val.length vc3)).setCell ⟨w.heap.size + 1, 2, none⟩ (.slice ra3 A.rel.length rc3) = W2 at *
        rw [← HRR.out]
        refine bodyPost_ret (v := .tuple #[.agg #[.int .i64 A.worlds, .slice va3 A.val.length vc3, .slice ra3 A.rel.length rc3], .slice wa ws.length wc, .int .i64 l.length, .int .i64 0]) ?_ rfl ?_
        · rw [results_cell_three rfl]
          go_simp
        · exact RetQ.now HN.out hag hsz (by omega) hEx
end Wt
