/- Walk: wittingref25.Repeat. -/
import Derived.Test.YticoljmflljghaaGreatDoorMSeq
import Derived.Test.YticoljmflljghaaGreatDoorMRdC
import Derived.Test.YticoljmflljghaaGreatDoorMRef
namespace Wt
open Go Go.RowKit Go.Maps Go.Proofs Fm

/-- The rounds of Repeat. -/
def RepJ (W0 : World) (n b : Nat) (R : Mo × List Nat × Nat) (f : List Nd) (k : Nat) (sv v : Value) (wr : World) : Prop :=
  ∃ A ws va ra wa vc rc wc, sv = .int .u64 (un (holdsOf A f)) ∧ v = .slice wa ws.length wc ∧ NowAt (n + 2) b A ws va ra wa vc rc wr ∧ MoOk A ws.length ∧ reqErr A f = 0 ∧ (∃ j, ws.length ≤ j ∧ repR f j A ws k = R) ∧ k + ws.length ≤ 64 ∧ Ext W0 wr
set_option maxRecDepth 20000 in
set_option maxHeartbeats 4000000 in
theorem r25Repeat_any (M : Mo) (va ra : Option Addr) (vc rc : Nat) (fa : Option Addr) (fc : Nat) (f : List Nd) (w : World) (hm : RM w va ra M) (hf : RN w fa f) :
    Calls Tryz.prog 17 #[.agg #[.int .i64 M.worlds, .slice va M.val.length vc, .slice ra M.rel.length rc], .slice fa f.length fc] w fun e w' => RetQ (repQ M f) e w w' := by
  have hbx := MoBox.new w M.worlds M.val M.rel va vc ra rc 25
  have hE0 : Ext w ((w.alloc (.cells #[.int .i64 M.worlds, .slice va M.val.length vc, .slice ra M.rel.length rc] 25)).alloc (.cells #[.int .i64 0, .slice none 0 0, .slice none 0 0] 25)) := ((Ext.refl w).alloc _).alloc _
  have hbx0 := hbx.ext ((Ext.refl _).alloc (.cells #[.int .i64 0, .slice none 0 0, .slice none 0 0] 25))
  have hm0 := hm.ext hE0
  have HF := Lib.hid (hf.ext hE0)
  have HHO := Lib.hid (r17Holds_any M va ra vc rc fa fc f _ hm0 (hf.ext hE0))
  obtain ⟨m0, m1, m2⟩ := hbx0
  dsimp only at m0 m1 m2
  have HE := Lib.hid hE0
  have HR := Lib.hid (OutAt.new1 w (.cells #[.int .i64 M.worlds, .slice va M.val.length vc, .slice ra M.rel.length rc] 25) (.int .i64 0) (.slice none 0 0) (.slice none 0 0) 25)
  have hs0 : ((w.alloc (.cells #[.int .i64 M.worlds, .slice va M.val.length vc, .slice ra M.rel.length rc] 25)).alloc (.cells #[.int .i64 0, .slice none 0 0, .slice none 0 0] 25)).heap.size = w.heap.size + 2 := by simp
  have HS0 := Lib.hid hs0
  clear hm hbx hE0 hf hs0
  by_cases hM : reqErr M f = 0
  rotate_left
  · have hq : (reqErr M f != 0) = true := by simpa using hM
    have hn : repQ M f = (⟨0, [], []⟩, [], 0, reqErr M f) := if_pos hM
    have HN := Lib.hid hn
    clear hn hM
    go_enter Tryz.func17, Tryz.ntmps17
    go_wp2_with fail
    generalize (w.alloc (.cells #[.int .i64 M.worlds, .slice va M.val.length vc, .slice ra M.rel.length rc] 25)).alloc (.cells #[.int .i64 0, .slice none 0 0, .slice none 0 0] 25) = W0 at *
    refine HHO.out.mono ?_
    rintro _ w1 ⟨rfl, hE1⟩
    dsimp only
    obtain ⟨r0, r1, r2, rfz⟩ := HR.out.ext hE1
    have f0 := rfz 0
    have f1 := rfz 1
    have f2 := rfz 2
    have HO := Lib.hid (HR.out.ext hE1)
    have hsz := HO.out.lt
    clear rfz
    go_wp2_with fail
    rw [HN.out]
    have hEx : Ext w (((w1.setCell ⟨w.heap.size + 1, 0, none⟩ (.int .i64 0)).setCell ⟨w.heap.size + 1, 1, none⟩ (.slice none 0 0)).setCell ⟨w.heap.size + 1, 2, none⟩ (.slice none 0 0)) := (HE.out.trans hE1).set3 (by simp) _ _ _
    obtain ⟨d0, d1, d2, -⟩ := ((HO.out.set0 (.int .i64 0)).set1 (.slice none 0 0)).set2 (.slice none 0 0)
    generalize (((w1.setCell ⟨w.heap.size + 1, 0, none⟩ (.int .i64 0)).setCell ⟨w.heap.size + 1, 1, none⟩ (.slice none 0 0)).setCell ⟨w.heap.size + 1, 2, none⟩ (.slice none 0 0)) = W2 at *
    refine bodyPost_ret (v := .tuple #[.agg #[.int .i64 0, .slice none 0 0, .slice none 0 0], .slice none 0 0, .int .i64 0, .int .i64 (reqErr M f)]) ?_ rfl ?_
    · rw [results_cell_three rfl]
      go_simp
    · exact RetQ.zero _ _ hEx
  · have hq : (reqErr M f != 0) = false := by simp [hM]
    have hM0 := (reqErr_ok hM).1
    obtain ⟨N, ok⟩ := moCheck_ok hM0
    have hNt : M.worlds.toNat = N := by rw [ok.worlds]; exact Int.toNat_natCast N
    have hR : repQ M f = ((repR f N M (List.range N) 0).1, (repR f N M (List.range N) 0).2.1, (repR f N M (List.range N) 0).2.2, 0) := by unfold repQ; rw [if_neg (by simp [hM]), hNt]
    have HALL : Hid (∀ w, Calls Tryz.prog 43 #[.int .i64 M.worlds] w fun e w' => e = .returned (.int .u64 (un (allW N))) ∧ w = w') := by rw [ok.worlds]; exact Lib.hid fun w => r13All_any N w
    have HM := Lib.hid hm0
    have HOK := Lib.hid ok
    have HRQ := Lib.hid hM
    have hlr : (natI (List.range N)).length = N := by rw [natI_len]; simp
    rw [hR]
    obtain ⟨R, hRg⟩ : ∃ R, repR f N M (List.range N) 0 = R := ⟨_, rfl⟩
    rw [hRg]
    have HRR := Lib.hid hRg
    clear ok hR hM hM0 hm0 hRg hNt
    go_enter Tryz.func17, Tryz.ntmps17
    go_wp2_with fail
    generalize (w.alloc (.cells #[.int .i64 M.worlds, .slice va M.val.length vc, .slice ra M.rel.length rc] 25)).alloc (.cells #[.int .i64 0, .slice none 0 0, .slice none 0 0] 25) = W0 at *
    refine HHO.out.mono ?_
    rintro _ wa1 ⟨rfl, hEa⟩
    rw [HRQ.out]
    dsimp only
    have q0 := hEa.cell m0
    have q1 := hEa.cell m1
    have q2 := hEa.cell m2
    go_wp2_with fail
    refine (HALL.out _).mono ?_
    rintro _ _ ⟨rfl, rfl⟩
    dsimp only
    go_wp2_with fail
    refine (r13Members_any (allW N) _).mono ?_
    rintro _ wb1 ⟨la, lc, rfl, hu3, hEb⟩
    rw [memL_allW HOK.out.most] at hu3 ⊢
    dsimp only
    rw [hlr]
    have r0 := hEb.cell q0
    have r1 := hEb.cell q1
    have r2 := hEb.cell q2
    clear q0 q1 q2
    go_wp2_with fail
    refine (r13Copy_any M va ra vc rc _ N HOK.out (HM.out.ext (hEa.trans hEb))).mono ?_
    rintro _ w1 ⟨va2, ra2, vc2, rc2, svs, rfl, hm3, hEc⟩
    dsimp only
    have hE1 : Ext W0 w1 := (hEa.trans hEb).trans hEc
    have hnow := NowAt.newC (ws := List.range N) (B := w.heap.size + 2) (wa := la) (hm3.mono hEb.size) (fun w'' ha => hu3 w'' fun k hk hl => (ha k hk (Nat.lt_of_lt_of_le hl hEc.size)).trans (hEc.block k hl)) (by have := hEa.size; rw [HS0.out] at this; exact this) (hEb.trans hEc).size 25
    have HB := Lib.hid hE1.size
    have HB0 : Hid (w.heap.size + 2 ≤ W0.heap.size) := Lib.hid (by rw [HS0.out]; exact Nat.le_refl _)
    have hXX : Ext W0 (w1.alloc (.cells #[.int .i64 M.worlds, .slice va2 M.val.length vc2, .slice ra2 M.rel.length rc2] 25)) := hE1.alloc _
    obtain ⟨n0, n1, n2, nfz⟩ := hnow.out
    have HNOW := Lib.hid hnow
    have HX := Lib.hid hXX
    clear hnow hm3 hu3 nfz hXX r0 r1 r2
    go_wp2_with fail
    clear n0 n1 n2
    go_loopw [8, 10, 12] (fun sv v i wr => ∃ k : Nat, i = .int .i64 (k : Int) ∧ RepJ W0 w.heap.size w1.heap.size R f k sv v wr) (fun _ v _ _ => lenOf v)
    case atStart => exact ⟨0, rfl, M, List.range N, _, _, _, _, _, lc, rfl, by simp, HNOW.out, by simpa using HOK.out, HRQ.out, ⟨N, by simp, HRR.out⟩, by simpa using HOK.out.most, HX.out⟩
    case round =>
      obtain ⟨k, rfl, A, ws, va3, ra3, wa, vc3, rc3, wc, rfl, rfl, hN, hok, hq, ⟨jf, hjf, hR⟩, hk64, hX⟩ := hrel
      obtain ⟨n0, n1, n2, nfz⟩ := hN.out
      have g0 := nfz 0
      have g1 := nfz 1
      have g2 := nfz 2
      have HX3 := Lib.hid hX
      have HAL : Hid (∀ w, Calls Tryz.prog 43 #[.int .i64 A.worlds] w fun e w' => e = .returned (.int .u64 (un (allW ws.length))) ∧ w = w') := by rw [hok.worlds]; exact Lib.hid fun w => r13All_any ws.length w
      clear nfz
      by_cases hz : holdsOf A f = 0#64
      · have hz1 : (holdsOf A f != 0#64) = false := by simp [hz]
        rw [repR_stop hok hjf (.inl hz)] at hR
        have HRR := Lib.hid hR
        obtain ⟨r0, r1, r2, rfz⟩ := HR.out.ext hX
        have f0 := rfz 0
        have f1 := rfz 1
        have f2 := rfz 2
        have HO := Lib.hid (HR.out.ext hX)
        have hrl := HO.out.lt
        have HN := Lib.hid hN
        clear rfz hN hok hq hR hz g0 g1 g2
        go_wp2_with fail
        have hEx : Ext w (((wr.setCell ⟨w.heap.size + 1, 0, none⟩ (.int .i64 A.worlds)).setCell ⟨w.heap.size + 1, 1, none⟩ (.slice va3 A.val.length vc3)).setCell ⟨w.heap.size + 1, 2, none⟩ (.slice ra3 A.rel.length rc3)) := (HE.out.trans HX3.out).set3 (by simp) _ _ _
        obtain ⟨d0, d1, d2, -⟩ := ((HO.out.set0 (.int .i64 A.worlds)).set1 (.slice va3 A.val.length vc3)).set2 (.slice ra3 A.rel.length rc3)
        have hag : Agree (w.heap.size + 2) wr (((wr.setCell ⟨w.heap.size + 1, 0, none⟩ (.int .i64 A.worlds)).setCell ⟨w.heap.size + 1, 1, none⟩ (.slice va3 A.val.length vc3)).setCell ⟨w.heap.size + 1, 2, none⟩ (.slice ra3 A.rel.length rc3)) := Agree.set3 (B := w.heap.size + 2) wr (b := w.heap.size + 1) (by omega) (.int .i64 A.worlds) (.slice va3 A.val.length vc3) (.slice ra3 A.rel.length rc3)
        have hsz : wr.heap.size ≤ (((wr.setCell ⟨w.heap.size + 1, 0, none⟩ (.int .i64 A.worlds)).setCell ⟨w.heap.size + 1, 1, none⟩ (.slice va3 A.val.length vc3)).setCell ⟨w.heap.size + 1, 2, none⟩ (.slice ra3 A.rel.length rc3)).heap.size := by simp
        generalize (((wr.setCell ⟨w.heap.size + 1, 0, none⟩ (.int .i64 A.worlds)).setCell ⟨w.heap.size + 1, 1, none⟩ (.slice va3 A.val.length vc3)).setCell ⟨w.heap.size + 1, 2, none⟩ (.slice ra3 A.rel.length rc3)) = W2 at *
        rw [← HRR.out]
        refine bodyPost_ret (v := .tuple #[.agg #[.int .i64 A.worlds, .slice va3 A.val.length vc3, .slice ra3 A.rel.length rc3], .slice wa ws.length wc, .int .i64 k, .int .i64 0]) ?_ rfl ?_
        · rw [results_cell_three rfl]
          go_simp
        · exact RetQ.now HN.out hag hsz (by omega) hEx
      have hu := upErr_mk hq hz
      have hz1 : (holdsOf A f != 0#64) = true := by simpa using hz
      by_cases hz2 : holdsOf A f = allW ws.length
      · have hz3 : (holdsOf A f != allW ws.length) = false := by simp [hz2]
        rw [repR_stop hok hjf (.inr hz2)] at hR
        have HRR := Lib.hid hR
        clear hu hz2
        obtain ⟨r0, r1, r2, rfz⟩ := HR.out.ext hX
        have f0 := rfz 0
        have f1 := rfz 1
        have f2 := rfz 2
        have HO := Lib.hid (HR.out.ext hX)
        have hrl := HO.out.lt
        have HN := Lib.hid hN
        clear rfz hN hok hq hR hz g0 g1 g2
        go_wp2_with (go_at_call 43; refine (HAL.out _).mono ?_; rintro _ _ ⟨rfl, rfl⟩)
        have hEx : Ext w (((wr.setCell ⟨w.heap.size + 1, 0, none⟩ (.int .i64 A.worlds)).setCell ⟨w.heap.size + 1, 1, none⟩ (.slice va3 A.val.length vc3)).setCell ⟨w.heap.size + 1, 2, none⟩ (.slice ra3 A.rel.length rc3)) := (HE.out.trans HX3.out).set3 (by simp) _ _ _
        obtain ⟨d0, d1, d2, -⟩ := ((HO.out.set0 (.int .i64 A.worlds)).set1 (.slice va3 A.val.length vc3)).set2 (.slice ra3 A.rel.length rc3)
        have hag : Agree (w.heap.size + 2) wr (((wr.setCell ⟨w.heap.size + 1, 0, none⟩ (.int .i64 A.worlds)).setCell ⟨w.heap.size + 1, 1, none⟩ (.slice va3 A.val.length vc3)).setCell ⟨w.heap.size + 1, 2, none⟩ (.slice ra3 A.rel.length rc3)) := Agree.set3 (B := w.heap.size + 2) wr (b := w.heap.size + 1) (by omega) (.int .i64 A.worlds) (.slice va3 A.val.length vc3) (.slice ra3 A.rel.length rc3)
        have hsz : wr.heap.size ≤ (((wr.setCell ⟨w.heap.size + 1, 0, none⟩ (.int .i64 A.worlds)).setCell ⟨w.heap.size + 1, 1, none⟩ (.slice va3 A.val.length vc3)).setCell ⟨w.heap.size + 1, 2, none⟩ (.slice ra3 A.rel.length rc3)).heap.size := by simp
        generalize (((wr.setCell ⟨w.heap.size + 1, 0, none⟩ (.int .i64 A.worlds)).setCell ⟨w.heap.size + 1, 1, none⟩ (.slice va3 A.val.length vc3)).setCell ⟨w.heap.size + 1, 2, none⟩ (.slice ra3 A.rel.length rc3)) = W2 at *
        rw [← HRR.out]
        refine bodyPost_ret (v := .tuple #[.agg #[.int .i64 A.worlds, .slice va3 A.val.length vc3, .slice ra3 A.rel.length rc3], .slice wa ws.length wc, .int .i64 k, .int .i64 0]) ?_ rfl ?_
        · rw [results_cell_three rfl]
          go_simp
        · exact RetQ.now HN.out hag hsz (by omega) hEx
      · have hz3 : (holdsOf A f != allW ws.length) = true := by simpa using hz2
        obtain ⟨e1, e2, e3⟩ := up_res hu
        have hres := r13Restrict_any A va3 ra3 vc3 rc3 (holdsOf A f) wr hN.rm
        rw [e1, e2, e3, hu] at hres
        obtain ⟨N2, ok2, hok2, -, -, hlt2, hle2, hrq⟩ := up_ok hu
        have hN2 : N2 = ws.length := by
          have h1 := ok2.worlds
          have h2 := hok.worlds
          omega
        have hne : (upL A f).length ≠ ws.length := fun e => hz2 ((up_all hok hu).1 e)
        obtain ⟨j2, rfl, hgo⟩ := repR_go hok hjf hz hz2 (n := k) (ws := ws)
        rw [hgo] at hR
        have hRR := hR
        have HN := Lib.hid hN
        clear hgo e1 e2 e3
        have hth := r25through_any ws (upL A f) wa
        have h64 := Nat.le_trans hle2 ok2.most
        have HOK4 := Lib.hid (show MoOk (upM A f) (thr ws (upL A f)).length by rw [thr_len]; exact hok2)
        have hnl := natI_len (upL A f)
        have hnl2 : (natI (thr ws (upL A f))).length = (thr ws (upL A f)).length := natI_len _
        rw [hN2] at hlt2
        have HRQ2 := Lib.hid ((hrq f).trans hq)
        have hk2 : k + 1 + (thr ws (upL A f)).length ≤ 64 := by rw [thr_len]; omega
        have hms : (thr ws (upL A f)).length < ws.length := by rw [thr_len]; omega
        have HJ := Lib.hid (show (thr ws (upL A f)).length ≤ j2 by rw [thr_len]; omega)
        have hk1 : k < 64 := by omega
        clear hN hok hR hu hok2 ok2 hz hz2 hq hrq
        go_wp2_with (go_at_call 43; refine (HAL.out _).mono ?_; rintro _ _ ⟨rfl, rfl⟩)
        refine hres.mono ?_
        rintro _ w2 ⟨va4, ra4, la4, vc4, rc4, lc4, svs4, rfl, hm4, hu4, hE4⟩
        rw [hnl]
        dsimp only
        have hE5 := HX3.out.trans hE4
        have hN5 := HN.out.ext hE4
        obtain ⟨n0, n1, n2, -⟩ := hN5.out
        have hbl := hN5.out.lt
        have hth := hth la4 wc lc4
        have HHO : Hid (∀ w va ra vc rc, RM w va ra (upM A f) → RN w fa f → Calls Tryz.prog 34 #[.agg #[.int .i64 (upM A f).worlds, .slice va (upM A f).val.length vc, .slice ra (upM A f).rel.length rc], .slice fa f.length fc] w fun e w' => RetP (.int .u64 (un (holdsOf (upM A f) f))) 0 e w w') := Lib.hid fun w va ra vc rc h h2 => by
          have := r17Holds_any (upM A f) va ra vc rc fa fc f w h h2
          rw [HRQ2.out] at this; exact this
        generalize upM A f = A2 at *
        generalize upL A f = l2 at *
        generalize thr ws l2 = ws2 at *
        have hnx := OutAt.new w2 (.int .i64 A2.worlds) (.slice va4 A2.val.length vc4) (.slice ra4 A2.rel.length rc4) 25
        have hE6 : Ext w2 (w2.alloc (.cells #[.int .i64 A2.worlds, .slice va4 A2.val.length vc4, .slice ra4 A2.rel.length rc4] 25)) := (Ext.refl _).alloc _
        go_wp2_with fail
        generalize w2.alloc (.cells #[.int .i64 A2.worlds, .slice va4 A2.val.length vc4, .slice ra4 A2.rel.length rc4] 25) = w3 at *
        have HN6 := Lib.hid (hN5.ext hE6.drew)
        have HU6 := Lib.hid (hu4 w3.drew (Agree.ofExt hE6.drew))
        obtain ⟨x0, x1, x2, -⟩ := hnx
        have HNX := Lib.hid hE6.drew
        clear n0 n1 n2 g0 g1 g2 hN5
        go_region_law (refine step_go (by rfl) ?_; go_simp; refine (hth _ HN6.out.ri HU6.out hlt2 h64).mono ?_; rintro _ w4 ⟨ta, tc, rfl, hu5, hE7⟩; rw [hnl2]; obtain ⟨p0, p1, p2, pfz⟩ := (HN6.out.ext hE7).out; have pf0 := pfz 0; have pf1 := pfz 1; have pf2 := pfz 2; have y0 := hE7.cell x0; have y1 := hE7.cell x1; have y2 := hE7.cell x2; have HU5 := Lib.hid hu5; have HE7 := Lib.hid hE7; clear pfz hu5; dsimp only)
        all_goals
          have hNN := HN.out.next (by have := HB0.out; have := HX3.out.size; omega) hE4 hm4 HNX.out HE7.out HU5.out
          have hXX := (hE5.trans (HNX.out.trans HE7.out)).set3 HB.out (.int .i64 A2.worlds) (.slice va4 A2.val.length vc4) (.slice ra4 A2.rel.length rc4)
          obtain ⟨z0, z1, z2, -⟩ := hNN.out
          go_wp2_with fail
          generalize ((w4.setCell ⟨w1.heap.size, 0, none⟩ (.int .i64 A2.worlds)).setCell ⟨w1.heap.size, 1, none⟩ (.slice va4 A2.val.length vc4)).setCell ⟨w1.heap.size, 2, none⟩ (.slice ra4 A2.rel.length rc4) = w5 at *
          refine (HHO.out _ _ _ _ _ hNN.rm (HF.out.ext hXX)).mono ?_
          rintro _ w6 ⟨rfl, hE8⟩
          dsimp only
          have HNN := Lib.hid (hNN.ext hE8)
          have HXX := Lib.hid (hXX.trans hE8)
          clear hNN hXX p0 p1 p2 pf0 pf1 pf2 y0 y1 y2 x0 x1 x2
          go_wp2
          go_roundw
          case rel => exact ⟨k + 1, by go_num, A2, ws2, _, _, _, _, _, tc, rfl, rfl, HNN.out, HOK4.out, HRQ2.out, ⟨j2, HJ.out, hRR⟩, hk2, HXX.out⟩
          case measure => simp only [lenOf]; omega
end Wt

/- Walk: wittingref13.Same, of two models that read alike. -/
namespace Wt
open Go Go.RowKit Go.Maps Go.Proofs Fm

set_option maxRecDepth 20000 in
set_option maxHeartbeats 2000000 in
theorem sameM_any (M : Mo) (va ra vb rb : Option Addr) (vc rc vd rd : Nat) (w : World) (hm : RM w va ra M) (hn : RM w vb rb M) :
    Calls Tryz.prog 12 #[.agg #[.int .i64 M.worlds, .slice va M.val.length vc, .slice ra M.rel.length rc], .agg #[.int .i64 M.worlds, .slice vb M.val.length vd, .slice rb M.rel.length rd]] w fun e w' => e = .returned (.bool true) ∧ Ext w w' := by
  have hE0 : Ext w ((w.alloc (.cells #[.int .i64 M.worlds, .slice va M.val.length vc, .slice ra M.rel.length rc] 25)).alloc (.cells #[.int .i64 M.worlds, .slice vb M.val.length vd, .slice rb M.rel.length rd] 25)) := ((Ext.refl w).alloc _).alloc _
  have hb1 := (MoBox.new w M.worlds M.val M.rel va vc ra rc 25).ext ((Ext.refl _).alloc (.cells #[.int .i64 M.worlds, .slice vb M.val.length vd, .slice rb M.rel.length rd] 25))
  have hb2 := MoBox.new (w.alloc (.cells #[.int .i64 M.worlds, .slice va M.val.length vc, .slice ra M.rel.length rc] 25)) M.worlds M.val M.rel vb vd rb rd 25
  rw [show (w.alloc (.cells #[.int .i64 M.worlds, .slice va M.val.length vc, .slice ra M.rel.length rc] 25)).heap.size = w.heap.size + 1 by simp] at hb2
  have hm0 := hm.ext hE0
  have hn0 := hn.ext hE0
  have HE := Lib.hid hE0
  have hww : (M.worlds != M.worlds) = false := by simp
  have hrl := hm.rel.len
  clear hm hn hE0
  go_enter Tryz.func12, Tryz.ntmps12
  go_wp2_with fail
  generalize (w.alloc (.cells #[.int .i64 M.worlds, .slice va M.val.length vc, .slice ra M.rel.length rc] 25)).alloc (.cells #[.int .i64 M.worlds, .slice vb M.val.length vd, .slice rb M.rel.length rd] 25) = W0 at *
  obtain ⟨m0, m1, m2⟩ := hb1
  obtain ⟨n0, n1, n2⟩ := hb2
  dsimp only at m0 m1 m2 n0 n1 n2
  refine (r13Same_any va vb vc vd M.val M.val _ hm0.val hn0.val).mono ?_
  rintro _ w1 ⟨rfl, hQ⟩
  rw [decide_eq_true (rfl : M.val = M.val)]
  dsimp only
  have hX1 := hQ.ext
  have p0 := hX1.cell m0
  have p1 := hX1.cell m1
  have p2 := hX1.cell m2
  have q0 := hX1.cell n0
  have q1 := hX1.cell n1
  have q2 := hX1.cell n2
  have hm1 := Lib.hid (hm0.ext hX1)
  have hn1 := Lib.hid (hn0.ext hX1)
  have HX1 := Lib.hid hX1
  clear m0 m1 m2 n0 n1 n2 hQ hX1 hm0 hn0
  go_wp2_with fail
  go_loopw [5] (fun i wr => ∃ k : Nat, k ≤ M.rel.length ∧ i = .int .i64 (k : Int) ∧ Ext w1 wr) (fun i _ => M.rel.length - (intOf i).toNat)
  case atStart => exact ⟨0, Nat.zero_le _, rfl, Ext.refl _⟩
  case round =>
    obtain ⟨k, hk, rfl, hE⟩ := hrel
    have m0 := hE.cell p0
    have m1 := hE.cell p1
    have m2 := hE.cell p2
    have n0 := hE.cell q0
    have n1 := hE.cell q1
    have n2 := hE.cell q2
    by_cases hlt : k < M.rel.length
    · obtain ⟨b1, o1, a1, c1, rfl, hb1, hc1, hu1⟩ := (hm1.out.rel.ext hE).get hlt
      obtain ⟨b2, o2, a2, c2, rfl, hb2, hc2, hu2⟩ := (hn1.out.rel.ext hE).get hlt
      have hul := hu1.len
      have HD : Hid (∀ w', Ext wr w' → Calls Tryz.prog 39 #[.slice a1 (nth M.rel k).length c1, .slice a2 (nth M.rel k).length c2] w' fun e w'' => e = .returned (.bool true) ∧ Qu w' w'') := Lib.hid fun w' e => by
        have := r13Same_any a1 a2 c1 c2 (nth M.rel k) (nth M.rel k) w' (hu1.ext e) (hu2.ext e)
        rw [decide_eq_true (rfl : nth M.rel k = nth M.rel k)] at this
        exact this
      have HEr := Lib.hid hE
      clear hu1 hu2 hE p0 p1 p2 q0 q1 q2
      go_wp2_with fail
      go_quiet ((go_at_call 39; exact Calls.quiet_of (HD.out _ ((Ext.refl _).drewN _))))
      go_wp2
      go_roundw
      case rel => exact ⟨k + 1, hlt, by go_num, HEr.out.drewN _⟩
      case measure => simp [intOf]; omega
    · have HEr := Lib.hid hE
      clear hE p0 p1 p2 q0 q1 q2
      go_wp2
      go_ret
      exact ⟨rfl, HE.out.trans (HX1.out.trans HEr.out)⟩
end Wt
