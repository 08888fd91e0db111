/- Walk: announce.Sequence. -/
import Derived.Test.YticoljmflljghaaDoorMUpd
import Derived.Test.YticoljmflljghaaDoorMCkC
namespace Wt
open Go Go.RowKit Go.Maps Go.Proofs Fm

/-- The rounds of Sequence. -/
def SeqI (W0 : World) (n b : Nat) (R : Mo × List Nat × Nat × Int) (l : List (List Nd)) (k : Nat) (v : Value) (wr : World) : Prop :=
  ∃ A ws va ra wa vc rc wc, v = .slice wa ws.length wc ∧ NowAt (n + 2) b A ws va ra wa vc rc wr ∧ MoOk A ws.length ∧ seqR A ws (l.drop k) k = R ∧ Ext W0 wr
set_option maxRecDepth 20000 in
set_option maxHeartbeats 4000000 in
theorem sequence_any (M : Mo) (va ra : Option Addr) (vc rc : Nat) (oa : Option Addr) (oc : Nat) (l : List (List Nd)) (w : World) (hm : RM w va ra M) (hl : RNN w oa l) (hT : Tab w) :
    Calls Tryd.prog 18 #[.agg #[.int .i64 M.worlds, .slice va M.val.length vc, .slice ra M.rel.length rc], .slice oa l.length oc] w fun e w' => RetQ (seqOf M l) e w w' := by
  have hbx := MoBox.new w M.worlds M.val M.rel va vc ra rc 25
  have hE0 : Ext w ((w.alloc (.cells #[.int .i64 M.worlds, .slice va M.val.length vc, .slice ra M.rel.length rc] 25)).alloc (.cells #[.int .i64 0, .slice none 0 0, .slice none 0 0] 25)) := ((Ext.refl w).alloc _).alloc _
  have hbx0 := hbx.ext ((Ext.refl _).alloc (.cells #[.int .i64 0, .slice none 0 0, .slice none 0 0] 25))
  have hm0 := hm.ext hE0
  have hT0 := hT.ext hE0
  have HT := Lib.hid hT0
  have HL := Lib.hid (hl.ext hE0)
  have hll := hl.len
  obtain ⟨m0, m1, m2⟩ := hbx0
  dsimp only at m0 m1 m2
  have HE := Lib.hid hE0
  have HR := Lib.hid (OutAt.new1 w (.cells #[.int .i64 M.worlds, .slice va M.val.length vc, .slice ra M.rel.length rc] 25) (.int .i64 0) (.slice none 0 0) (.slice none 0 0) 25)
  have hs0 : ((w.alloc (.cells #[.int .i64 M.worlds, .slice va M.val.length vc, .slice ra M.rel.length rc] 25)).alloc (.cells #[.int .i64 0, .slice none 0 0, .slice none 0 0] 25)).heap.size = w.heap.size + 2 := by simp
  have HS0 := Lib.hid hs0
  clear hm hbx hE0 hT hl hs0
  by_cases hM : moCheck M = 0
  rotate_left
  · have hq : (moCheck M != 0) = true := by simpa using hM
    have hn : seqOf M l = (⟨0, [], []⟩, [], 0, moCheck M) := if_pos hM
    have HN := Lib.hid hn
    clear hn hM
    go_enter Tryd.func18, Tryd.ntmps18
    go_wp2_with fail
    generalize (w.alloc (.cells #[.int .i64 M.worlds, .slice va M.val.length vc, .slice ra M.rel.length rc] 25)).alloc (.cells #[.int .i64 0, .slice none 0 0, .slice none 0 0] 25) = W0 at *
    refine (everything_any M va ra vc rc _ hm0 hT0).mono ?_
    rintro _ w1 ⟨va2, ra2, la, vc2, rc2, lc, svs, rfl, hm3, hu3, hE1⟩
    dsimp only
    obtain ⟨r0, r1, r2, rfz⟩ := HR.out.ext hE1
    have f0 := rfz 0
    have f1 := rfz 1
    have f2 := rfz 2
    have HO := Lib.hid (HR.out.ext hE1)
    have hsz := HO.out.lt
    clear rfz
    go_wp2_with fail
    rw [HN.out]
    have hEx : Ext w ((((w1.setCell ⟨w.heap.size + 1, 0, none⟩ (.int .i64 0)).setCell ⟨w.heap.size + 1, 1, none⟩ (.slice none 0 0)).setCell ⟨w.heap.size + 1, 2, none⟩ (.slice none 0 0)).alloc (.cells #[.int .i64 (evM M).worlds, .slice va2 (evM M).val.length vc2, .slice ra2 (evM M).rel.length rc2] 25)) := ((HE.out.trans hE1).set3 (by simp) _ _ _).alloc _
    obtain ⟨d0, d1, d2, -⟩ := HO.out.ext3 (.int .i64 0) (.slice none 0 0) (.slice none 0 0) (.cells #[.int .i64 (evM M).worlds, .slice va2 (evM M).val.length vc2, .slice ra2 (evM M).rel.length rc2] 25)
    generalize ((((w1.setCell ⟨w.heap.size + 1, 0, none⟩ (.int .i64 0)).setCell ⟨w.heap.size + 1, 1, none⟩ (.slice none 0 0)).setCell ⟨w.heap.size + 1, 2, none⟩ (.slice none 0 0)).alloc (.cells #[.int .i64 (evM M).worlds, .slice va2 (evM M).val.length vc2, .slice ra2 (evM M).rel.length rc2] 25)) = W2 at *
    refine bodyPost_ret (v := .tuple #[.agg #[.int .i64 0, .slice none 0 0, .slice none 0 0], .slice none 0 0, .int .i64 0, .int .i64 (moCheck M)]) ?_ rfl ?_
    · rw [results_cell_three rfl]
      go_simp
    · exact RetQ.zero _ _ hEx
  · have hq : (moCheck M != 0) = false := by simp [hM]
    obtain ⟨N, ok⟩ := moCheck_ok hM
    have hNt : M.worlds.toNat = N := by rw [ok.worlds]; exact Int.toNat_natCast N
    have hR : seqR M (List.range N) (l.drop 0) 0 = seqOf M l := by unfold seqOf; rw [if_neg (by simp [hM]), hNt]; rfl
    have hev := everything_any M va ra vc rc _ hm0 hT0
    rw [show evM M = M from if_pos hM, show evL M = List.range N by unfold evL; rw [if_pos hM, hNt], hM] at hev
    have HEV := Lib.hid hev
    have HOK := Lib.hid ok
    have HRR := Lib.hid hR
    have hlr : (natI (List.range N)).length = N := by rw [natI_len]; simp
    generalize seqOf M l = R at *
    clear hev ok hR hM
    go_enter Tryd.func18, Tryd.ntmps18
    go_wp2_with fail
    generalize (w.alloc (.cells #[.int .i64 M.worlds, .slice va M.val.length vc, .slice ra M.rel.length rc] 25)).alloc (.cells #[.int .i64 0, .slice none 0 0, .slice none 0 0] 25) = W0 at *
    refine HEV.out.mono ?_
    rintro _ w1 ⟨va2, ra2, la, vc2, rc2, lc, svs, rfl, hm3, hu3, hE1⟩
    dsimp only
    rw [hlr]
    have hnow := NowAt.new (ws := List.range N) (B := w.heap.size + 2) hm3 hu3 (by rw [HS0.out]; omega) hE1.size 25
    have HB := Lib.hid hE1.size
    have HB0 : Hid (w.heap.size + 2 ≤ W0.heap.size) := Lib.hid (by rw [HS0.out]; exact Nat.le_refl _)
    have hXX : Ext W0 (w1.alloc (.cells #[.int .i64 M.worlds, .slice va2 M.val.length vc2, .slice ra2 M.rel.length rc2] 25)) := hE1.alloc _
    obtain ⟨n0, n1, n2, nfz⟩ := hnow.out
    have HNOW := Lib.hid hnow
    have HX := Lib.hid hXX
    clear hnow hm3 hu3 nfz hXX
    go_wp2_with fail
    clear n0 n1 n2
    go_loopw [9, 28] (fun v i wr => ∃ k : Nat, k ≤ l.length ∧ i = .int .i64 (k : Int) ∧ SeqI W0 w.heap.size w1.heap.size R l k v wr) (fun _ i _ => l.length - (intOf i).toNat)
    case atStart => exact ⟨0, Nat.zero_le _, rfl, _, List.range N, _, _, _, _, _, lc, by simp, HNOW.out, by simpa using HOK.out, HRR.out, HX.out⟩
    case round =>
      obtain ⟨k, hk, rfl, A, ws, va3, ra3, wa, vc3, rc3, wc, rfl, hN, hok, hR, hX⟩ := hrel
      obtain ⟨n0, n1, n2, nfz⟩ := hN.out
      have g0 := nfz 0
      have g1 := nfz 1
      have g2 := nfz 2
      have HN := Lib.hid hN
      have HX3 := Lib.hid hX
      have HOK3 := Lib.hid hok
      clear nfz
      by_cases hkl : k < l.length
      · obtain ⟨bl, ol, fa, fc, rfl, hbl, hcl, hf⟩ := (HL.out.ext hX).get k hkl
        have hfl := hf.len
        rw [drop_nth hkl] at hR
        have hupd := update_any A va3 ra3 vc3 rc3 fa fc (nth l k) wr hN.rm hf (HT.out.ext hX)
        generalize nth l k = f at *
        by_cases hu : upErr A f = 0
        · have hq1 : (upErr A f != 0) = false := by simp [hu]
          rw [seqR_ok hu] at hR
          obtain ⟨N2, ok2, hok2, -, -, hlt2, hle2, -⟩ := up_ok hu
          have hN2 : N2 = ws.length := by
            have h1 := ok2.worlds
            have h2 := hok.worlds
            omega
          have hth := through_any ws (upL A f) wa
          have h64 := Nat.le_trans hle2 ok2.most
          rw [hu] at hupd
          have HOK4 := Lib.hid (show MoOk (upM A f) (thr ws (upL A f)).length by rw [thr_len]; exact hok2)
          have HRR := Lib.hid hR
          have hnl := natI_len (upL A f)
          have hnl2 : (natI (thr ws (upL A f))).length = (thr ws (upL A f)).length := natI_len _
          rw [hN2] at hlt2
          clear hN hok hR hu hok2 ok2
          go_wp2_with fail
          refine hupd.mono ?_
          rintro _ w2 ⟨va4, ra4, la4, vc4, rc4, lc4, svs4, rfl, hm4, hu4, hE4⟩
          rw [hnl]
          dsimp only
          have hE5 := HX3.out.trans hE4
          have hN5 := HN.out.ext hE4
          have hth := hth la4 wc lc4
          generalize upM A f = A2 at *
          generalize upL A f = l2 at *
          generalize thr ws l2 = ws2 at *
          have hnx := OutAt.new w2 (.int .i64 A2.worlds) (.slice va4 A2.val.length vc4) (.slice ra4 A2.rel.length rc4) 25
          have hE6 : Ext w2 (w2.alloc (.cells #[.int .i64 A2.worlds, .slice va4 A2.val.length vc4, .slice ra4 A2.rel.length rc4] 25)) := (Ext.refl _).alloc _
          go_wp2_with fail
          generalize w2.alloc (.cells #[.int .i64 A2.worlds, .slice va4 A2.val.length vc4, .slice ra4 A2.rel.length rc4] 25) = w3 at *
          have HN6 := Lib.hid (hN5.ext hE6.drew)
          have HU6 := Lib.hid (hu4 w3.drew (Agree.ofExt hE6.drew))
          obtain ⟨x0, x1, x2, -⟩ := hnx
          have HNX := Lib.hid hE6.drew
          clear n0 n1 n2 g0 g1 g2 hN5
          go_region_law (refine step_go (by rfl) ?_; go_simp; refine (hth _ HN6.out.ri HU6.out hlt2 h64).mono ?_; rintro _ w4 ⟨ta, tc, rfl, hu5, hE7⟩; rw [hnl2]; obtain ⟨p0, p1, p2, pfz⟩ := (HN6.out.ext hE7).out; have pf0 := pfz 0; have pf1 := pfz 1; have pf2 := pfz 2; have y0 := hE7.cell x0; have y1 := hE7.cell x1; have y2 := hE7.cell x2; have HU5 := Lib.hid hu5; have HE7 := Lib.hid hE7; clear pfz hu5; dsimp only)
          all_goals
            go_wp2
            go_roundw
            case rel => exact ⟨k + 1, hkl, by go_num, A2, ws2, _, _, _, _, _, tc, rfl, HN.out.next (by have := HB0.out; have := HX3.out.size; omega) hE4 hm4 HNX.out HE7.out HU5.out, HOK4.out, HRR.out, (hE5.trans (HNX.out.trans HE7.out)).set3 HB.out _ _ _⟩
            case measure => simp [intOf]; omega
        · have hq1 : (upErr A f != 0) = true := by simpa using hu
          rw [seqR_bad hu] at hR
          have HRR := Lib.hid hR
          clear hN hok hR hu
          go_wp2_with fail
          refine hupd.mono ?_
          rintro _ w2 ⟨va4, ra4, la4, vc4, rc4, lc4, svs4, rfl, hm4, hu4, hE4⟩
          dsimp only
          have hE5 := HX3.out.trans hE4
          obtain ⟨r0, r1, r2, rfz⟩ := HR.out.ext hE5
          have f0 := rfz 0
          have f1 := rfz 1
          have f2 := rfz 2
          have HO := Lib.hid (HR.out.ext hE5)
          have hsz := HO.out.lt
          clear rfz
          go_wp2_with fail
          rw [← HRR.out]
          have hEx : Ext w ((((w2.setCell ⟨w.heap.size + 1, 0, none⟩ (.int .i64 0)).setCell ⟨w.heap.size + 1, 1, none⟩ (.slice none 0 0)).setCell ⟨w.heap.size + 1, 2, none⟩ (.slice none 0 0)).alloc (.cells #[.int .i64 (upM A f).worlds, .slice va4 (upM A f).val.length vc4, .slice ra4 (upM A f).rel.length rc4] 25)) := ((HE.out.trans hE5).set3 (by simp) _ _ _).alloc _
          obtain ⟨d0, d1, d2, -⟩ := HO.out.ext3 (.int .i64 0) (.slice none 0 0) (.slice none 0 0) (.cells #[.int .i64 (upM A f).worlds, .slice va4 (upM A f).val.length vc4, .slice ra4 (upM A f).rel.length rc4] 25)
          generalize ((((w2.setCell ⟨w.heap.size + 1, 0, none⟩ (.int .i64 0)).setCell ⟨w.heap.size + 1, 1, none⟩ (.slice none 0 0)).setCell ⟨w.heap.size + 1, 2, none⟩ (.slice none 0 0)).alloc (.cells #[.int .i64 (upM A f).worlds, .slice va4 (upM A f).val.length vc4, .slice ra4 (upM A f).rel.length rc4] 25)) = W2 at *
          refine bodyPost_ret (v := .tuple #[.agg #[.int .i64 0, .slice none 0 0, .slice none 0 0], .slice none 0 0, .int .i64 k, .int .i64 (upErr A f)]) ?_ rfl ?_
          · rw [results_cell_three rfl]
            go_simp
          · exact RetQ.zero _ _ hEx
      · obtain rfl : k = l.length := by omega
        rw [List.drop_length, seqR_nil] at hR
        have HRR := Lib.hid hR
        obtain ⟨r0, r1, r2, rfz⟩ := HR.out.ext hX
        have f0 := rfz 0
        have f1 := rfz 1
        have f2 := rfz 2
        have HO := Lib.hid (HR.out.ext hX)
        clear rfz hN hok hR
        go_wp2_with fail
        have hEx : Ext w (((wr.setCell ⟨w.heap.size + 1, 0, none⟩ (.int .i64 A.worlds)).setCell ⟨w.heap.size + 1, 1, none⟩ (.slice va3 A.val.length vc3)).setCell ⟨w.heap.size + 1, 2, none⟩ (.slice ra3 A.rel.length rc3)) := (HE.out.trans hX).set3 (by simp) _ _ _
        obtain ⟨d0, d1, d2, -⟩ := ((HO.out.set0 (.int .i64 A.worlds)).set1 (.slice va3 A.val.length vc3)).set2 (.slice ra3 A.rel.length rc3)
        have hag := Agree.set3 (B := w.heap.size + 2) wr (b := w.heap.size + 1) (by omega) (.int .i64 A.worlds) (.slice va3 A.val.length vc3) (.slice ra3 A.rel.length rc3)
        have hsz : wr.heap.size ≤ (((wr.setCell ⟨w.heap.size + 1, 0, none⟩ (.int .i64 A.worlds)).setCell ⟨w.heap.size + 1, 1, none⟩ (.slice va3 A.val.length vc3)).setCell ⟨w.heap.size + 1, 2, none⟩ (.slice ra3 A.rel.length rc3)).heap.size := by simp
        generalize ((wr.setCell ⟨w.heap.size + 1, 0, none⟩ (.int .i64 A.worlds)).setCell ⟨w.heap.size + 1, 1, none⟩ (.slice va3 A.val.length vc3)).setCell ⟨w.heap.size + 1, 2, none⟩ (.slice ra3 A.rel.length rc3) = W2 at *
        rw [← HRR.out]
        refine bodyPost_ret (v := .tuple #[.agg #[.int .i64 A.worlds, .slice va3 A.val.length vc3, .slice ra3 A.rel.length rc3], .slice wa ws.length wc, .int .i64 l.length, .int .i64 0]) ?_ rfl ?_
        · rw [results_cell_three rfl]
          go_simp
        · exact RetQ.now HN.out hag hsz (by omega) hEx
end Wt

/- Walk: announce.Repeat. -/
namespace Wt
open Go Go.RowKit Go.Maps Go.Proofs Fm

/-- What Repeat comes to. -/
def repQ (M : Mo) (f : List Nd) : Mo × List Nat × Nat × Int := if reqErr M f ≠ 0 then (⟨0, [], []⟩, [], 0, reqErr M f) else ((repR f M.worlds.toNat M (List.range M.worlds.toNat) 0).1, (repR f M.worlds.toNat M (List.range M.worlds.toNat) 0).2.1, (repR f M.worlds.toNat M (List.range M.worlds.toNat) 0).2.2, 0)
theorem repR_stop {f : List Nd} {k n N : Nat} {A : Mo} {ws : List Nat} (ok : MoOk A N) (hk : N ≤ k) (h : holdsOf A f = 0#64 ∨ holdsOf A f = allW N) : repR f k A ws n = (A, ws, n) := by
  have h1 := ok.one
  obtain ⟨k, rfl⟩ : ∃ j, k = j + 1 := ⟨k - 1, by omega⟩
  unfold repR
  rw [show A.worlds.toNat = N by rw [ok.worlds]; exact Int.toNat_natCast N, if_pos h]
theorem repR_go {f : List Nd} {k n N : Nat} {A : Mo} {ws : List Nat} (ok : MoOk A N) (hk : N ≤ k) (h : holdsOf A f ≠ 0#64) (h2 : holdsOf A f ≠ allW N) : ∃ j, k = j + 1 ∧ repR f k A ws n = repR f j (upM A f) (thr ws (upL A f)) (n + 1) := by
  have h1 := ok.one
  obtain ⟨k, rfl⟩ : ∃ j, k = j + 1 := ⟨k - 1, by omega⟩
  refine ⟨k, rfl, ?_⟩
  conv => lhs; unfold repR
  rw [show A.worlds.toNat = N by rw [ok.worlds]; exact Int.toNat_natCast N, if_neg (by simp [h, h2])]
def lenOf (v : Value) : Nat := match v with | .slice _ n _ => n | _ => 0
/-- The rounds of Repeat. -/
def RepI (W0 : World) (n b : Nat) (R : Mo × List Nat × Nat) (f : List Nd) (k : Nat) (v : Value) (wr : World) : Prop :=
  ∃ A ws va ra wa vc rc wc, v = .slice wa ws.length wc ∧ NowAt (n + 2) b A ws va ra wa vc rc wr ∧ MoOk A ws.length ∧ reqErr A f = 0 ∧ (∃ j, ws.length ≤ j ∧ repR f j A ws k = R) ∧ k + ws.length ≤ 64 ∧ Ext W0 wr
set_option maxRecDepth 20000 in
set_option maxHeartbeats 4000000 in
theorem repeat_any (M : Mo) (va ra : Option Addr) (vc rc : Nat) (fa : Option Addr) (fc : Nat) (f : List Nd) (w : World) (hm : RM w va ra M) (hf : RN w fa f) (hT : Tab w) :
    Calls Tryd.prog 22 #[.agg #[.int .i64 M.worlds, .slice va M.val.length vc, .slice ra M.rel.length rc], .slice fa f.length fc] w fun e w' => RetQ (repQ M f) e w w' := by
  have hbx := MoBox.new w M.worlds M.val M.rel va vc ra rc 25
  have hE0 : Ext w ((w.alloc (.cells #[.int .i64 M.worlds, .slice va M.val.length vc, .slice ra M.rel.length rc] 25)).alloc (.cells #[.int .i64 0, .slice none 0 0, .slice none 0 0] 25)) := ((Ext.refl w).alloc _).alloc _
  have hbx0 := hbx.ext ((Ext.refl _).alloc (.cells #[.int .i64 0, .slice none 0 0, .slice none 0 0] 25))
  have hm0 := hm.ext hE0
  have hT0 := hT.ext hE0
  have HT := Lib.hid hT0
  have HF := Lib.hid (hf.ext hE0)
  have HHO := Lib.hid (holds_any M va ra vc rc fa fc f _ hm0 (hf.ext hE0))
  obtain ⟨m0, m1, m2⟩ := hbx0
  dsimp only at m0 m1 m2
  have HE := Lib.hid hE0
  have HR := Lib.hid (OutAt.new1 w (.cells #[.int .i64 M.worlds, .slice va M.val.length vc, .slice ra M.rel.length rc] 25) (.int .i64 0) (.slice none 0 0) (.slice none 0 0) 25)
  have hs0 : ((w.alloc (.cells #[.int .i64 M.worlds, .slice va M.val.length vc, .slice ra M.rel.length rc] 25)).alloc (.cells #[.int .i64 0, .slice none 0 0, .slice none 0 0] 25)).heap.size = w.heap.size + 2 := by simp
  have HS0 := Lib.hid hs0
  clear hm hbx hE0 hT hf hs0
  by_cases hM : reqErr M f = 0
  rotate_left
  · have hq : (reqErr M f != 0) = true := by simpa using hM
    have hn : repQ M f = (⟨0, [], []⟩, [], 0, reqErr M f) := if_pos hM
    have HN := Lib.hid hn
    clear hn hM
    go_enter Tryd.func22, Tryd.ntmps22
    go_wp2_with fail
    generalize (w.alloc (.cells #[.int .i64 M.worlds, .slice va M.val.length vc, .slice ra M.rel.length rc] 25)).alloc (.cells #[.int .i64 0, .slice none 0 0, .slice none 0 0] 25) = W0 at *
    refine HHO.out.mono ?_
    rintro _ w1 ⟨rfl, hE1⟩
    dsimp only
    obtain ⟨r0, r1, r2, rfz⟩ := HR.out.ext hE1
    have f0 := rfz 0
    have f1 := rfz 1
    have f2 := rfz 2
    have HO := Lib.hid (HR.out.ext hE1)
    have hsz := HO.out.lt
    clear rfz
    go_wp2_with fail
    rw [HN.out]
    have hEx : Ext w (((w1.setCell ⟨w.heap.size + 1, 0, none⟩ (.int .i64 0)).setCell ⟨w.heap.size + 1, 1, none⟩ (.slice none 0 0)).setCell ⟨w.heap.size + 1, 2, none⟩ (.slice none 0 0)) := (HE.out.trans hE1).set3 (by simp) _ _ _
    obtain ⟨d0, d1, d2, -⟩ := ((HO.out.set0 (.int .i64 0)).set1 (.slice none 0 0)).set2 (.slice none 0 0)
    generalize (((w1.setCell ⟨w.heap.size + 1, 0, none⟩ (.int .i64 0)).setCell ⟨w.heap.size + 1, 1, none⟩ (.slice none 0 0)).setCell ⟨w.heap.size + 1, 2, none⟩ (.slice none 0 0)) = W2 at *
    refine bodyPost_ret (v := .tuple #[.agg #[.int .i64 0, .slice none 0 0, .slice none 0 0], .slice none 0 0, .int .i64 0, .int .i64 (reqErr M f)]) ?_ rfl ?_
    · rw [results_cell_three rfl]
      go_simp
    · exact RetQ.zero _ _ hEx
  · have hq : (reqErr M f != 0) = false := by simp [hM]
    have hM0 := (reqErr_ok hM).1
    obtain ⟨N, ok⟩ := moCheck_ok hM0
    have hNt : M.worlds.toNat = N := by rw [ok.worlds]; exact Int.toNat_natCast N
    have hR : repQ M f = ((repR f N M (List.range N) 0).1, (repR f N M (List.range N) 0).2.1, (repR f N M (List.range N) 0).2.2, 0) := by unfold repQ; rw [if_neg (by simp [hM]), hNt]
    have HEV : Hid (∀ w, RM w va ra M → Tab w → Calls Tryd.prog 44 #[.agg #[.int .i64 M.worlds, .slice va M.val.length vc, .slice ra M.rel.length rc]] w fun e w' => RetRO M (natI (List.range N)) 0 e w w') := Lib.hid fun w h h2 => by
      have hev := everything_any M va ra vc rc w h h2
      rw [show evM M = M from if_pos hM0, show evL M = List.range N by unfold evL; rw [if_pos hM0, hNt], hM0] at hev
      exact hev
    have HM := Lib.hid hm0
    have HOK := Lib.hid ok
    have HRQ := Lib.hid hM
    have hlr : (natI (List.range N)).length = N := by rw [natI_len]; simp
    rw [hR]
    obtain ⟨R, hRg⟩ : ∃ R, repR f N M (List.range N) 0 = R := ⟨_, rfl⟩
    rw [hRg]
    have HRR := Lib.hid hRg
    clear ok hR hM hM0 hm0 hT0 hRg hNt
    go_enter Tryd.func22, Tryd.ntmps22
    go_wp2_with fail
    generalize (w.alloc (.cells #[.int .i64 M.worlds, .slice va M.val.length vc, .slice ra M.rel.length rc] 25)).alloc (.cells #[.int .i64 0, .slice none 0 0, .slice none 0 0] 25) = W0 at *
    refine HHO.out.mono ?_
    rintro _ wa1 ⟨rfl, hEa⟩
    rw [HRQ.out]
    dsimp only
    have q0 := hEa.cell m0
    have q1 := hEa.cell m1
    have q2 := hEa.cell m2
    go_wp2_with fail
    refine (HEV.out _ (HM.out.ext hEa) (HT.out.ext hEa)).mono ?_
    rintro _ w1 ⟨va2, ra2, la, vc2, rc2, lc, svs, rfl, hm3, hu3, hEb⟩
    dsimp only
    rw [hlr]
    have hE1 : Ext W0 w1 := hEa.trans hEb
    have hnow := NowAt.newC (ws := List.range N) (B := w.heap.size + 2) (wa := la) hm3 hu3 (by have := hEa.size; rw [HS0.out] at this; exact this) hEb.size 25
    have HB := Lib.hid hE1.size
    have HB0 : Hid (w.heap.size + 2 ≤ W0.heap.size) := Lib.hid (by rw [HS0.out]; exact Nat.le_refl _)
    have hXX : Ext W0 (w1.alloc (.cells #[.int .i64 M.worlds, .slice va2 M.val.length vc2, .slice ra2 M.rel.length rc2] 25)) := hE1.alloc _
    obtain ⟨n0, n1, n2, nfz⟩ := hnow.out
    have HNOW := Lib.hid hnow
    have HX := Lib.hid hXX
    clear hnow hm3 hu3 nfz hXX q0 q1 q2
    go_wp2_with fail
    clear n0 n1 n2
    go_loopw [11, 13] (fun v i wr => ∃ k : Nat, i = .int .i64 (k : Int) ∧ RepI W0 w.heap.size w1.heap.size R f k v wr) (fun v _ _ => lenOf v)
    case atStart => exact ⟨0, rfl, _, List.range N, _, _, _, _, _, lc, by simp, HNOW.out, by simpa using HOK.out, HRQ.out, ⟨N, by simp, HRR.out⟩, by simpa using HOK.out.most, HX.out⟩
    case round =>
      obtain ⟨k, rfl, A, ws, va3, ra3, wa, vc3, rc3, wc, rfl, hN, hok, hq, ⟨jf, hjf, hR⟩, hk64, hX⟩ := hrel
      obtain ⟨n0, n1, n2, nfz⟩ := hN.out
      have g0 := nfz 0
      have g1 := nfz 1
      have g2 := nfz 2
      have HX3 := Lib.hid hX
      have hf3 := HF.out.ext hX
      have hupd := update_any A va3 ra3 vc3 rc3 fa fc f wr hN.rm hf3 (HT.out.ext hX)
      clear nfz
      by_cases hz : holdsOf A f = 0#64
      · have hu : upErr A f = 11 := by unfold upErr; rw [if_neg (by simp [hq]), if_pos hz]
        rw [repR_stop hok hjf (.inl hz)] at hR
        have HRR := Lib.hid hR
        rw [hu] at hupd
        clear hu g0 g1 g2
        have HN := Lib.hid hN
        clear hN hok hq hR hz
        go_wp2_with fail
        refine (hupd).mono ?_
        rintro _ w2 ⟨va4, ra4, la4, vc4, rc4, lc4, svs4, rfl, hm4, hu4, hE4⟩
        dsimp only
        have hE5 := HX3.out.trans hE4
        have hN5 := HN.out.ext hE4
        obtain ⟨n0, n1, n2, -⟩ := hN5.out
        have hbl := hN5.out.lt
        obtain ⟨r0, r1, r2, rfz⟩ := HR.out.ext hE5
        have f0 := rfz 0
        have f1 := rfz 1
        have f2 := rfz 2
        have HO := Lib.hid (HR.out.ext hE5)
        have hrl := HO.out.lt
        clear rfz
        go_wp2_with fail
        have hEx : Ext w ((((w2.setCell ⟨w.heap.size + 1, 0, none⟩ (.int .i64 A.worlds)).setCell ⟨w.heap.size + 1, 1, none⟩ (.slice va3 A.val.length vc3)).setCell ⟨w.heap.size + 1, 2, none⟩ (.slice ra3 A.rel.length rc3)).alloc (.cells #[.int .i64 (upM A f).worlds, .slice va4 (upM A f).val.length vc4, .slice ra4 (upM A f).rel.length rc4] 25)) := ((HE.out.trans hE5).set3 (by simp) _ _ _).alloc _
        obtain ⟨d0, d1, d2, -⟩ := HO.out.ext3 (.int .i64 A.worlds) (.slice va3 A.val.length vc3) (.slice ra3 A.rel.length rc3) (.cells #[.int .i64 (upM A f).worlds, .slice va4 (upM A f).val.length vc4, .slice ra4 (upM A f).rel.length rc4] 25)
        have hag : Agree (w.heap.size + 2) w2 ((((w2.setCell ⟨w.heap.size + 1, 0, none⟩ (.int .i64 A.worlds)).setCell ⟨w.heap.size + 1, 1, none⟩ (.slice va3 A.val.length vc3)).setCell ⟨w.heap.size + 1, 2, none⟩ (.slice ra3 A.rel.length rc3)).alloc (.cells #[.int .i64 (upM A f).worlds, .slice va4 (upM A f).val.length vc4, .slice ra4 (upM A f).rel.length rc4] 25)) := (Agree.set3 (B := w.heap.size + 2) w2 (b := w.heap.size + 1) (by omega) (.int .i64 A.worlds) (.slice va3 A.val.length vc3) (.slice ra3 A.rel.length rc3)).trans (Agree.ofExt ((Ext.refl _).alloc _)) (by simp)
        have hsz : w2.heap.size ≤ ((((w2.setCell ⟨w.heap.size + 1, 0, none⟩ (.int .i64 A.worlds)).setCell ⟨w.heap.size + 1, 1, none⟩ (.slice va3 A.val.length vc3)).setCell ⟨w.heap.size + 1, 2, none⟩ (.slice ra3 A.rel.length rc3)).alloc (.cells #[.int .i64 (upM A f).worlds, .slice va4 (upM A f).val.length vc4, .slice ra4 (upM A f).rel.length rc4] 25)).heap.size := by simp
        generalize ((((w2.setCell ⟨w.heap.size + 1, 0, none⟩ (.int .i64 A.worlds)).setCell ⟨w.heap.size + 1, 1, none⟩ (.slice va3 A.val.length vc3)).setCell ⟨w.heap.size + 1, 2, none⟩ (.slice ra3 A.rel.length rc3)).alloc (.cells #[.int .i64 (upM A f).worlds, .slice va4 (upM A f).val.length vc4, .slice ra4 (upM A f).rel.length rc4] 25)) = W2 at *
        rw [← HRR.out]
        refine bodyPost_ret (v := .tuple #[.agg #[.int .i64 A.worlds, .slice va3 A.val.length vc3, .slice ra3 A.rel.length rc3], .slice wa ws.length wc, .int .i64 k, .int .i64 0]) ?_ rfl ?_
        · rw [results_cell_three rfl]
          go_simp
        · exact RetQ.now hN5 hag hsz (by omega) hEx
      have hu := upErr_mk hq hz
      rw [hu] at hupd
      by_cases hz2 : holdsOf A f = allW ws.length
      · have hA2 : ((upM A f).worlds == A.worlds) = true := by
          obtain ⟨N2, ok2, hok2, -⟩ := up_ok hu
          have h3 := (up_all hok hu).2 hz2
          rw [hok2.worlds, hok.worlds, h3]; simp
        rw [repR_stop hok hjf (.inr hz2)] at hR
        have HRR := Lib.hid hR
        clear hu g0 g1 g2 hz2
        have HN := Lib.hid hN
        clear hN hok hq hR hz
        go_wp2_with fail
        refine (hupd).mono ?_
        rintro _ w2 ⟨va4, ra4, la4, vc4, rc4, lc4, svs4, rfl, hm4, hu4, hE4⟩
        dsimp only
        have hE5 := HX3.out.trans hE4
        have hN5 := HN.out.ext hE4
        obtain ⟨n0, n1, n2, -⟩ := hN5.out
        have hbl := hN5.out.lt
        obtain ⟨r0, r1, r2, rfz⟩ := HR.out.ext hE5
        have f0 := rfz 0
        have f1 := rfz 1
        have f2 := rfz 2
        have HO := Lib.hid (HR.out.ext hE5)
        have hrl := HO.out.lt
        clear rfz
        go_wp2_with fail
        have hEx : Ext w ((((w2.setCell ⟨w.heap.size + 1, 0, none⟩ (.int .i64 A.worlds)).setCell ⟨w.heap.size + 1, 1, none⟩ (.slice va3 A.val.length vc3)).setCell ⟨w.heap.size + 1, 2, none⟩ (.slice ra3 A.rel.length rc3)).alloc (.cells #[.int .i64 (upM A f).worlds, .slice va4 (upM A f).val.length vc4, .slice ra4 (upM A f).rel.length rc4] 25)) := ((HE.out.trans hE5).set3 (by simp) _ _ _).alloc _
        obtain ⟨d0, d1, d2, -⟩ := HO.out.ext3 (.int .i64 A.worlds) (.slice va3 A.val.length vc3) (.slice ra3 A.rel.length rc3) (.cells #[.int .i64 (upM A f).worlds, .slice va4 (upM A f).val.length vc4, .slice ra4 (upM A f).rel.length rc4] 25)
        have hag : Agree (w.heap.size + 2) w2 ((((w2.setCell ⟨w.heap.size + 1, 0, none⟩ (.int .i64 A.worlds)).setCell ⟨w.heap.size + 1, 1, none⟩ (.slice va3 A.val.length vc3)).setCell ⟨w.heap.size + 1, 2, none⟩ (.slice ra3 A.rel.length rc3)).alloc (.cells #[.int .i64 (upM A f).worlds, .slice va4 (upM A f).val.length vc4, .slice ra4 (upM A f).rel.length rc4] 25)) := (Agree.set3 (B := w.heap.size + 2) w2 (b := w.heap.size + 1) (by omega) (.int .i64 A.worlds) (.slice va3 A.val.length vc3) (.slice ra3 A.rel.length rc3)).trans (Agree.ofExt ((Ext.refl _).alloc _)) (by simp)
        have hsz : w2.heap.size ≤ ((((w2.setCell ⟨w.heap.size + 1, 0, none⟩ (.int .i64 A.worlds)).setCell ⟨w.heap.size + 1, 1, none⟩ (.slice va3 A.val.length vc3)).setCell ⟨w.heap.size + 1, 2, none⟩ (.slice ra3 A.rel.length rc3)).alloc (.cells #[.int .i64 (upM A f).worlds, .slice va4 (upM A f).val.length vc4, .slice ra4 (upM A f).rel.length rc4] 25)).heap.size := by simp
        generalize ((((w2.setCell ⟨w.heap.size + 1, 0, none⟩ (.int .i64 A.worlds)).setCell ⟨w.heap.size + 1, 1, none⟩ (.slice va3 A.val.length vc3)).setCell ⟨w.heap.size + 1, 2, none⟩ (.slice ra3 A.rel.length rc3)).alloc (.cells #[.int .i64 (upM A f).worlds, .slice va4 (upM A f).val.length vc4, .slice ra4 (upM A f).rel.length rc4] 25)) = W2 at *
        rw [← HRR.out]
        refine bodyPost_ret (v := .tuple #[.agg #[.int .i64 A.worlds, .slice va3 A.val.length vc3, .slice ra3 A.rel.length rc3], .slice wa ws.length wc, .int .i64 k, .int .i64 0]) ?_ rfl ?_
        · rw [results_cell_three rfl]
          go_simp
        · exact RetQ.now hN5 hag hsz (by omega) hEx
      · obtain ⟨N2, ok2, hok2, -, -, hlt2, hle2, hrq⟩ := up_ok hu
        have hN2 : N2 = ws.length := by
          have h1 := ok2.worlds
          have h2 := hok.worlds
          omega
        have hne : (upL A f).length ≠ ws.length := fun e => hz2 ((up_all hok hu).1 e)
        obtain ⟨j2, rfl, hgo⟩ := repR_go hok hjf hz hz2 (n := k) (ws := ws)
        rw [hgo] at hR
        have hRR := hR
        have HN := Lib.hid hN
        clear hgo
        have hth := through_any ws (upL A f) wa
        have h64 := Nat.le_trans hle2 ok2.most
        have HOK4 := Lib.hid (show MoOk (upM A f) (thr ws (upL A f)).length by rw [thr_len]; exact hok2)
        have hnl := natI_len (upL A f)
        have hnl2 : (natI (thr ws (upL A f))).length = (thr ws (upL A f)).length := natI_len _
        rw [hN2] at hlt2
        have HRQ2 := Lib.hid ((hrq f).trans hq)
        have hA2 : ((upM A f).worlds == A.worlds) = false := by rw [hok2.worlds, hok.worlds]; simp; omega
        have hk2 : k + 1 + (thr ws (upL A f)).length ≤ 64 := by rw [thr_len]; omega
        have hms : (thr ws (upL A f)).length < ws.length := by rw [thr_len]; omega
        have HJ := Lib.hid (show (thr ws (upL A f)).length ≤ j2 by rw [thr_len]; omega)
        clear hN hok hR hu hok2 ok2 hz hz2 hq hrq
        go_wp2_with fail
        refine hupd.mono ?_
        rintro _ w2 ⟨va4, ra4, la4, vc4, rc4, lc4, svs4, rfl, hm4, hu4, hE4⟩
        rw [hnl]
        dsimp only
        have hE5 := HX3.out.trans hE4
        have hN5 := HN.out.ext hE4
        obtain ⟨n0, n1, n2, -⟩ := hN5.out
        have hbl := hN5.out.lt
        have hth := hth la4 wc lc4
        generalize upM A f = A2 at *
        generalize upL A f = l2 at *
        generalize thr ws l2 = ws2 at *
        have hnx := OutAt.new w2 (.int .i64 A2.worlds) (.slice va4 A2.val.length vc4) (.slice ra4 A2.rel.length rc4) 25
        have hE6 : Ext w2 (w2.alloc (.cells #[.int .i64 A2.worlds, .slice va4 A2.val.length vc4, .slice ra4 A2.rel.length rc4] 25)) := (Ext.refl _).alloc _
        go_wp2_with fail
        generalize w2.alloc (.cells #[.int .i64 A2.worlds, .slice va4 A2.val.length vc4, .slice ra4 A2.rel.length rc4] 25) = w3 at *
        have HN6 := Lib.hid (hN5.ext hE6.drew)
        have HU6 := Lib.hid (hu4 w3.drew (Agree.ofExt hE6.drew))
        obtain ⟨x0, x1, x2, -⟩ := hnx
        have HNX := Lib.hid hE6.drew
        clear n0 n1 n2 g0 g1 g2 hN5
        go_region_law (refine step_go (by rfl) ?_; go_simp; refine (hth _ HN6.out.ri HU6.out hlt2 h64).mono ?_; rintro _ w4 ⟨ta, tc, rfl, hu5, hE7⟩; rw [hnl2]; obtain ⟨p0, p1, p2, pfz⟩ := (HN6.out.ext hE7).out; have pf0 := pfz 0; have pf1 := pfz 1; have pf2 := pfz 2; have y0 := hE7.cell x0; have y1 := hE7.cell x1; have y2 := hE7.cell x2; have HU5 := Lib.hid hu5; have HE7 := Lib.hid hE7; clear pfz hu5; dsimp only)
        all_goals
          go_wp2
          go_roundw
          case rel => exact ⟨k + 1, by go_num, A2, ws2, _, _, _, _, _, tc, rfl, HN.out.next (by have := HB0.out; have := HX3.out.size; omega) hE4 hm4 HNX.out HE7.out HU5.out, HOK4.out, HRQ2.out, ⟨j2, HJ.out, hRR⟩, hk2, (hE5.trans (HNX.out.trans HE7.out)).set3 HB.out _ _ _⟩
          case measure => simp only [lenOf]; omega
end Wt

/- Walk: announce.Whether. -/
namespace Wt
open Go Go.RowKit Go.Maps Go.Proofs Fm

/-- A model and an error. -/
def RetW (A : Mo) (c : Int) (e : Ending) (w w' : World) : Prop := ∃ va ra vc rc, e = .returned (.tuple #[.agg #[.int .i64 A.worlds, .slice va A.val.length vc, .slice ra A.rel.length rc], .int .i64 c]) ∧ (∀ w'', Agree w.heap.size w' w'' → RM w'' va ra A) ∧ Ext w w'
theorem results_cell_v {fn : Func} {p u : Tmp} {ty : TypeId} (h : fn.results = #[.cell p ty, .tmp u]) (tmps : Array Value) (P : Program) (w : World) :
    (results fn tmps).run P w = ((asAddr (tmps.getD p undef)).run P w).andThen fun a w₁ => ((loadVar ty a).run P w₁).andThen fun y w₂ => .ok (.tuple #[y, tmps.getD u undef]) w₂ := by
  simp only [results, h]
  simp [Sem.run_bind, Result.andThen]
theorem RetW.zero {w w' : World} (c : Int) (h : Ext w w') : RetW ⟨0, [], []⟩ c (.returned (.tuple #[.agg #[.int .i64 0, .slice none 0 0, .slice none 0 0], .int .i64 c])) w w' :=
  ⟨none, none, 0, 0, rfl, fun _ _ => ⟨RU.nil _ _, RR.nil _ _⟩, h⟩
set_option maxRecDepth 20000 in
set_option maxHeartbeats 4000000 in
theorem whether_any (M : Mo) (va ra : Option Addr) (vc rc : Nat) (fa : Option Addr) (fc : Nat) (f : List Nd) (w : World) (hm : RM w va ra M) (hf : RN w fa f) (hT : Tab w) :
    Calls Tryd.prog 24 #[.agg #[.int .i64 M.worlds, .slice va M.val.length vc, .slice ra M.rel.length rc], .slice fa f.length fc] w fun e w' => RetW (whM M f) (reqErr M f) e w w' := by
  have hbx := MoBox.new w M.worlds M.val M.rel va vc ra rc 25
  have hE0 : Ext w ((w.alloc (.cells #[.int .i64 M.worlds, .slice va M.val.length vc, .slice ra M.rel.length rc] 25)).alloc (.cells #[.int .i64 0, .slice none 0 0, .slice none 0 0] 25)) := ((Ext.refl w).alloc _).alloc _
  have hbx0 := hbx.ext ((Ext.refl _).alloc (.cells #[.int .i64 0, .slice none 0 0, .slice none 0 0] 25))
  have hm0 := hm.ext hE0
  have hT0 := hT.ext hE0
  have HT := Lib.hid hT0
  have HF := Lib.hid (hf.ext hE0)
  have HHO := Lib.hid (holds_any M va ra vc rc fa fc f _ hm0 (hf.ext hE0))
  obtain ⟨m0, m1, m2⟩ := hbx0
  dsimp only at m0 m1 m2
  have HE := Lib.hid hE0
  have HR := Lib.hid (OutAt.new1 w (.cells #[.int .i64 M.worlds, .slice va M.val.length vc, .slice ra M.rel.length rc] 25) (.int .i64 0) (.slice none 0 0) (.slice none 0 0) 25)
  have hs0 : ((w.alloc (.cells #[.int .i64 M.worlds, .slice va M.val.length vc, .slice ra M.rel.length rc] 25)).alloc (.cells #[.int .i64 0, .slice none 0 0, .slice none 0 0] 25)).heap.size = w.heap.size + 2 := by simp
  have HS0 := Lib.hid hs0
  clear hm hbx hE0 hT hf hs0
  by_cases hM : reqErr M f = 0
  rotate_left
  · have hq : (reqErr M f != 0) = true := by simpa using hM
    have hn : whM M f = ⟨0, [], []⟩ := if_pos hM
    have HN := Lib.hid hn
    clear hn hM
    go_enter Tryd.func24, Tryd.ntmps24
    go_wp2_with fail
    generalize (w.alloc (.cells #[.int .i64 M.worlds, .slice va M.val.length vc, .slice ra M.rel.length rc] 25)).alloc (.cells #[.int .i64 0, .slice none 0 0, .slice none 0 0] 25) = W0 at *
    refine HHO.out.mono ?_
    rintro _ w1 ⟨rfl, hE1⟩
    dsimp only
    obtain ⟨r0, r1, r2, rfz⟩ := HR.out.ext hE1
    have f0 := rfz 0
    have f1 := rfz 1
    have f2 := rfz 2
    have HO := Lib.hid (HR.out.ext hE1)
    have hsz := HO.out.lt
    clear rfz
    go_wp2_with fail
    rw [HN.out]
    have hEx : Ext w (((w1.setCell ⟨w.heap.size + 1, 0, none⟩ (.int .i64 0)).setCell ⟨w.heap.size + 1, 1, none⟩ (.slice none 0 0)).setCell ⟨w.heap.size + 1, 2, none⟩ (.slice none 0 0)) := (HE.out.trans hE1).set3 (by simp) _ _ _
    obtain ⟨d0, d1, d2, -⟩ := ((HO.out.set0 (.int .i64 0)).set1 (.slice none 0 0)).set2 (.slice none 0 0)
    generalize (((w1.setCell ⟨w.heap.size + 1, 0, none⟩ (.int .i64 0)).setCell ⟨w.heap.size + 1, 1, none⟩ (.slice none 0 0)).setCell ⟨w.heap.size + 1, 2, none⟩ (.slice none 0 0)) = W2 at *
    refine bodyPost_ret (v := .tuple #[.agg #[.int .i64 0, .slice none 0 0, .slice none 0 0], .int .i64 (reqErr M f)]) ?_ rfl ?_
    · rw [results_cell_v rfl]
      go_simp
    · exact RetW.zero _ hEx
  · have hq : (reqErr M f != 0) = false := by simp [hM]
    have hM0 := (reqErr_ok hM).1
    obtain ⟨N, ok⟩ := moCheck_ok hM0
    have hNt : M.worlds.toNat = N := by rw [ok.worlds]; exact Int.toNat_natCast N
    have hR : whM M f = ⟨M.worlds, M.val, M.rel.map (whRow (holdsOf M f))⟩ := if_neg (by simp [hM])
    have HEV : Hid (∀ w, RM w va ra M → Tab w → Calls Tryd.prog 44 #[.agg #[.int .i64 M.worlds, .slice va M.val.length vc, .slice ra M.rel.length rc]] w fun e w' => RetRO M (natI (List.range N)) 0 e w w') := Lib.hid fun w h h2 => by
      have hev := everything_any M va ra vc rc w h h2
      rw [show evM M = M from if_pos hM0, show evL M = List.range N by unfold evL; rw [if_pos hM0, hNt], hM0] at hev
      exact hev
    have HM := Lib.hid hm0
    have HOK := Lib.hid ok
    have HRQ := Lib.hid hM
    have hlr : (natI (List.range N)).length = N := by rw [natI_len]; simp
    rw [hR]
    have hoks := ok.row
    have hN1 := ok.one
    have hr4 := ok.rel
    have hN64 := ok.most
    have hRq := hM
    have HOKW := Lib.hid ok.worlds
    rw [hRq]
    generalize holdsOf M f = S at *
    clear ok hR hM hM0 hm0 hT0 hRq hNt
    go_enter Tryd.func24, Tryd.ntmps24
    go_wp2_with fail
    generalize (w.alloc (.cells #[.int .i64 M.worlds, .slice va M.val.length vc, .slice ra M.rel.length rc] 25)).alloc (.cells #[.int .i64 0, .slice none 0 0, .slice none 0 0] 25) = W0 at *
    refine HHO.out.mono ?_
    rintro _ wa1 ⟨rfl, hEa⟩
    rw [HRQ.out]
    dsimp only
    have q0 := hEa.cell m0
    have q1 := hEa.cell m1
    have q2 := hEa.cell m2
    go_wp2_with fail
    refine (HEV.out _ (HM.out.ext hEa) (HT.out.ext hEa)).mono ?_
    rintro _ w1 ⟨va2, ra2, la, vc2, rc2, lc, svs, rfl, hm3, hu3, hEb⟩
    dsimp only
    rw [hlr]
    have hE1 : Ext W0 w1 := hEa.trans hEb
    have hBB : w.heap.size + 2 ≤ wa1.heap.size := by have := hEa.size; rw [HS0.out] at this; exact this
    have hlt1 : ∀ q g, q < M.rel.length → (nth svs q).ownBlock = some g → g < w1.heap.size := fun q g hq hg => ((hm3.rw q hq).lt g hg).2
    have hXX : Ext W0 (w1.alloc (.cells #[.int .i64 M.worlds, .slice va2 M.val.length vc2, .slice ra2 M.rel.length rc2] 25)) := hE1.alloc _
    have hwi := WhI.zero (s := S) (W0 := W0) (B := w.heap.size + 2) (bo := w1.heap.size) ((hm3.mono hBB).agree (Agree.ofExt ((Ext.refl _).alloc (.cells #[.int .i64 M.worlds, .slice va2 M.val.length vc2, .slice ra2 M.rel.length rc2] 25)))) (OutAt.new w1 _ _ _ 25) (Below.mono hXX (by rw [HS0.out]; exact Nat.le_refl _)) hXX.size
    have HWI := Lib.hid hwi
    have HLT := Lib.hid hlt1
    have HB1 := Lib.hid hE1.size
    clear hm3 hu3 hwi hlt1 hXX q0 q1 q2 hE1 hEb hEa
    go_wp2_with fail
    go_loopw [33] (fun i wr => ∃ a : Nat, a ≤ M.rel.length ∧ i = .int .i64 (a : Int) ∧ WhI W0 (w.heap.size + 2) w1.heap.size M.worlds M.val M.rel S va2 ra2 vc2 rc2 svs a 0 wr) (fun i _ => M.rel.length - (intOf i).toNat)
    case atStart => exact ⟨0, Nat.zero_le _, rfl, HWI.out⟩
    case round =>
      obtain ⟨a, ha, rfl, hI⟩ := hrel
      have HI := Lib.hid hI
      by_cases hal : a < M.rel.length
      · have hrow : (nth M.rel a).length = N := hoks _ (nth_mem hal)
        obtain ⟨b, rfl, hb, hc⟩ := hI.row hal
        obtain ⟨g, gc, hsv, hg, -, -, -⟩ := hI.step hal (by omega) HLT.out
        rw [hsv, hrow] at hc
        have HSV := Lib.hid hsv
        clear hI hsv
        go_wp2_with fail
        go_loopw [39] (fun i wz => ∃ j : Nat, j ≤ N ∧ i = .int .i64 (j : Int) ∧ WhI W0 (w.heap.size + 2) w1.heap.size M.worlds M.val M.rel S va2 (some ⟨b, 0, none⟩) vc2 rc2 svs a j wz) (fun i _ => N - (intOf i).toNat)
        case atStart => exact ⟨0, Nat.zero_le _, rfl, HI.out⟩
        case round =>
          rename World => wz
          obtain ⟨j, hj, rfl, hJ⟩ := hrel
          have HJ := Lib.hid hJ
          by_cases hjl : j < N
          · obtain ⟨g2, gc2, hsv2, hg2, hf2, hc2, hnext⟩ := hJ.step hal (by omega) HLT.out
            rw [HSV.out] at hsv2
            simp only [Value.slice.injEq, Option.some.injEq, Addr.mk.injEq] at hsv2
            obtain ⟨⟨rfl, -, -⟩, -, -⟩ := hsv2
            unfold whE at hnext
            cases hbt : bt S j
            · rw [hbt, if_neg (by simp)] at hnext
              have HNE := Lib.hid hnext
              clear hnext hJ
              go_wp2
              go_roundw
              case rel => exact ⟨j + 1, hjl, by go_num, HNE.out⟩
              case measure => simp [intOf]; omega
            · rw [hbt, if_pos rfl] at hnext
              have HNE := Lib.hid hnext
              clear hnext hJ
              go_wp2
              go_roundw
              case rel => exact ⟨j + 1, hjl, by go_num, HNE.out⟩
              case measure => simp [intOf]; omega
          · obtain rfl : N = j := by omega
            have HNX := Lib.hid (WhI.next (a := a) (by rw [hrow]; exact hJ))
            clear hJ
            go_wp2
            go_roundw
            case rel => exact ⟨a + 1, hal, by go_num, HNX.out⟩
            case measure => simp [intOf]; omega
      · obtain rfl : a = M.rel.length := by omega
        have hfr := hI.fr
        rw [whR_full] at hfr
        have HFR := Lib.hid hfr
        obtain ⟨o0, o1, o2, -⟩ := hI.out
        have hol := hI.out.lt
        have hres : OutAt wr (w.heap.size + 1) (.int .i64 0) (.slice none 0 0) (.slice none 0 0) := HR.out.keep (hI.old.block _ (by omega))
        have HO := Lib.hid hres
        obtain ⟨r0, r1, r2, rfz⟩ := hres
        have f0 := rfz 0
        have f1 := rfz 1
        have f2 := rfz 2
        have hrl := HO.out.lt
        have hEw : Ext w wr := Below.trans HE.out (Below.mono hI.old (by omega))
        have HEW := Lib.hid hEw
        clear hI rfz hfr hEw
        go_wp2_with fail
        have hEx : Ext w (((wr.setCell ⟨w.heap.size + 1, 0, none⟩ (.int .i64 M.worlds)).setCell ⟨w.heap.size + 1, 1, none⟩ (.slice va2 M.val.length vc2)).setCell ⟨w.heap.size + 1, 2, none⟩ (.slice ra2 M.rel.length rc2)) := HEW.out.set3 (by simp) _ _ _
        obtain ⟨d0, d1, d2, -⟩ := ((HO.out.set0 (.int .i64 M.worlds)).set1 (.slice va2 M.val.length vc2)).set2 (.slice ra2 M.rel.length rc2)
        have hag : Agree (w.heap.size + 2) wr (((wr.setCell ⟨w.heap.size + 1, 0, none⟩ (.int .i64 M.worlds)).setCell ⟨w.heap.size + 1, 1, none⟩ (.slice va2 M.val.length vc2)).setCell ⟨w.heap.size + 1, 2, none⟩ (.slice ra2 M.rel.length rc2)) := Agree.set3 (B := w.heap.size + 2) wr (b := w.heap.size + 1) (by omega) (.int .i64 M.worlds) (.slice va2 M.val.length vc2) (.slice ra2 M.rel.length rc2)
        generalize (((wr.setCell ⟨w.heap.size + 1, 0, none⟩ (.int .i64 M.worlds)).setCell ⟨w.heap.size + 1, 1, none⟩ (.slice va2 M.val.length vc2)).setCell ⟨w.heap.size + 1, 2, none⟩ (.slice ra2 M.rel.length rc2)) = W2 at *
        refine bodyPost_ret (v := .tuple #[.agg #[.int .i64 M.worlds, .slice va2 M.val.length vc2, .slice ra2 M.rel.length rc2], .int .i64 0]) ?_ rfl ?_
        · rw [results_cell_v rfl]
          go_simp
        · exact ⟨va2, ra2, vc2, rc2, by simp, fun w'' hw => ((HFR.out.agree hag).agree (hw.mono (by omega))).rm, hEx⟩
end Wt
