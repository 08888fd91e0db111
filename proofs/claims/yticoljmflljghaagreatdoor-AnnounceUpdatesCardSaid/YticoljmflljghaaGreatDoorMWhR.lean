/- Walk: wittingref25.Whether. -/
import Derived.Test.YticoljmflljghaaGreatDoorMSeq
import Derived.Test.YticoljmflljghaaGreatDoorMRdC
import Derived.Test.YticoljmflljghaaGreatDoorMRef
namespace Wt
open Go Go.RowKit Go.Maps Go.Proofs Fm

set_option maxRecDepth 20000 in
set_option maxHeartbeats 4000000 in
theorem r25Whether_any (M : Mo) (va ra : Option Addr) (vc rc : Nat) (fa : Option Addr) (fc : Nat) (f : List Nd) (w : World) (hm : RM w va ra M) (hf : RN w fa f) :
    Calls Tryz.prog 11 #[.agg #[.int .i64 M.worlds, .slice va M.val.length vc, .slice ra M.rel.length rc], .slice fa f.length fc] w fun e w' => RetW (whM M f) (reqErr M f) e w w' := by
  have hbx := MoBox.new w M.worlds M.val M.rel va vc ra rc 25
  have hE0 : Ext w ((w.alloc (.cells #[.int .i64 M.worlds, .slice va M.val.length vc, .slice ra M.rel.length rc] 25)).alloc (.cells #[.int .i64 0, .slice none 0 0, .slice none 0 0] 25)) := ((Ext.refl w).alloc _).alloc _
  have hbx0 := hbx.ext ((Ext.refl _).alloc (.cells #[.int .i64 0, .slice none 0 0, .slice none 0 0] 25))
  have hm0 := hm.ext hE0
  have HF := Lib.hid (hf.ext hE0)
  have HHO := Lib.hid (r17Holds_any M va ra vc rc fa fc f _ hm0 (hf.ext hE0))
  obtain ⟨m0, m1, m2⟩ := hbx0
  dsimp only at m0 m1 m2
  have HE := Lib.hid hE0
  have HR := Lib.hid (OutAt.new1 w (.cells #[.int .i64 M.worlds, .slice va M.val.length vc, .slice ra M.rel.length rc] 25) (.int .i64 0) (.slice none 0 0) (.slice none 0 0) 25)
  have hs0 : ((w.alloc (.cells #[.int .i64 M.worlds, .slice va M.val.length vc, .slice ra M.rel.length rc] 25)).alloc (.cells #[.int .i64 0, .slice none 0 0, .slice none 0 0] 25)).heap.size = w.heap.size + 2 := by simp
  have HS0 := Lib.hid hs0
  clear hm hbx hE0 hf hs0
  by_cases hM : reqErr M f = 0
  rotate_left
  · have hq : (reqErr M f != 0) = true := by simpa using hM
    have hn : whM M f = ⟨0, [], []⟩ := if_pos hM
    have HN := Lib.hid hn
    clear hn hM
    go_enter Tryz.func11, Tryz.ntmps11
    go_wp2_with fail
    generalize (w.alloc (.cells #[.int .i64 M.worlds, .slice va M.val.length vc, .slice ra M.rel.length rc] 25)).alloc (.cells #[.int .i64 0, .slice none 0 0, .slice none 0 0] 25) = W0 at *
    refine HHO.out.mono ?_
    rintro _ w1 ⟨rfl, hE1⟩
    dsimp only
    obtain ⟨r0, r1, r2, rfz⟩ := HR.out.ext hE1
    have f0 := rfz 0
    have f1 := rfz 1
    have f2 := rfz 2
    have HO := Lib.hid (HR.out.ext hE1)
    have hsz := HO.out.lt
    clear rfz
    go_wp2_with fail
    rw [HN.out]
    have hEx : Ext w (((w1.setCell ⟨w.heap.size + 1, 0, none⟩ (.int .i64 0)).setCell ⟨w.heap.size + 1, 1, none⟩ (.slice none 0 0)).setCell ⟨w.heap.size + 1, 2, none⟩ (.slice none 0 0)) := (HE.out.trans hE1).set3 (by simp) _ _ _
    obtain ⟨d0, d1, d2, -⟩ := ((HO.out.set0 (.int .i64 0)).set1 (.slice none 0 0)).set2 (.slice none 0 0)
    generalize (((w1.setCell ⟨w.heap.size + 1, 0, none⟩ (.int .i64 0)).setCell ⟨w.heap.size + 1, 1, none⟩ (.slice none 0 0)).setCell ⟨w.heap.size + 1, 2, none⟩ (.slice none 0 0)) = W2 at *
    refine bodyPost_ret (v := .tuple #[.agg #[.int .i64 0, .slice none 0 0, .slice none 0 0], .int .i64 (reqErr M f)]) ?_ rfl ?_
    · rw [results_cell_v rfl]
      go_simp
    · exact RetW.zero _ hEx
  · have hq : (reqErr M f != 0) = false := by simp [hM]
    have hM0 := (reqErr_ok hM).1
    obtain ⟨N, ok⟩ := moCheck_ok hM0
    have hNt : M.worlds.toNat = N := by rw [ok.worlds]; exact Int.toNat_natCast N
    have hR : whM M f = ⟨M.worlds, M.val, M.rel.map (whRow (holdsOf M f))⟩ := if_neg (by simp [hM])
    have HM := Lib.hid hm0
    have HOK := Lib.hid ok
    have HRQ := Lib.hid hM
    have hlr : (natI (List.range N)).length = N := by rw [natI_len]; simp
    rw [hR]
    have hoks := ok.row
    have hN1 := ok.one
    have hr4 := ok.rel
    have hN64 := ok.most
    have hRq := hM
    have HOKW := Lib.hid ok.worlds
    rw [hRq]
    generalize holdsOf M f = S at *
    clear ok hR hM hM0 hm0 hRq hNt
    go_enter Tryz.func11, Tryz.ntmps11
    go_wp2_with fail
    generalize (w.alloc (.cells #[.int .i64 M.worlds, .slice va M.val.length vc, .slice ra M.rel.length rc] 25)).alloc (.cells #[.int .i64 0, .slice none 0 0, .slice none 0 0] 25) = W0 at *
    refine HHO.out.mono ?_
    rintro _ wa1 ⟨rfl, hEa⟩
    rw [HRQ.out]
    dsimp only
    have q0 := hEa.cell m0
    have q1 := hEa.cell m1
    have q2 := hEa.cell m2
    go_wp2_with fail
    refine (r13Copy_any M va ra vc rc _ N HOK.out (HM.out.ext hEa)).mono ?_
    rintro _ w1 ⟨va2, ra2, vc2, rc2, svs, rfl, hm3, hEb⟩
    dsimp only
    have hE1 : Ext W0 w1 := hEa.trans hEb
    have hBB : w.heap.size + 2 ≤ wa1.heap.size := by have := hEa.size; rw [HS0.out] at this; exact this
    have hlt1 : ∀ q g, q < M.rel.length → (nth svs q).ownBlock = some g → g < w1.heap.size := fun q g hq hg => ((hm3.rw q hq).lt g hg).2
    have hXX : Ext W0 (w1.alloc (.cells #[.int .i64 M.worlds, .slice va2 M.val.length vc2, .slice ra2 M.rel.length rc2] 25)) := hE1.alloc _
    have hwi := WhI.zero (s := S) (W0 := W0) (B := w.heap.size + 2) (bo := w1.heap.size) ((hm3.mono hBB).agree (Agree.ofExt ((Ext.refl _).alloc (.cells #[.int .i64 M.worlds, .slice va2 M.val.length vc2, .slice ra2 M.rel.length rc2] 25)))) (OutAt.new w1 _ _ _ 25) (Below.mono hXX (by rw [HS0.out]; exact Nat.le_refl _)) hXX.size
    have HWI := Lib.hid hwi
    have HLT := Lib.hid hlt1
    have HB1 := Lib.hid hE1.size
    clear hm3 hwi hlt1 hXX q0 q1 q2 hE1 hEb hEa
    go_wp2_with fail
    go_loopw [9] (fun i wr => ∃ a : Nat, a ≤ M.rel.length ∧ i = .int .i64 (a : Int) ∧ WhI W0 (w.heap.size + 2) w1.heap.size M.worlds M.val M.rel S va2 ra2 vc2 rc2 svs a 0 wr) (fun i _ => M.rel.length - (intOf i).toNat)
    case atStart => exact ⟨0, Nat.zero_le _, rfl, HWI.out⟩
    case round =>
      obtain ⟨a, ha, rfl, hI⟩ := hrel
      have HI := Lib.hid hI
      by_cases hal : a < M.rel.length
      · have hrow : (nth M.rel a).length = N := hoks _ (nth_mem hal)
        obtain ⟨b, rfl, hb, hc⟩ := hI.row hal
        obtain ⟨g, gc, hsv, hg, -, -, -⟩ := hI.step hal (by omega) HLT.out
        rw [hsv, hrow] at hc
        have HSV := Lib.hid hsv
        obtain ⟨o0, o1, o2, -⟩ := hI.out
        have hol := hI.out.lt
        clear hI hsv
        go_wp2_with fail
        clear o0 o1 o2 hol
        go_loopw [10] (fun i wz => ∃ j : Nat, j ≤ N ∧ i = .int .i64 (j : Int) ∧ WhI W0 (w.heap.size + 2) w1.heap.size M.worlds M.val M.rel S va2 (some ⟨b, 0, none⟩) vc2 rc2 svs a j wz) (fun i _ => N - (intOf i).toNat)
        case atStart => exact ⟨0, Nat.zero_le _, rfl, HI.out⟩
        case round =>
          rename World => wz
          obtain ⟨j, hj, rfl, hJ⟩ := hrel
          have HJ := Lib.hid hJ
          obtain ⟨o0, o1, o2, -⟩ := hJ.out
          have hol := hJ.out.lt
          obtain ⟨b3, hb3, hbz, hcz⟩ := hJ.row hal
          simp only [Option.some.injEq, Addr.mk.injEq] at hb3
          obtain ⟨rfl, -, -⟩ := hb3
          rw [HSV.out, hrow] at hcz
          by_cases hjl : j < N
          · have hwn : (j : Int) < M.worlds := by rw [HOKW.out]; omega
            have hwd : decide ((j : Int) < M.worlds) = true := decide_eq_true hwn
            obtain ⟨g2, gc2, hsv2, hg2, hf2, hc2, hnext⟩ := hJ.step hal (by omega) HLT.out
            rw [HSV.out] at hsv2
            simp only [Value.slice.injEq, Option.some.injEq, Addr.mk.injEq] at hsv2
            obtain ⟨⟨rfl, -, -⟩, -, -⟩ := hsv2
            unfold whE at hnext
            cases hbt : bt S j
            all_goals have HBT := Lib.hid hbt
            · rw [hbt, if_neg (by simp)] at hnext
              have HNE := Lib.hid hnext
              clear hnext hJ
              go_wp2_with (go_at_call 38; refine (r13Has_any S (j : Int) _).mono ?_; rintro _ _ ⟨rfl, rfl⟩; rw [hasW_nat, HBT.out])
              refine wp_region_still_tail 17 (by kernel_rfl) (by kernel_rfl) ?_
              simp only [List.take_succ_cons, List.take_zero, List.drop_succ_cons, List.drop_zero]
              repeat still_step
              refine wpStill_nil ?_
              have hf3 : wz.drew.frozen? ⟨g, j, none⟩ = false := hf2
              have hc3 : wz.drew.cell? ⟨g, j, none⟩ = some (.int .u64 (un (nth (nth M.rel a) j))) := hc2
              change wpList _ _ _ _ _ wz.drew
              go_wp2
              go_roundw
              case rel => exact ⟨j + 1, hjl, by go_num, HNE.out.drew⟩
              case measure => simp [intOf]; omega
            · rw [hbt, if_pos rfl] at hnext
              have HNE := Lib.hid hnext
              clear hnext hJ
              go_wp2_with (go_at_call 38; refine (r13Has_any S (j : Int) _).mono ?_; rintro _ _ ⟨rfl, rfl⟩; rw [hasW_nat, HBT.out])
              refine wp_region_still_tail 17 (by kernel_rfl) (by kernel_rfl) ?_
              simp only [List.take_succ_cons, List.take_zero, List.drop_succ_cons, List.drop_zero]
              repeat still_step
              refine wpStill_nil ?_
              have hf3 : wz.drew.frozen? ⟨g, j, none⟩ = false := hf2
              have hc3 : wz.drew.cell? ⟨g, j, none⟩ = some (.int .u64 (un (nth (nth M.rel a) j))) := hc2
              change wpList _ _ _ _ _ wz.drew
              go_wp2
              go_roundw
              case rel => exact ⟨j + 1, hjl, by go_num, HNE.out.drew⟩
              case measure => simp [intOf]; omega
          · obtain rfl : N = j := by omega
            have hwn : ¬ ((N : Int) < M.worlds) := by rw [HOKW.out]; omega
            have hwd : decide ((N : Int) < M.worlds) = false := decide_eq_false hwn
            have HNX := Lib.hid (WhI.next (a := a) (by rw [hrow]; exact hJ))
            clear hJ
            go_wp2
            go_roundw
            case rel => exact ⟨a + 1, hal, by go_num, HNX.out⟩
            case measure => simp [intOf]; omega
      · obtain rfl : a = M.rel.length := by omega
        have hfr := hI.fr
        rw [whR_full] at hfr
        have HFR := Lib.hid hfr
        obtain ⟨o0, o1, o2, -⟩ := hI.out
        have hol := hI.out.lt
        have hres : OutAt wr (w.heap.size + 1) (.int .i64 0) (.slice none 0 0) (.slice none 0 0) := HR.out.keep (hI.old.block _ (by omega))
        have HO := Lib.hid hres
        obtain ⟨r0, r1, r2, rfz⟩ := hres
        have f0 := rfz 0
        have f1 := rfz 1
        have f2 := rfz 2
        have hrl := HO.out.lt
        have hEw : Ext w wr := Below.trans HE.out (Below.mono hI.old (by omega))
        have HEW := Lib.hid hEw
        clear hI rfz hfr hEw
        go_wp2_with fail
        have hEx : Ext w (((wr.setCell ⟨w.heap.size + 1, 0, none⟩ (.int .i64 M.worlds)).setCell ⟨w.heap.size + 1, 1, none⟩ (.slice va2 M.val.length vc2)).setCell ⟨w.heap.size + 1, 2, none⟩ (.slice ra2 M.rel.length rc2)) := HEW.out.set3 (by simp) _ _ _
        obtain ⟨d0, d1, d2, -⟩ := ((HO.out.set0 (.int .i64 M.worlds)).set1 (.slice va2 M.val.length vc2)).set2 (.slice ra2 M.rel.length rc2)
        have hag : Agree (w.heap.size + 2) wr (((wr.setCell ⟨w.heap.size + 1, 0, none⟩ (.int .i64 M.worlds)).setCell ⟨w.heap.size + 1, 1, none⟩ (.slice va2 M.val.length vc2)).setCell ⟨w.heap.size + 1, 2, none⟩ (.slice ra2 M.rel.length rc2)) := Agree.set3 (B := w.heap.size + 2) wr (b := w.heap.size + 1) (by omega) (.int .i64 M.worlds) (.slice va2 M.val.length vc2) (.slice ra2 M.rel.length rc2)
        generalize (((wr.setCell ⟨w.heap.size + 1, 0, none⟩ (.int .i64 M.worlds)).setCell ⟨w.heap.size + 1, 1, none⟩ (.slice va2 M.val.length vc2)).setCell ⟨w.heap.size + 1, 2, none⟩ (.slice ra2 M.rel.length rc2)) = W2 at *
        refine bodyPost_ret (v := .tuple #[.agg #[.int .i64 M.worlds, .slice va2 M.val.length vc2, .slice ra2 M.rel.length rc2], .int .i64 0]) ?_ rfl ?_
        · rw [results_cell_v rfl]
          go_simp
        · exact ⟨va2, ra2, vc2, rc2, by simp, fun w'' hw => ((HFR.out.agree hag).agree (hw.mono (by omega))).rm, hEx⟩
end Wt
