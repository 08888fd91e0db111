/- The walk of ObserveLearns (printed by gen_le.py). -/
import Derived.Test.YtaghfmcaikjobaaMOfC
import Derived.Test.YtaghfmcaikjobaaMOfE
import Derived.Test.YtaghfmcaikjobaaMOfF
import Derived.Test.YtaghfmcaikjobaaMBld
import Derived.Test.YtaghfmcaikjobaaMRgn
import Derived.Test.YtaghfmcaikjobaaMCkC
namespace Wt
open Go Go.RowKit Go.Maps Go.Proofs Fm

/-- What the law asks of the model after a group has learnt. -/
structure LeOk (M R : Mo) (g : Nat) (f : List Nd) : Prop where
  w : R.worlds = M.worlds
  r : R.rel.length = M.rel.length
  len : ∀ a, a < M.rel.length → ((nth R.rel a).length : Int) = R.worlds
  out : ∀ a, a < M.rel.length → g.testBit a = false → nth R.rel a = nth M.rel a
  kw : ∀ a, a < M.rel.length → g.testBit a = true → fFrags f = 0 → reqErr R (kwF a f) = 0 ∧ validOf R (kwF a f) = true
  eqv : ∀ a, a < M.rel.length → eqvB (nth M.rel a) = true → eqvB (nth R.rel a) = true
theorem le_ok {M : Mo} {g : Int} {f : List Nd} (h : revErr M g f = 0) (hl : f.length ≤ 40) : LeOk M (revM M g f) g.toNat f := by
  obtain ⟨hq, g1, g2⟩ := revErr_ok h
  have hM : moCheck M = 0 := (reqErr_ok hq).1
  obtain ⟨N, ok⟩ := moCheck_ok hM
  obtain ⟨ok2, e⟩ := rev_ok ok h
  have hr : (revM M g f).rel.length = M.rel.length := by rw [e]; simp
  refine ⟨by rw [e], hr, fun a ha => ?_, fun a ha hb => ?_, fun a ha hb hp => ?_, fun a ha he => rev_eqv ok h ha he⟩
  · rw [ok2.worlds, (row_in ok2 (by rw [hr]; exact ha)).1]
  · rw [rev_row h ha]; unfold revR; rw [hb]; rfl
  · exact kw_ok ok2 (IsF.of (reqErr_ok hq).2.1) (by have := ok.rel; omega) hl (rev_knows ok h hp ha hb)
set_option maxRecDepth 20000 in
set_option maxHeartbeats 8000000 in
theorem observeLearns_any (M : Mo) (va ra : Option Addr) (vc rc : Nat) (fa : Option Addr) (fc : Nat) (f : List Nd) (g : Int) (w : World) (hm : RM w va ra M) (hf : RN w fa f) :
    Calls Try.prog 9 #[.agg #[.int .i64 M.worlds, .slice va M.val.length vc, .slice ra M.rel.length rc], .slice fa f.length fc, .int .i64 g] w fun e w' => e = .returned (.bool true) ∧ Ext w w' := by
  have hE0 := (Ext.refl w).alloc (.cells #[.int .i64 M.worlds, .slice va M.val.length vc, .slice ra M.rel.length rc] 29)
  have HBX := Lib.hid (MoBox.new w M.worlds M.val M.rel va vc ra rc 29)
  have HF := Lib.hid (hf.ext hE0)
  have HM := Lib.hid (hm.ext hE0)
  have HE := Lib.hid hE0
  have hfl := hf.len
  have hml := hm.rel.len
  have hvl := hm.val.len
  clear hm hf hE0
  go_enter Try.func9, Try.ntmps9
  obtain ⟨m0, m1, m2⟩ := HBX.out
  dsimp only at m0 m1 m2
  go_wp2_with fail
  clear m0 m1 m2
  generalize w.alloc (.cells #[.int .i64 M.worlds, .slice va M.val.length vc, .slice ra M.rel.length rc] 29) = W0 at *
  refine (r13Few_any M va ra vc rc 12 _ HM.out).mono ?_
  rintro _ w1 ⟨b1, rfl, hE1⟩
  dsimp only
  cases b1
  · go_wp2_with fail
    refine (awake22_any _).mono ?_
    rintro _ wA ⟨rfl, hEA⟩
    dsimp only
    go_wp2_with fail
    go_ret
    exact ⟨rfl, HE.out.trans (hE1.trans hEA)⟩
  by_cases h20 : f.length ≤ 20
  rotate_left
  · have hd : decide ((20 : Int) < f.length) = true := decide_eq_true (by omega)
    clear h20
    go_wp2_with fail
    refine (awake22_any _).mono ?_
    rintro _ wA ⟨rfl, hEA⟩
    dsimp only
    go_wp2_with fail
    go_ret
    exact ⟨rfl, HE.out.trans (hE1.trans hEA)⟩
  have hd : decide ((20 : Int) < f.length) = false := decide_eq_false (by omega)
  have H20 := Lib.hid h20
  clear h20
  obtain ⟨m0, m1, m2⟩ := HBX.out.ext hE1
  dsimp only at m0 m1 m2
  have hl0 := World.block_lt_of_cell? _ _ m0
  dsimp only at hl0
  go_wp2_with fail
  clear m0 m1 m2 hl0 hd
  refine (oreveal_any M va ra vc rc g fa fc f _ (HM.out.ext4 hE1) (HF.out.ext hE1)).mono ?_
  rintro _ w3 ⟨va3, ra3, vc3, rc3, rfl, hm3, hE3⟩
  dsimp only
  by_cases hrv : revErr M g f = 0
  rotate_left
  · have hq : (revErr M g f != 0) = true := by simp [hrv]
    generalize revM M g f = R at *
    have hA3 : Ext w3 (w3.alloc (.cells #[.int .i64 R.worlds, .slice va3 R.val.length vc3, .slice ra3 R.rel.length rc3] 29)) := (Ext.refl _).alloc _
    generalize revErr M g f = c at *
    clear hrv
    go_wp2_with fail
    refine (awake22_any _).mono ?_
    rintro _ wA ⟨rfl, hEA⟩
    dsimp only
    go_wp2_with fail
    go_ret
    exact ⟨rfl, HE.out.trans ((hE1.trans hE3).trans (hA3.trans hEA))⟩
  have hle := le_ok hrv (by have := H20.out; omega)
  obtain ⟨-, g1, g2⟩ := revErr_ok hrv
  obtain ⟨G, rfl⟩ := Int.eq_ofNat_of_zero_le (show 0 ≤ g by omega)
  rw [Int.toNat_natCast] at hle
  have hr4 : M.rel.length ≤ 4 := by
    obtain ⟨hq, -, -⟩ := revErr_ok hrv
    obtain ⟨N, ok⟩ := moCheck_ok (reqErr_ok hq).1
    exact ok.rel
  have hG : G < 9223372036854775808 := by
    have := (p2_small (R := M.rel.length) (by
      rcases Nat.eq_zero_or_pos M.rel.length with h | h
      · rw [h] at g2; have : p2 0 = 1 := rfl; omega
      · exact h) hr4).2
    omega
  rw [hrv]
  generalize revM M (G : Int) f = R at *
  have hRM3 := hm3 w3 (fun _ _ _ => rfl)
  have hA3 : Ext w3 (w3.alloc (.cells #[.int .i64 R.worlds, .slice va3 R.val.length vc3, .slice ra3 R.rel.length rc3] 29)) := (Ext.refl _).alloc _
  have HB3 := Lib.hid (OutAt.new w3 (.int .i64 R.worlds) (.slice va3 R.val.length vc3) (.slice ra3 R.rel.length rc3) 29)
  have HR3 := Lib.hid (hRM3.ext4 hA3)
  have hX4 := (hE1.trans hE3).trans hA3
  have HX4 := Lib.hid hX4
  obtain ⟨m0, m1, m2⟩ := HBX.out.ext hX4
  obtain ⟨n0, n1, n2, -⟩ := HB3.out
  dsimp only at m0 m1 m2
  have hl0 := World.block_lt_of_cell? _ _ m0
  have hln := World.block_lt_of_cell? _ _ n0
  dsimp only at hl0 hln
  have hrr : ((R.rel.length : Int) != (M.rel.length : Int)) = false := by rw [hle.r]; simp
  have hww : (R.worlds != M.worlds) = false := by rw [hle.w]; simp
  have HRL := Lib.hid hle.r
  have HLEN := Lib.hid hle.len
  have HOUT := Lib.hid hle.out
  have HKW := Lib.hid hle.kw
  have HEV := Lib.hid hle.eqv
  clear hm3 hRM3 hle hrv g1 g2 hE1 hE3
  go_upto_region 8 with fail
  clear hrr hww m0 m1 m2 n0 n1 n2 hl0 hln
  generalize w3.alloc (.cells #[.int .i64 R.worlds, .slice va3 R.val.length vc3, .slice ra3 R.rel.length rc3] 29) = w4 at *
  have HRFW := Lib.hid (HF.out.ext HX4.out)
  obtain ⟨m0, m1, m2⟩ := HBX.out.ext HX4.out
  dsimp only at m0 m1 m2
  go_cut [9, 10] from 48 to 56 (fun s9 s10 wc => ∃ x te, s9 = .int .u64 (un x) ∧ s10 = .int .i64 te ∧ Hid (te = 0 → fFrags f = 0) ∧ Hid (Ext w4 wc))
  case first =>
    go_wp2_with fail
    all_goals
      refine (table_any fa fc f _ _ HRFW.out).mono ?_
      rintro _ w5 ⟨rfl, hE5⟩
      dsimp only
      go_wp2_with fail
      go_meet
      case rel => exact ⟨_, _, rfl, rfl, Lib.hid (fun h => (tabErr_ok h).2.1), Lib.hid hE5⟩
  case rest =>
    obtain ⟨x, te, rfl, rfl, HTE, HEC⟩ := hcut
    rename World => wc
    obtain ⟨n0, n1, n2, -⟩ := HB3.out.ext HEC.out
    have hln := World.block_lt_of_cell? _ _ n0
    dsimp only at hln
    clear m0 m1 m2
    go_wp2_with fail
    clear n0 n1 n2 hln
    go_loopw [60] (fun i wr => ∃ a : Nat, a ≤ M.rel.length ∧ i = .int .i64 (a : Int) ∧ Ext wc wr) (fun i _ => M.rel.length - (intOf i).toNat)
    case atStart => exact ⟨0, Nat.zero_le _, rfl, Ext.refl _⟩
    case round =>
      obtain ⟨a, hak, rfl, hEr⟩ := hrel
      have HER := Lib.hid hEr
      by_cases haM : a < M.rel.length
      · have haR : a < R.rel.length := by have := HRL.out; omega
        have haRI : (a : Int) < (R.rel.length : Int) := by omega
        have haMI : (a : Int) < (M.rel.length : Int) := by omega
        obtain ⟨b, off, a', c', hra, hb, hcr, hu⟩ := ((HR3.out.ext4 (HEC.out.trans hEr)).rel).get (k := a) haR
        obtain ⟨b2, off2, a2', c2', hma, hb2, hcm, hum⟩ := ((HM.out.ext4 (HX4.out.trans (HEC.out.trans hEr))).rel).get (k := a) haM
        subst hra hma
        have HUR := Lib.hid hu
        have HUM := Lib.hid hum
        have HCR := Lib.hid hcr
        have HCM := Lib.hid hcm
        obtain ⟨n0, n1, n2, -⟩ := HB3.out.ext (HEC.out.trans hEr)
        have hln : w3.heap.size < wr.heap.size := World.block_lt_of_cell? _ _ n0
        obtain ⟨m0, m1, m2⟩ := HBX.out.ext (HX4.out.trans (HEC.out.trans hEr))
        dsimp only at m0 m1 m2
        have hlm : w.heap.size < wr.heap.size := World.block_lt_of_cell? _ _ m0
        have hlen := HLEN.out a haM
        have hnn : (((nth R.rel a).length : Int) != R.worlds) = false := by rw [hlen]; simp
        have hul := hu.len
        have HSR : Hid (∀ w', Ext wr w' → w'.cell? ⟨w3.heap.size, 0, none⟩ = some (.int .i64 R.worlds) ∧ w'.cell? ⟨w3.heap.size, 1, none⟩ = some (.slice va3 R.val.length vc3) ∧ w'.cell? ⟨w3.heap.size, 2, none⟩ = some (.slice (some ⟨b, off, none⟩) R.rel.length rc3)) := Lib.hid fun w' e => ⟨e.cell n0, e.cell n1, e.cell n2⟩
        have HSM : Hid (∀ w', Ext wr w' → w'.cell? ⟨w.heap.size, 2, none⟩ = some (.slice (some ⟨b2, off2, none⟩) M.rel.length rc) ∧ w'.cell? ⟨b, off + a, none⟩ = some (.slice a' (nth R.rel a).length c') ∧ w'.cell? ⟨b2, off2 + a, none⟩ = some (.slice a2' (nth M.rel a).length c2')) := Lib.hid fun w' e => ⟨e.cell m2, e.cell hcr, e.cell hcm⟩
        have HRF : Hid (∀ w', Ext wr w' → RN w' fa f) := Lib.hid fun w' e => HF.out.ext (HX4.out.trans (HEC.out.trans (HER.out.trans e)))
        have HEQ := Lib.hid (HEV.out a haM)
        clear hu hum hlen hEr
        go_wp2_with fail
        go_quiet (fail)
        have hQ0 : Ext wr (wr.drewN nq) := (Ext.refl _).drewN _
        clear n0 n1 n2 hln m0 m1 m2 hlm hcr hcm hb hb2
        generalize wr.drewN nq = wq at *
        obtain ⟨n0, n1, n2⟩ := HSR.out _ hQ0
        obtain ⟨m2, hcr, hcm⟩ := HSM.out _ hQ0
        have hln : w3.heap.size < wq.heap.size := World.block_lt_of_cell? _ _ n0
        have hlm : w.heap.size < wq.heap.size := World.block_lt_of_cell? _ _ m2
        have hb : b < wq.heap.size := World.block_lt_of_cell? _ _ hcr
        have hb2 : b2 < wq.heap.size := World.block_lt_of_cell? _ _ hcm
        go_upto_region 15 with fail
        obtain ⟨bb, hbb⟩ : ∃ bb, G.testBit a = bb := ⟨_, rfl⟩
        rw [hbb]
        have HBB := Lib.hid hbb
        clear hbb
        go_cut [93] from 78 to 93 (fun s93 wd => s93 = .bool false ∧ Hid (Ext wr wd))
        case first =>
          cases bb
          · have hsame := HOUT.out a haM HBB.out
            have hdd : decide (nth M.rel a = nth M.rel a) = true := by simp
            rw [hsame] at hcr HUR
            clear hsame
            go_quiet ((go_at_call 35; exact Calls.quiet_of (r13Same_any _ _ _ _ _ _ _ (HUR.out.ext (hQ0.drewN _)) (HUM.out.ext (hQ0.drewN _)))))
            rw [hdd]
            go_wp2_with fail
            go_meet
            case rel => exact ⟨rfl, Lib.hid (hQ0.drewN _)⟩
          · go_quiet (fail)
            go_wp2_with fail
            go_meet
            case rel => exact ⟨rfl, Lib.hid (hQ0.drewN _)⟩
        case rest =>
          obtain ⟨rfl, HEd⟩ := hcut
          rename World => w6
          have hD6 : Ext wr w6.drew := HEd.out.drew
          have HKV : Hid (bb = true → te = 0 → reqErr R (kwF a f) = 0 ∧ validOf R (kwF a f) = true) := Lib.hid fun h1 h2 => HKW.out a haM (HBB.out.trans h1) (HTE.out h2)
          have HVA : Hid (∀ w', Ext wr w' → ∀ ga gc, RN w' ga (kwF a f) → Calls Try.prog 30 #[.agg #[.int .i64 R.worlds, .slice va3 R.val.length vc3, .slice (some ⟨b, off, none⟩) R.rel.length rc3], .slice ga (kwF a f).length gc] w' fun e w'' => RetP (.bool (validOf R (kwF a f))) (reqErr R (kwF a f)) e w' w'') := Lib.hid fun w' e ga gc hg => valid_any R va3 (some ⟨b, off, none⟩) vc3 rc3 ga gc _ w' (HR3.out.ext4 (HEC.out.trans (HER.out.trans e))) hg
          generalize validOf R (kwF a f) = vb at *
          generalize reqErr R (kwF a f) = vq at *
          unfold kwF at HVA
          clear n0 n1 n2 hln m2 hlm hcr hcm hb hb2 hnn
          go_upto_region 17 with fail
          refine wp_region_E 15 (fun w' => w'.cell? ⟨w3.heap.size, 0, none⟩ = some (.int .i64 R.worlds) ∧ w'.cell? ⟨w3.heap.size, 1, none⟩ = some (.slice va3 R.val.length vc3) ∧ w'.cell? ⟨w3.heap.size, 2, none⟩ = some (.slice (some ⟨b, off, none⟩) R.rel.length rc3)) (by kernel_rfl) ?_
          generalize World.drew w6 = wd at *
          refine wpAnyE_take (i := 0) (v := ?_) (.here) (by kernel_rfl) (fun _ _ _ h => h) (HSR.out _ hD6) (by rfl) ?_ ?_
          rotate_left
          focus (intro w hSw; (try dsimp only at hSw); go_simp; try with_reducible rfl)
          try simp only [Act.put, List.setIfInBounds_toArray, List.set_cons_zero, List.set_cons_succ]
          refine wpAnyE_take (i := 1) (v := ?_) (.next (.here)) (by kernel_rfl) (fun _ _ _ h => h) (HSR.out _ hD6) (by rfl) ?_ ?_
          rotate_left
          focus (intro w hSw; (try dsimp only at hSw); go_simp; try with_reducible rfl)
          try simp only [Act.put, List.setIfInBounds_toArray, List.set_cons_zero, List.set_cons_succ]
          refine wpAnyE_take (i := 2) (v := ?_) (.next (.next (.here))) (by kernel_rfl) (fun _ _ _ h => h) (HSR.out _ hD6) (by rfl) ?_ ?_
          rotate_left
          focus (intro w hSw; (try dsimp only at hSw); go_simp; try with_reducible rfl)
          try simp only [Act.put, List.setIfInBounds_toArray, List.set_cons_zero, List.set_cons_succ]
          refine wpAnyE_take (i := 4) (v := ?_) (.next (.next (.next (.next (.here))))) (by kernel_rfl) (fun _ _ _ h => h) (HSR.out _ hD6) (by rfl) ?_ ?_
          rotate_left
          focus (intro w hSw; (try dsimp only at hSw); go_simp; try with_reducible rfl)
          try simp only [Act.put, List.setIfInBounds_toArray, List.set_cons_zero, List.set_cons_succ]
          refine wpAnyE_take (i := 5) (v := ?_) (.next (.next (.next (.next (.next (.here)))))) (by kernel_rfl) (fun _ _ _ h => h) (HSR.out _ hD6) (by rfl) ?_ ?_
          rotate_left
          focus (intro w hSw; (try dsimp only at hSw); go_simp; try with_reducible rfl)
          try simp only [Act.put, List.setIfInBounds_toArray, List.set_cons_zero, List.set_cons_succ]
          refine wpAnyE_one (k := 3) (.next (.next (.next (.here)))) (by kernel_rfl) (fun K hK => ?_)
          go_simp
          refine (cKnow_any (a : Int) fa fc f _ (HRF.out _ hD6)).mono ?_; rintro _ w7 ⟨a7, c7, rfl, hr7, hE7⟩; have hX7 := hD6.trans hE7; dsimp only
          refine hK.out _ _ (fun _ => HSR.out _ hX7) ?_
          clear hK
          try simp only [Act.put, List.setIfInBounds_toArray, List.set_cons_zero, List.set_cons_succ]
          refine wpAnyE_one (k := 6) (.next (.next (.next (.next (.next (.next (.here))))))) (by kernel_rfl) (fun K hK => ?_)
          go_simp
          refine (cNot_any fa fc f _ (HRF.out _ hX7)).mono ?_; rintro _ w8 ⟨a8, c8, rfl, hr8, hE8⟩; have hX8 := hX7.trans hE8; dsimp only
          refine hK.out _ _ (fun _ => HSR.out _ hX8) ?_
          clear hK
          try simp only [Act.put, List.setIfInBounds_toArray, List.set_cons_zero, List.set_cons_succ]
          refine wpAnyE_one (k := 7) (.next (.next (.next (.next (.next (.next (.next (.here)))))))) (by kernel_rfl) (fun K hK => ?_)
          go_simp
          refine (cKnow_any (a : Int) a8 c8 _ _ hr8).mono ?_; rintro _ w9 ⟨a9, c9, rfl, hr9, hE9⟩; have hX9 := hX8.trans hE9; dsimp only
          refine hK.out _ _ (fun _ => HSR.out _ hX9) ?_
          clear hK
          try simp only [Act.put, List.setIfInBounds_toArray, List.set_cons_zero, List.set_cons_succ]
          refine wpAnyE_one (k := 8) (.next (.next (.next (.next (.next (.next (.next (.next (.here))))))))) (by kernel_rfl) (fun K hK => ?_)
          go_simp
          refine (cOr_any a7 c7 _ a9 c9 _ _ (hr7.ext (hE8.trans hE9)) hr9).mono ?_; rintro _ w10 ⟨a10, c10, rfl, hr10, hE10⟩; have hX10 := hX9.trans hE10; dsimp only
          refine hK.out _ _ (fun _ => HSR.out _ hX10) ?_
          clear hK
          try simp only [Act.put, List.setIfInBounds_toArray, List.set_cons_zero, List.set_cons_succ]
          refine wpAnyE_one (k := 9) (.next (.next (.next (.next (.next (.next (.next (.next (.next (.here)))))))))) (by kernel_rfl) (fun K hK => ?_)
          go_simp
          refine (HVA.out _ hX10 _ _ hr10).mono ?_; rintro _ w11 ⟨rfl, hE11⟩; have hX11 := hX10.trans hE11; dsimp only
          refine hK.out _ _ (fun _ => HSR.out _ hX11) ?_
          clear hK
          try simp only [Act.put, List.setIfInBounds_toArray, List.set_cons_zero, List.set_cons_succ]
          refine wpAnyE_take (i := 10) (v := ?_) (.next (.next (.next (.next (.next (.next (.next (.next (.next (.next (.here))))))))))) (by kernel_rfl) (fun _ _ _ h => h) (HSR.out _ hX11) (by rfl) ?_ ?_
          rotate_left
          focus (intro w hSw; (try dsimp only at hSw); go_simp; try with_reducible rfl)
          try simp only [Act.put, List.setIfInBounds_toArray, List.set_cons_zero, List.set_cons_succ]
          refine wpAnyE_take (i := 11) (v := ?_) (.next (.next (.next (.next (.next (.next (.next (.next (.next (.next (.next (.here)))))))))))) (by kernel_rfl) (fun _ _ _ h => h) (HSR.out _ hX11) (by rfl) ?_ ?_
          rotate_left
          focus (intro w hSw; (try dsimp only at hSw); go_simp; try with_reducible rfl)
          try simp only [Act.put, List.setIfInBounds_toArray, List.set_cons_zero, List.set_cons_succ]
          refine wpAnyE_take (i := 12) (v := ?_) (.next (.next (.next (.next (.next (.next (.next (.next (.next (.next (.next (.next (.here))))))))))))) (by kernel_rfl) (fun _ _ _ h => h) (HSR.out _ hX11) (by rfl) ?_ ?_
          rotate_left
          focus (intro w hSw; (try dsimp only at hSw); go_simp; try with_reducible rfl)
          try simp only [Act.put, List.setIfInBounds_toArray, List.set_cons_zero, List.set_cons_succ]
          refine wpAnyE_take (i := 13) (v := ?_) (.next (.next (.next (.next (.next (.next (.next (.next (.next (.next (.next (.next (.next (.here)))))))))))))) (by kernel_rfl) (fun _ _ _ h => h) (HSR.out _ hX11) (by rfl) ?_ ?_
          rotate_left
          focus (intro w hSw; (try dsimp only at hSw); go_simp; try with_reducible rfl)
          try simp only [Act.put, List.setIfInBounds_toArray, List.set_cons_zero, List.set_cons_succ]
          refine wpAnyE_take (i := 14) (v := ?_) (.next (.next (.next (.next (.next (.next (.next (.next (.next (.next (.next (.next (.next (.next (.here))))))))))))))) (by kernel_rfl) (fun _ _ _ h => h) (HSR.out _ hX11) (by rfl) ?_ ?_
          rotate_left
          focus (intro w hSw; (try dsimp only at hSw); go_simp; try with_reducible rfl)
          try simp only [Act.put, List.setIfInBounds_toArray, List.set_cons_zero, List.set_cons_succ]
          refine wpAnyE_seq [] (.nil) (by kernel_rfl) (by kernel_rfl) ?_
          go_upto_region 18 with fail
          go_cut [119] from 107 to 119 (fun s119 wd => s119 = .bool false ∧ wd = w11)
          case first =>
            cases bb
            · go_wp2_with fail
              go_meet
              case rel => exact ⟨rfl, rfl⟩
            · by_cases ht : te = 0
              · obtain ⟨rfl, rfl⟩ := HKV.out rfl ht
                have htt : (te == 0) = true := by simp [ht]
                clear ht
                go_wp2_with fail
                go_meet
                case rel => exact ⟨rfl, rfl⟩
              · have htt : (te == 0) = false := by simp [ht]
                clear ht
                go_wp2_with fail
                go_meet
                case rel => exact ⟨rfl, rfl⟩
          case rest =>
            obtain ⟨rfl, rfl⟩ := hcut
            rename World => w12
            obtain ⟨m2, hcr, hcm⟩ := HSM.out _ hX11
            have hlm : w.heap.size < w12.heap.size := World.block_lt_of_cell? _ _ m2
            have hb2 : b2 < w12.heap.size := World.block_lt_of_cell? _ _ hcm
            have HQ2 := HEQ
            go_wp2_with fail
            clear m2 hcr hcm hlm hb2
            refine (equivalence22_any _ _ _ _ (HUM.out.ext hX11)).mono ?_
            rintro _ w13 ⟨rfl, hQ13⟩
            dsimp only
            have hX13 := hX11.trans hQ13.ext
            cases he : eqvB (nth M.rel a)
            · go_wp2
              go_roundw
              case rel => exact ⟨a + 1, haM, by go_num, HER.out.trans hX13⟩
              case measure => simp [intOf]; omega
            · have her := HQ2.out he
              obtain ⟨m2, hcr, hcm⟩ := HSM.out _ hX13
              obtain ⟨n0, n1, n2⟩ := HSR.out _ hX13
              have hln : w3.heap.size < w13.heap.size := World.block_lt_of_cell? _ _ n0
              have hb : b < w13.heap.size := World.block_lt_of_cell? _ _ hcr
              clear HEQ HQ2
              go_wp2_with fail
              clear m2 hcr hcm n0 n1 n2 hln hb
              refine (equivalence22_any _ _ _ _ (HUR.out.ext hX13)).mono ?_
              rintro _ w14 ⟨rfl, hQ14⟩
              rw [her]
              dsimp only
              go_wp2
              go_roundw
              case rel => exact ⟨a + 1, haM, by go_num, HER.out.trans (hX13.trans hQ14.ext)⟩
              case measure => simp [intOf]; omega
      · obtain rfl : a = M.rel.length := by omega
        have hnl : ¬ (M.rel.length < R.rel.length) := by have := HRL.out; omega
        go_wp2_with fail
        refine (awake22_any _).mono ?_
        rintro _ wA ⟨rfl, hEA⟩
        dsimp only
        go_wp2_with fail
        go_ret
        exact ⟨rfl, HE.out.trans (HX4.out.trans (HEC.out.trans (HER.out.trans hEA)))⟩
end Wt
