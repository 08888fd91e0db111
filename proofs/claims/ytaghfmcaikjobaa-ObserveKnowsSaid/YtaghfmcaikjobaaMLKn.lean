/- The walk of ObserveKnows (printed by gen_kn.py). -/
import Derived.Test.YtaghfmcaikjobaaMOfC
import Derived.Test.YtaghfmcaikjobaaMOfF
import Derived.Test.YtaghfmcaikjobaaMBld
namespace Wt
open Go Go.RowKit Go.Maps Go.Proofs Fm

set_option maxRecDepth 20000 in
set_option maxHeartbeats 8000000 in
theorem observeKnows_any (n : Int) (fa : Option Addr) (fc : Nat) (f : List Nd) (sa : Option Addr) (sc : Nat) (seen : List (List (List Nd))) (w : World) (hf : RN w fa f) (hs : RNNN w sa seen) :
    Calls Try.prog 8 #[.int .i64 n, .slice fa f.length fc, .slice sa seen.length sc] w fun e w' => e = .returned (.bool true) ∧ Ext w w' := by
  have HFW := Lib.hid (few22_any n fa fc f sa sc seen w hf.len hs)
  cases hb : few22 n f seen
  · rw [hb] at HFW
    clear hb
    go_enter Try.func8, Try.ntmps8
    go_wp2_with fail
    refine HFW.out.mono ?_
    rintro _ _ ⟨rfl, rfl⟩
    dsimp only
    go_wp2_with fail
    refine (awake22_any _).mono ?_
    rintro _ w1 ⟨rfl, hE1⟩
    dsimp only
    go_wp2_with fail
    go_ret
    exact ⟨rfl, hE1⟩
  obtain ⟨-, -, hfew⟩ := few22_few hb
  rw [hb] at HFW
  have HF := Lib.hid hf
  have HS := Lib.hid hs
  have H1 := Lib.hid (obuild_any n fa fc f sa sc seen w hf hs)
  have hsl := hs.len
  clear hf hs hb
  by_cases hob : obErr n f seen = 0
  rotate_left
  · have hq : (obErr n f seen != 0) = true := by simp [hob]
    generalize obM n f seen = M at *
    generalize natI (obS n f seen) = L at *
    generalize obErr n f seen = c at *
    clear hob
    go_enter Try.func8, Try.ntmps8
    go_wp2_with fail
    refine HFW.out.mono ?_
    rintro _ _ ⟨rfl, rfl⟩
    dsimp only
    go_wp2_with fail
    refine H1.out.mono ?_
    rintro _ w1 ⟨va1, ra1, la1, vc1, rc1, lc1, rfl, hm1, hi1, hE1⟩
    dsimp only
    have hA1 : Ext w1 (w1.alloc (.cells #[.int .i64 M.worlds, .slice va1 M.val.length vc1, .slice ra1 M.rel.length rc1] 29)) := (Ext.refl _).alloc _
    go_wp2_with fail
    refine (awake22_any _).mono ?_
    rintro _ w3 ⟨rfl, hE3⟩
    dsimp only
    go_wp2_with fail
    go_ret
    exact ⟨rfl, hE1.trans (hA1.trans hE3)⟩
  have hkn := ob_kn hob fun l hl g hg => by have := (hfew.few l hl).2 g hg; omega
  have hLN := natI_len (obS n f seen)
  rw [hob] at H1
  generalize (obS n f seen).length = N at *
  generalize obM n f seen = M at *
  generalize natI (obS n f seen) = L at *
  clear hob hfew
  obtain ⟨MW, MV, MR⟩ := M
  obtain rfl : MW = (N : Int) := hkn.w
  have hRL : MR.length = seen.length := hkn.r
  have HRLh := Lib.hid hRL
  have hN64 := hkn.m
  have HLEN : Hid (∀ a, a < seen.length → (nth MR a).length = N) := Lib.hid hkn.len
  have HRF : Hid (∀ a, a < seen.length → ∀ x, x < N → bt (nth (nth MR a) x) x = true) := Lib.hid hkn.refl
  have HSM : Hid (∀ a, a < seen.length → ∀ x, x < N → ∀ y, y < N → bt (nth (nth MR a) x) y = true → nth (nth MR a) x = nth (nth MR a) y) := Lib.hid hkn.same
  have HKW : Hid (∀ a, a < seen.length → ∀ j, j < (nth seen a).length → reqErr ⟨(N : Int), MV, MR⟩ (kwF a (nth (nth seen a) j)) = 0 ∧ validOf ⟨(N : Int), MV, MR⟩ (kwF a (nth (nth seen a) j)) = true) := Lib.hid hkn.kw
  have hq2 : ((MR.length : Int) != (seen.length : Int)) = false := by simp [hRL]
  have hq3 : ((N : Int) != (N : Int)) = false := by simp
  have HLN := Lib.hid hLN
  clear hkn hRL hLN
  go_enter Try.func8, Try.ntmps8
  go_wp2_with fail
  refine HFW.out.mono ?_
  rintro _ _ ⟨rfl, rfl⟩
  dsimp only
  go_wp2_with fail
  refine H1.out.mono ?_
  rintro _ w1 ⟨va1, ra1, la1, vc1, rc1, lc1, rfl, hm1, hi1, hE1⟩
  rw [HLN.out]
  dsimp only
  have hA1 : Ext w1 (w1.alloc (.cells #[.int .i64 (N : Int), .slice va1 MV.length vc1, .slice ra1 MR.length rc1] 29)) := (Ext.refl _).alloc _
  have HB1 := Lib.hid (OutAt.new w1 (.int .i64 (N : Int)) (.slice va1 MV.length vc1) (.slice ra1 MR.length rc1) 29)
  have HX2 := Lib.hid (hE1.trans hA1)
  have HM := Lib.hid (hm1.ext4 hA1)
  obtain ⟨m0, m1, m2, -⟩ := HB1.out
  have hl1 := World.block_lt_of_cell? _ _ m0
  dsimp only at hl1
  clear hA1 hE1 hm1 hi1
  go_wp2_with fail
  clear m0 m1 m2 hl1 hq2
  generalize w1.alloc (.cells #[.int .i64 (N : Int), .slice va1 MV.length vc1, .slice ra1 MR.length rc1] 29) = w2 at *
  go_loopw [49] (fun i wr => ∃ a : Nat, a ≤ seen.length ∧ i = .int .i64 (a : Int) ∧ Ext w2 wr) (fun i _ => seen.length - (intOf i).toNat)
  case atStart => exact ⟨0, Nat.zero_le _, rfl, Ext.refl _⟩
  case round =>
    obtain ⟨a, hak, rfl, hEr⟩ := hrel
    have HER := Lib.hid hEr
    by_cases hal : a < seen.length
    · have haR : a < MR.length := by have := HRLh.out; omega
      have haI : (a : Int) < (MR.length : Int) := by omega
      have haS : (a : Int) < (seen.length : Int) := by omega
      obtain ⟨m0, m1, m2, -⟩ := HB1.out.ext hEr
      have hl1 : w1.heap.size < wr.heap.size := World.block_lt_of_cell? _ _ m0
      obtain ⟨b, off, a', c', hra, hb, hcq, hu⟩ := (HM.out.ext4 hEr).rel.get (k := a) haR
      dsimp only at hra hcq hu
      subst hra
      rw [HLEN.out a hal] at hcq
      have HU := Lib.hid hu
      have HCQ := Lib.hid hcq
      clear hEr hu
      go_wp2_with fail
      go_quiet (fail)
      go_wp2_with fail
      clear m0 m1 m2 hl1 hcq hb
      go_loopw [63] (fun i wy => ∃ x : Nat, x ≤ N ∧ i = .int .i64 (x : Int) ∧ Ext wr wy) (fun i _ => N - (intOf i).toNat)
      case atStart => exact ⟨0, Nat.zero_le _, rfl, (Ext.refl _).drewN _⟩
      case round =>
        rename World => wy
        obtain ⟨x, hx, rfl, hEy⟩ := hrel
        have HEY := Lib.hid hEy
        by_cases hxl : x < N
        · obtain ⟨m0, m1, m2, -⟩ := HB1.out.ext (HER.out.trans hEy)
          have hl1 : w1.heap.size < wy.heap.size := World.block_lt_of_cell? _ _ m0
          clear hEy
          go_wp2_with fail
          clear m0 m1 m2 hl1
          go_loopw [68] (fun i wz => ∃ y : Nat, y ≤ N ∧ i = .int .i64 (y : Int) ∧ Ext wr wz) (fun i _ => N - (intOf i).toNat)
          case atStart => exact ⟨0, Nat.zero_le _, rfl, HEY.out⟩
          case round =>
            rename World => wz
            obtain ⟨y, hy, rfl, hEz⟩ := hrel
            have HEZ := Lib.hid hEz
            by_cases hyl : y < N
            · obtain ⟨m0, m1, m2, -⟩ := HB1.out.ext (HER.out.trans hEz)
              have hl1 : w1.heap.size < wz.heap.size := World.block_lt_of_cell? _ _ m0
              have hcq := hEz.cell HCQ.out
              have hbq := World.block_lt_of_cell? _ _ hcq
              obtain ⟨b5, o5, ha5, hb5, hc5⟩ := (HU.out.ext hEz).get (k := x) (by rw [HLEN.out a hal]; exact hxl)
              subst ha5
              obtain ⟨b6, o6, he6, hb6, hc6⟩ := (HU.out.ext hEz).get (k := y) (by rw [HLEN.out a hal]; exact hyl)
              simp only [Option.some.injEq, Addr.mk.injEq] at he6
              obtain ⟨rfl, rfl, -⟩ := he6
              have hxI : (x : Int) < (N : Int) := by omega
              have hyI : (y : Int) < (N : Int) := by omega
              have hrf := HRF.out a hal x hxl
              have hsm := HSM.out a hal x hxl y hyl
              dsimp only at hbq
              clear hEz
              generalize nth (nth MR a) x = rx at *
              generalize nth (nth MR a) y = ry at *
              cases hxy : bt rx y
              · clear hsm
                go_wp2_with fail
                go_quiet (fail)
                go_wp2
                go_roundw
                case rel => exact ⟨y + 1, hyl, by go_num, HEZ.out.drewN _⟩
                case measure => simp [intOf]; omega
              · have hne : (rx != ry) = false := by simp [hsm hxy]
                clear hsm
                go_wp2_with fail
                go_quiet (fail)
                go_wp2
                go_roundw
                case rel => exact ⟨y + 1, hyl, by go_num, HEZ.out.drewN _⟩
                case measure => simp [intOf]; omega
            · obtain rfl : N = y := by omega
              go_wp2
              go_roundw
              case rel => exact ⟨x + 1, hxl, by go_num, HEZ.out⟩
              case measure => simp [intOf]; omega
        · obtain rfl : N = x := by omega
          obtain ⟨b7, off7, a7, c7, hs7, hb7, hc7, hu7⟩ := (HS.out.ext (HX2.out.trans (HER.out.trans hEy))).get a hal
          subst hs7
          have HU7 := Lib.hid hu7
          have hl7 := hu7.len
          clear hu7 hEy
          go_wp2_with fail
          clear hc7 hb7
          rename World => wb
          go_loopw [125] (fun i wq => ∃ j : Nat, j ≤ (nth seen a).length ∧ i = .int .i64 (j : Int) ∧ Ext wb wq) (fun i _ => (nth seen a).length - (intOf i).toNat)
          case atStart => exact ⟨0, Nat.zero_le _, rfl, Ext.refl _⟩
          case round =>
            rename World => wq
            obtain ⟨j, hj, rfl, hEq⟩ := hrel
            have HEQ := Lib.hid hEq
            by_cases hjl : j < (nth seen a).length
            · obtain ⟨b8, off8, a8, c8, hs8, hb8, hc8, hu8⟩ := (HU7.out.ext hEq).get j hjl
              subst hs8
              have hjI : (j : Int) < ((nth seen a).length : Int) := by omega
              obtain ⟨hk1, hk2⟩ := HKW.out a hal j hjl
              obtain ⟨m0, m1, m2, -⟩ := HB1.out.ext (HER.out.trans (HEY.out.trans hEq))
              have hl1 : w1.heap.size < wq.heap.size := World.block_lt_of_cell? _ _ m0
              have HK : Hid (∀ w', Ext wq w' → w'.cell? ⟨w1.heap.size, 0, none⟩ = some (.int .i64 (N : Int)) ∧ w'.cell? ⟨w1.heap.size, 1, none⟩ = some (.slice va1 MV.length vc1) ∧ w'.cell? ⟨w1.heap.size, 2, none⟩ = some (.slice (some ⟨b, off, none⟩) MR.length rc1)) := Lib.hid fun w' e => ⟨e.cell m0, e.cell m1, e.cell m2⟩
              have HRN : Hid (∀ w', Ext wq w' → RN w' a8 (nth (nth seen a) j)) := Lib.hid fun w' e => hu8.ext e
              have HV : Hid (∀ w', Ext wq w' → ∀ ga gc, RN w' ga (kwF a (nth (nth seen a) j)) → Calls Try.prog 30 #[.agg #[.int .i64 (N : Int), .slice va1 MV.length vc1, .slice (some ⟨b, off, none⟩) MR.length rc1], .slice ga (kwF a (nth (nth seen a) j)).length gc] w' fun e w'' => RetP (.bool true) 0 e w' w'') := Lib.hid fun w' e ga gc hg => by
                have h := valid_any ⟨(N : Int), MV, MR⟩ va1 (some ⟨b, off, none⟩) vc1 rc1 ga gc _ w' (HM.out.ext4 ((HER.out.trans (HEY.out.trans HEQ.out)).trans e)) hg
                rw [hk1, hk2] at h
                exact h
              unfold kwF at HV
              generalize nth (nth seen a) j = F at *
              clear hu8 hEq hk1 hk2
              go_upto_region 26 with fail
              go_cut [15, 16] from 129 to 141 (fun s1 s2 wc => s1 = .bool true ∧ s2 = .int .i64 0 ∧ Hid (Ext wq wc))
              case first =>
                go_region_held3 (fun w' => w'.cell? ⟨w1.heap.size, 0, none⟩ = some (.int .i64 (N : Int)) ∧ w'.cell? ⟨w1.heap.size, 1, none⟩ = some (.slice va1 MV.length vc1) ∧ w'.cell? ⟨w1.heap.size, 2, none⟩ = some (.slice (some ⟨b, off, none⟩) MR.length rc1)) (first | exact HK.out _ (Ext.refl _) | exact HK.out _ ((Ext.refl _).drew) | exact HK.out _ (by first | exact Ext.refl _ | exact (Ext.refl _).drew | assumption | (refine Ext.trans ?_ (by assumption); first | exact Ext.refl _ | exact (Ext.refl _).drew | assumption | (refine Ext.trans ?_ (by assumption); first | exact Ext.refl _ | exact (Ext.refl _).drew | assumption | (refine Ext.trans ?_ (by assumption); first | exact Ext.refl _ | exact (Ext.refl _).drew | assumption | (refine Ext.trans ?_ (by assumption); first | exact Ext.refl _ | exact (Ext.refl _).drew | assumption | (refine Ext.trans ?_ (by assumption); first | exact Ext.refl _ | exact (Ext.refl _).drew | assumption | (refine Ext.trans ?_ (by assumption); first | exact Ext.refl _ | exact (Ext.refl _).drew | assumption))))))) | go_keep)
                  (first | (go_at_call 29; refine (cKnow_any _ _ _ _ _ (by first | assumption | exact HRN.out _ (by first | exact Ext.refl _ | exact (Ext.refl _).drew | assumption | (refine Ext.trans ?_ (by assumption); first | exact Ext.refl _ | exact (Ext.refl _).drew | assumption | (refine Ext.trans ?_ (by assumption); first | exact Ext.refl _ | exact (Ext.refl _).drew | assumption | (refine Ext.trans ?_ (by assumption); first | exact Ext.refl _ | exact (Ext.refl _).drew | assumption | (refine Ext.trans ?_ (by assumption); first | exact Ext.refl _ | exact (Ext.refl _).drew | assumption | (refine Ext.trans ?_ (by assumption); first | exact Ext.refl _ | exact (Ext.refl _).drew | assumption | (refine Ext.trans ?_ (by assumption); first | exact Ext.refl _ | exact (Ext.refl _).drew | assumption))))))) | (apply RN.ext; rotate_left; assumption; exact (by first | exact Ext.refl _ | exact (Ext.refl _).drew | assumption | (refine Ext.trans ?_ (by assumption); first | exact Ext.refl _ | exact (Ext.refl _).drew | assumption | (refine Ext.trans ?_ (by assumption); first | exact Ext.refl _ | exact (Ext.refl _).drew | assumption | (refine Ext.trans ?_ (by assumption); first | exact Ext.refl _ | exact (Ext.refl _).drew | assumption | (refine Ext.trans ?_ (by assumption); first | exact Ext.refl _ | exact (Ext.refl _).drew | assumption | (refine Ext.trans ?_ (by assumption); first | exact Ext.refl _ | exact (Ext.refl _).drew | assumption | (refine Ext.trans ?_ (by assumption); first | exact Ext.refl _ | exact (Ext.refl _).drew | assumption)))))))))).mono ?_; rintro _ wa ⟨la, lc, rfl, hr, hY⟩) | (go_at_call 32; refine (cNot_any _ _ _ _ (by first | assumption | exact HRN.out _ (by first | exact Ext.refl _ | exact (Ext.refl _).drew | assumption | (refine Ext.trans ?_ (by assumption); first | exact Ext.refl _ | exact (Ext.refl _).drew | assumption | (refine Ext.trans ?_ (by assumption); first | exact Ext.refl _ | exact (Ext.refl _).drew | assumption | (refine Ext.trans ?_ (by assumption); first | exact Ext.refl _ | exact (Ext.refl _).drew | assumption | (refine Ext.trans ?_ (by assumption); first | exact Ext.refl _ | exact (Ext.refl _).drew | assumption | (refine Ext.trans ?_ (by assumption); first | exact Ext.refl _ | exact (Ext.refl _).drew | assumption | (refine Ext.trans ?_ (by assumption); first | exact Ext.refl _ | exact (Ext.refl _).drew | assumption))))))) | (apply RN.ext; rotate_left; assumption; exact (by first | exact Ext.refl _ | exact (Ext.refl _).drew | assumption | (refine Ext.trans ?_ (by assumption); first | exact Ext.refl _ | exact (Ext.refl _).drew | assumption | (refine Ext.trans ?_ (by assumption); first | exact Ext.refl _ | exact (Ext.refl _).drew | assumption | (refine Ext.trans ?_ (by assumption); first | exact Ext.refl _ | exact (Ext.refl _).drew | assumption | (refine Ext.trans ?_ (by assumption); first | exact Ext.refl _ | exact (Ext.refl _).drew | assumption | (refine Ext.trans ?_ (by assumption); first | exact Ext.refl _ | exact (Ext.refl _).drew | assumption | (refine Ext.trans ?_ (by assumption); first | exact Ext.refl _ | exact (Ext.refl _).drew | assumption)))))))))).mono ?_; rintro _ wa ⟨la, lc, rfl, hr, hY⟩) | (go_at_call 31; refine (cOr_any _ _ _ _ _ _ _ (by first | assumption | exact HRN.out _ (by first | exact Ext.refl _ | exact (Ext.refl _).drew | assumption | (refine Ext.trans ?_ (by assumption); first | exact Ext.refl _ | exact (Ext.refl _).drew | assumption | (refine Ext.trans ?_ (by assumption); first | exact Ext.refl _ | exact (Ext.refl _).drew | assumption | (refine Ext.trans ?_ (by assumption); first | exact Ext.refl _ | exact (Ext.refl _).drew | assumption | (refine Ext.trans ?_ (by assumption); first | exact Ext.refl _ | exact (Ext.refl _).drew | assumption | (refine Ext.trans ?_ (by assumption); first | exact Ext.refl _ | exact (Ext.refl _).drew | assumption | (refine Ext.trans ?_ (by assumption); first | exact Ext.refl _ | exact (Ext.refl _).drew | assumption))))))) | (apply RN.ext; rotate_left; assumption; exact (by first | exact Ext.refl _ | exact (Ext.refl _).drew | assumption | (refine Ext.trans ?_ (by assumption); first | exact Ext.refl _ | exact (Ext.refl _).drew | assumption | (refine Ext.trans ?_ (by assumption); first | exact Ext.refl _ | exact (Ext.refl _).drew | assumption | (refine Ext.trans ?_ (by assumption); first | exact Ext.refl _ | exact (Ext.refl _).drew | assumption | (refine Ext.trans ?_ (by assumption); first | exact Ext.refl _ | exact (Ext.refl _).drew | assumption | (refine Ext.trans ?_ (by assumption); first | exact Ext.refl _ | exact (Ext.refl _).drew | assumption | (refine Ext.trans ?_ (by assumption); first | exact Ext.refl _ | exact (Ext.refl _).drew | assumption))))))))) (by first | assumption | exact HRN.out _ (by first | exact Ext.refl _ | exact (Ext.refl _).drew | assumption | (refine Ext.trans ?_ (by assumption); first | exact Ext.refl _ | exact (Ext.refl _).drew | assumption | (refine Ext.trans ?_ (by assumption); first | exact Ext.refl _ | exact (Ext.refl _).drew | assumption | (refine Ext.trans ?_ (by assumption); first | exact Ext.refl _ | exact (Ext.refl _).drew | assumption | (refine Ext.trans ?_ (by assumption); first | exact Ext.refl _ | exact (Ext.refl _).drew | assumption | (refine Ext.trans ?_ (by assumption); first | exact Ext.refl _ | exact (Ext.refl _).drew | assumption | (refine Ext.trans ?_ (by assumption); first | exact Ext.refl _ | exact (Ext.refl _).drew | assumption))))))) | (apply RN.ext; rotate_left; assumption; exact (by first | exact Ext.refl _ | exact (Ext.refl _).drew | assumption | (refine Ext.trans ?_ (by assumption); first | exact Ext.refl _ | exact (Ext.refl _).drew | assumption | (refine Ext.trans ?_ (by assumption); first | exact Ext.refl _ | exact (Ext.refl _).drew | assumption | (refine Ext.trans ?_ (by assumption); first | exact Ext.refl _ | exact (Ext.refl _).drew | assumption | (refine Ext.trans ?_ (by assumption); first | exact Ext.refl _ | exact (Ext.refl _).drew | assumption | (refine Ext.trans ?_ (by assumption); first | exact Ext.refl _ | exact (Ext.refl _).drew | assumption | (refine Ext.trans ?_ (by assumption); first | exact Ext.refl _ | exact (Ext.refl _).drew | assumption)))))))))).mono ?_; rintro _ wa ⟨la, lc, rfl, hr, hY⟩) | (go_at_call 30; refine (HV.out _ (by first | exact Ext.refl _ | exact (Ext.refl _).drew | assumption | (refine Ext.trans ?_ (by assumption); first | exact Ext.refl _ | exact (Ext.refl _).drew | assumption | (refine Ext.trans ?_ (by assumption); first | exact Ext.refl _ | exact (Ext.refl _).drew | assumption | (refine Ext.trans ?_ (by assumption); first | exact Ext.refl _ | exact (Ext.refl _).drew | assumption | (refine Ext.trans ?_ (by assumption); first | exact Ext.refl _ | exact (Ext.refl _).drew | assumption | (refine Ext.trans ?_ (by assumption); first | exact Ext.refl _ | exact (Ext.refl _).drew | assumption | (refine Ext.trans ?_ (by assumption); first | exact Ext.refl _ | exact (Ext.refl _).drew | assumption))))))) _ _ (by first | assumption | exact HRN.out _ (by first | exact Ext.refl _ | exact (Ext.refl _).drew | assumption | (refine Ext.trans ?_ (by assumption); first | exact Ext.refl _ | exact (Ext.refl _).drew | assumption | (refine Ext.trans ?_ (by assumption); first | exact Ext.refl _ | exact (Ext.refl _).drew | assumption | (refine Ext.trans ?_ (by assumption); first | exact Ext.refl _ | exact (Ext.refl _).drew | assumption | (refine Ext.trans ?_ (by assumption); first | exact Ext.refl _ | exact (Ext.refl _).drew | assumption | (refine Ext.trans ?_ (by assumption); first | exact Ext.refl _ | exact (Ext.refl _).drew | assumption | (refine Ext.trans ?_ (by assumption); first | exact Ext.refl _ | exact (Ext.refl _).drew | assumption))))))) | (apply RN.ext; rotate_left; assumption; exact (by first | exact Ext.refl _ | exact (Ext.refl _).drew | assumption | (refine Ext.trans ?_ (by assumption); first | exact Ext.refl _ | exact (Ext.refl _).drew | assumption | (refine Ext.trans ?_ (by assumption); first | exact Ext.refl _ | exact (Ext.refl _).drew | assumption | (refine Ext.trans ?_ (by assumption); first | exact Ext.refl _ | exact (Ext.refl _).drew | assumption | (refine Ext.trans ?_ (by assumption); first | exact Ext.refl _ | exact (Ext.refl _).drew | assumption | (refine Ext.trans ?_ (by assumption); first | exact Ext.refl _ | exact (Ext.refl _).drew | assumption | (refine Ext.trans ?_ (by assumption); first | exact Ext.refl _ | exact (Ext.refl _).drew | assumption)))))))))).mono ?_; rintro _ wv ⟨rfl, hYv⟩) | fail)
                all_goals
                  go_wp2_with fail
                  go_meet
                  case rel => exact ⟨rfl, rfl, Lib.hid (by first | exact Ext.refl _ | exact (Ext.refl _).drew | assumption | (refine Ext.trans ?_ (by assumption); first | exact Ext.refl _ | exact (Ext.refl _).drew | assumption | (refine Ext.trans ?_ (by assumption); first | exact Ext.refl _ | exact (Ext.refl _).drew | assumption | (refine Ext.trans ?_ (by assumption); first | exact Ext.refl _ | exact (Ext.refl _).drew | assumption | (refine Ext.trans ?_ (by assumption); first | exact Ext.refl _ | exact (Ext.refl _).drew | assumption | (refine Ext.trans ?_ (by assumption); first | exact Ext.refl _ | exact (Ext.refl _).drew | assumption | (refine Ext.trans ?_ (by assumption); first | exact Ext.refl _ | exact (Ext.refl _).drew | assumption)))))))⟩
              case rest =>
                obtain ⟨rfl, rfl, hEc⟩ := hcut
                rename World => w8
                clear m0 m1 m2 hl1 hc8 hb8
                go_wp2
                go_roundw
                case rel => exact ⟨j + 1, hjl, by go_num, HEQ.out.trans hEc.out⟩
                case measure => simp [intOf]; omega
            · obtain rfl : j = (nth seen a).length := by omega
              go_wp2
              go_roundw
              case rel => exact ⟨a + 1, hal, by go_num, HER.out.trans (HEY.out.trans hEq)⟩
              case measure => simp [intOf]; omega
    · obtain rfl : a = seen.length := by omega
      go_wp2_with fail
      refine (awake22_any _).mono ?_
      rintro _ w3 ⟨rfl, hE3⟩
      dsimp only
      go_wp2_with fail
      go_ret
      exact ⟨rfl, HX2.out.trans (hEr.trans hE3)⟩
end Wt
