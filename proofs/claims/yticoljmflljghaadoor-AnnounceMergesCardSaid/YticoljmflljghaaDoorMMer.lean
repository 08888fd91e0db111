/- The walk of AnnounceMerges. -/
import Derived.Test.YticoljmflljghaaDoorMAwk
import Derived.Test.YticoljmflljghaaDoorMSam
import Derived.Test.YticoljmflljghaaDoorRows
import Derived.Test.YticoljmflljghaaDoorCards
import Derived.Test.YticoljmflljghaaDoorTie
import Derived.Test.YticoljmflljghaaDoorMCkC
import Derived.Test.YticoljmflljghaaDoorMTz
import Derived.ProofKit
import Derived.LaidMore
import Derived.SizedLaws
import Derived.SevenTiedAt
namespace Wt
open Go Go.RowKit Go.Maps Go.Proofs Fm

set_option maxRecDepth 20000 in
set_option maxHeartbeats 8000000 in
theorem announceMerges_any (M : Mo) (va ra : Option Addr) (vc rc : Nat) (fa : Option Addr) (fc : Nat) (f : List Nd) (ga : Option Addr) (gc : Nat) (g : List Nd) (w : World) (hm : RM w va ra M) (hf : RN w fa f) (hg : RN w ga g) (hT : Tab w) :
    Calls Tryd.prog 4 #[.agg #[.int .i64 M.worlds, .slice va M.val.length vc, .slice ra M.rel.length rc], .slice fa f.length fc, .slice ga g.length gc] w fun e w' => e = .returned (.bool true) ∧ Ext w w' := by
  have hE0 := (Ext.refl w).alloc (.cells #[.int .i64 M.worlds, .slice va M.val.length vc, .slice ra M.rel.length rc] 25)
  have HBX := Lib.hid (MoBox.new w M.worlds M.val M.rel va vc ra rc 25)
  have HF := Lib.hid (hf.ext hE0)
  have HG := Lib.hid (hg.ext hE0)
  have HT := Lib.hid (hT.ext hE0)
  have HM := Lib.hid (hm.ext hE0)
  have HE := Lib.hid hE0
  have hrl := hm.rel.len
  have hfl := hf.len
  have hgl := hg.len
  clear hm hT hE0 hf hg
  go_enter Tryd.func4, Tryd.ntmps4
  go_wp2_with fail
  generalize w.alloc (.cells #[.int .i64 M.worlds, .slice va M.val.length vc, .slice ra M.rel.length rc] 25) = W0 at *
  refine (awake25_any _ HT.out).mono ?_
  rintro _ w1 ⟨rfl, hX1⟩
  dsimp only
  obtain ⟨m0, m1, m2⟩ := HBX.out.ext hX1
  dsimp only at m0 m1 m2
  go_wp2_with fail
  refine (few25_any M va ra vc rc _ 2 [f, g] _ (HM.out.ext (hX1.alloc _)) (RNN.two _ fa ga fc gc f g 26 (HF.out.ext hX1) (HG.out.ext hX1))).mono ?_
  rintro _ w2 ⟨b, rfl, hE2, hsm⟩
  have hX2 := (hX1.alloc (.cells #[.slice fa f.length fc, .slice ga g.length gc] 26)).trans hE2
  dsimp only
  clear m0 m1 m2
  cases b
  · go_wp2_with fail
    refine (awake25_any _ (HT.out.ext hX2)).mono ?_
    rintro _ w3 ⟨rfl, hE3⟩
    dsimp only
    go_wp2_with fail
    go_ret
    exact ⟨rfl, HE.out.trans (hX2.trans hE3)⟩
  obtain ⟨m0, m1, m2⟩ := HBX.out.ext hX2
  dsimp only at m0 m1 m2
  go_wp2_with fail
  refine (r13Check_any M va ra vc rc _ (HM.out.ext hX2)).mono ?_
  rintro _ w3 ⟨rfl, hE3⟩
  dsimp only
  have hX3 := hX2.trans hE3
  clear m0 m1 m2
  by_cases hM : moCheck M = 0
  rotate_left
  · have hq : (moCheck M != 0) = true := by simpa using hM
    go_wp2_with fail
    refine (awake25_any _ (HT.out.ext hX3)).mono ?_
    rintro _ w4 ⟨rfl, hE4⟩
    dsimp only
    go_wp2_with fail
    go_ret
    exact ⟨rfl, HE.out.trans (hX3.trans hE4)⟩
  have hq : (moCheck M != 0) = false := by simp [hM]
  obtain ⟨m0, m1, m2⟩ := HBX.out.ext hX3
  dsimp only at m0 m1 m2
  go_wp2_with fail
  refine ((update_any M va ra vc rc fa fc f _ (HM.out.ext hX3) (HF.out.ext hX3) (HT.out.ext hX3)).mono fun _ _ h => h.r).mono ?_
  rintro _ w4 ⟨va4, ra4, la4, vc4, rc4, lc4, rfl, hm4, hE4⟩
  rw [natI_len]
  dsimp only
  have hr4 := hm4 w4 (fun _ _ _ => rfl)
  have hX4 := hX3.trans hE4
  clear m0 m1 m2 hm4
  by_cases hu : upErr M f = 0
  rotate_left
  · have hqu : (upErr M f != 0) = true := by simpa using hu
    have hAx := hX4.alloc (.cells #[.int .i64 (upM M f).worlds, .slice va4 (upM M f).val.length vc4, .slice ra4 (upM M f).rel.length rc4] 25)
    go_wp2_with fail
    go_ret
    exact ⟨rfl, HE.out.trans hAx⟩
  have hqu : (upErr M f != 0) = false := by simp [hu]
  have hA4 : Ext w4 (w4.alloc (.cells #[.int .i64 (upM M f).worlds, .slice va4 (upM M f).val.length vc4, .slice ra4 (upM M f).rel.length rc4] 25)) := (Ext.refl _).alloc _
  have hbx4 := MoBox.new w4 (upM M f).worlds (upM M f).val (upM M f).rel va4 vc4 ra4 rc4 25
  obtain ⟨n0, n1, n2⟩ := hbx4
  dsimp only at n0 n1 n2
  obtain ⟨N, ok, ok2, -, -, hlt, hle, hrq⟩ := up_ok hu
  have h64 := ok.most
  have HS2 : Hid (reqErr (upM M f) g ≠ 0 → upErr (upM M f) g = reqErr (upM M f) g) := Lib.hid fun h => if_pos h
  have HSEQ := Lib.hid (seq_two (g := g) hM hu)
  have HMER := Lib.hid (merge_law (f := f) (g := g) hu)
  have hlu := natI_len (upL M f)
  have HLT : Hid (∀ k, k < (upL M f).length → nth (upL M f) k < 64) := Lib.hid fun k hk => by have := hlt k hk; omega
  have hl64 : (upL M f).length ≤ 64 := by omega
  clear ok ok2 hrq hlt hle hu
  go_wp2_with fail
  generalize w4.alloc (.cells #[.int .i64 (upM M f).worlds, .slice va4 (upM M f).val.length vc4, .slice ra4 (upM M f).rel.length rc4] 25) = w5 at *
  have hX5 := hX4.trans hA4
  refine (holds_any (upM M f) va4 ra4 vc4 rc4 ga gc g _ (hr4.1.ext2 hA4) (HG.out.ext hX5)).mono ?_
  rintro _ w6 ⟨rfl, hE6⟩
  dsimp only
  have hX6 := hX5.trans hE6
  have HIu := Lib.hid hr4.2
  clear n0 n1 n2 hr4
  obtain ⟨m0, m1, m2⟩ := HBX.out.ext hX6
  dsimp only at m0 m1 m2
  have hAL : Ext w6 (w6.alloc (.cells #[.slice fa f.length fc, .slice ga g.length gc] 26)) := (Ext.refl _).alloc _
  have hsq := sequence_any M va ra vc rc (some ⟨w6.heap.size, 0, none⟩) 2 [f, g] _ (HM.out.ext (hX6.trans hAL)) (RNN.two w6 fa ga fc gc f g 26 (HF.out.ext hX6) (HG.out.ext hX6)) (HT.out.ext (hX6.trans hAL))
  rw [HSEQ.out] at hsq
  have HSQ := Lib.hid hsq
  have hbm := World.block_lt_of_cell? w6 _ m0
  clear hsq
  go_wp2_with fail
  by_cases hg : reqErr (upM M f) g = 0
  rotate_left
  · have hq1 : (reqErr (upM M f) g != 0) = true := by simpa using hg
    have hue := HS2.out hg
    have hq2 : (reqErr (upM M f) g == reqErr (upM M f) g) = true := by simp
    rw [if_pos (by rw [hue]; exact hg), hue] at HSQ
    refine HSQ.out.mono ?_
    rintro _ w7 ⟨va7, ra7, la7, vc7, rc7, lc7, rfl, hm7, hE7⟩
    dsimp only
    have hEnd := HE.out.trans ((hX6.trans hAL).trans (hE7.alloc (.cells #[.int .i64 0, .slice va7 0 vc7, .slice ra7 0 rc7] 25)))
    clear m0 m1 m2 hue hg hbm
    go_wp2_with fail
    go_ret
    exact ⟨by first | rfl | simp, hEnd⟩
  have hq1 : (reqErr (upM M f) g != 0) = false := by simp [hg]
  obtain ⟨hz, hnz⟩ := HMER.out hg
  have HZ := Lib.hid hz
  have HNZ := Lib.hid hnz
  clear hz hnz
  by_cases h0 : gatS (holdsOf (upM M f) g) (upL M f) (upL M f).length = 0#64
  · have hue := HZ.out h0
    rw [if_pos (by rw [hue]; decide), hue] at HSQ
    have hq5 : (gatS (holdsOf (upM M f) g) (upL M f) (upL M f).length == 0#64) = true := by simp [h0]
    clear hue h0 HZ HNZ
    refine HSQ.out.mono ?_
    rintro _ w7 ⟨va7, ra7, la7, vc7, rc7, lc7, rfl, hm7, hE7⟩
    dsimp only
    clear m0 m1 m2 hm7 hbm
    have hE8 := hAL.trans (hE7.alloc (.cells #[.int .i64 0, .slice va7 0 vc7, .slice ra7 0 rc7] 25))
    have HI8 := Lib.hid (HIu.out.ext (hA4.trans (hE6.trans hE8)))
    have HEnd := Lib.hid (HE.out.trans (hX6.trans hE8))
    clear hE8
    go_wp2_with fail
    go_loop [16, 79] (fun sv i => ∃ k : Nat, k ≤ (upL M f).length ∧ i = .int .i64 (k : Int) ∧ sv = .int .u64 (un (gatS (holdsOf (upM M f) g) (upL M f) k))) (fun _ i => (upL M f).length - (intOf i).toNat)
    case atStart => exact ⟨0, Nat.zero_le _, rfl, rfl⟩
    case round =>
      obtain ⟨k, hk, rfl, rfl⟩ := hrel
      by_cases hkl : k < (upL M f).length
      · obtain ⟨b, off, rfl, hb, hc⟩ := HI8.out.get (k := k) (by omega)
        rw [nth_natI hkl] at hc
        have hw64 := HLT.out k hkl
        have hd1 : decide (((nth (upL M f) k : Nat) : Int) < 0) = false := by simp
        have hd2 : decide (((nth (upL M f) k : Nat) : Int) > 63) = false := by simp; omega
        have hd2b : decide ((63 : Int) < ((nth (upL M f) k : Nat) : Int)) = false := by simp; omega
        have hd3 : decide ((k : Int) > 63) = false := by simp; omega
        have hd3b : decide ((63 : Int) < (k : Int)) = false := by simp; omega
        go_wp2
        go_round
        case rel => exact ⟨k + 1, hkl, by go_num, rfl⟩
        case measure => simp [intOf]; omega
      · have hkk : k = (upL M f).length := by omega
        rw [hkk]
        clear hkl hk hkk
        go_wp2_with fail
        go_ret
        exact ⟨by first | rfl | simp, HEnd.out⟩
  · obtain ⟨hue, r1, r2, r3⟩ := HNZ.out h0
    rw [if_neg (by rw [hue]; simp)] at HSQ
    have hq5 : (gatS (holdsOf (upM M f) g) (upL M f) (upL M f).length == 0#64) = false := by simpa using h0
    have HRS : Hid (∀ w, RM w va ra M → Tab w → Calls Tryd.prog 19 #[.agg #[.int .i64 M.worlds, .slice va M.val.length vc, .slice ra M.rel.length rc], .int .u64 (un (gatS (holdsOf (upM M f) g) (upL M f) (upL M f).length))] w fun e w' => RetR (upM (upM M f) g) (natI (thr (upL M f) (upL (upM M f) g))) 0 e w w') := Lib.hid fun w h h2 => by
      have := restrict_any M va ra vc rc (gatS (holdsOf (upM M f) g) (upL M f) (upL M f).length) w h h2
      rw [r1, r2, r3] at this; exact this
    clear hue h0 HZ HNZ r1 r2 r3
    have hlt2 := natI_len (thr (upL M f) (upL (upM M f) g))
    clear HMER HSEQ HS2
    generalize upM (upM M f) g = B at *
    generalize thr (upL M f) (upL (upM M f) g) = lb at *
    refine HSQ.out.mono ?_
    rintro _ w7 ⟨va7, ra7, la7, vc7, rc7, lc7, rfl, hm7, hE7⟩
    dsimp only
    have hr7 := hm7 w7 (fun _ _ _ => rfl)
    clear m0 m1 m2 hm7 hbm
    have hA7 : Ext w7 (w7.alloc (.cells #[.int .i64 (B).worlds, .slice va7 (B).val.length vc7, .slice ra7 (B).rel.length rc7] 25)) := (Ext.refl _).alloc _
    have hbx7 := MoBox.new w7 (B).worlds (B).val (B).rel va7 vc7 ra7 rc7 25
    have hE8 := hAL.trans (hE7.trans hA7)
    have HI8 := Lib.hid (HIu.out.ext (hA4.trans (hE6.trans hE8)))
    have hX8 := hX6.trans hE8
    have HBB := Lib.hid hbx7
    have HR7 := Lib.hid hr7
    clear hE8 hbx7 hr7
    go_wp2_with fail
    generalize w7.alloc (.cells #[.int .i64 (B).worlds, .slice va7 (B).val.length vc7, .slice ra7 (B).rel.length rc7] 25) = w8 at *
    go_loop [16, 79] (fun sv i => ∃ k : Nat, k ≤ (upL M f).length ∧ i = .int .i64 (k : Int) ∧ sv = .int .u64 (un (gatS (holdsOf (upM M f) g) (upL M f) k))) (fun _ i => (upL M f).length - (intOf i).toNat)
    case atStart => exact ⟨0, Nat.zero_le _, rfl, rfl⟩
    case round =>
      obtain ⟨k, hk, rfl, rfl⟩ := hrel
      by_cases hkl : k < (upL M f).length
      · obtain ⟨b, off, rfl, hb, hc⟩ := HI8.out.get (k := k) (by omega)
        rw [nth_natI hkl] at hc
        have hw64 := HLT.out k hkl
        have hd1 : decide (((nth (upL M f) k : Nat) : Int) < 0) = false := by simp
        have hd2 : decide (((nth (upL M f) k : Nat) : Int) > 63) = false := by simp; omega
        have hd2b : decide ((63 : Int) < ((nth (upL M f) k : Nat) : Int)) = false := by simp; omega
        have hd3 : decide ((k : Int) > 63) = false := by simp; omega
        have hd3b : decide ((63 : Int) < (k : Int)) = false := by simp; omega
        go_wp2
        go_round
        case rel => exact ⟨k + 1, hkl, by go_num, rfl⟩
        case measure => simp [intOf]; omega
      · have hkk : k = (upL M f).length := by omega
        rw [hkk]
        clear hkl hk hkk
        obtain ⟨m0, m1, m2⟩ := HBX.out.ext hX8
        dsimp only at m0 m1 m2
        go_wp2_with fail
        refine (HRS.out _ (HM.out.ext hX8) (HT.out.ext hX8)).mono ?_
        rintro _ w9 ⟨va9, ra9, la9, vc9, rc9, lc9, rfl, hm9, hE9⟩
        rw [hlt2]
        dsimp only
        have hr9 := hm9 w9 (fun _ _ _ => rfl)
        clear m0 m1 m2 hm9
        have hA9 : Ext w9 (w9.alloc (.cells #[.int .i64 (B).worlds, .slice va9 (B).val.length vc9, .slice ra9 (B).rel.length rc9] 25)) := (Ext.refl _).alloc _
        have hbx9 := MoBox.new w9 (B).worlds (B).val (B).rel va9 vc9 ra9 rc9 25
        obtain ⟨a0, a1, a2⟩ := HBB.out.ext hE9
        dsimp only at a0 a1 a2
        have hba := World.block_lt_of_cell? w9 _ a0
        go_wp2_with fail
        generalize w9.alloc (.cells #[.int .i64 (B).worlds, .slice va9 (B).val.length vc9, .slice ra9 (B).rel.length rc9] 25) = w10 at *
        refine (sameM_any B va7 ra7 va9 ra9 vc7 rc7 vc9 rc9 _ (HR7.out.1.ext2 (hA7.trans (hE9.trans hA9))) (hr9.1.ext2 hA9)).mono ?_
        rintro _ w11 ⟨rfl, hE11⟩
        dsimp only
        go_wp2_with fail
        have hs := same25_any (natI lb) la7 la9 lc7 lc9 w11 (HR7.out.2.ext (hA7.trans (hE9.trans (hA9.trans hE11)))) (hr9.2.ext (hA9.trans hE11))
        rw [hlt2] at hs
        refine hs.mono ?_
        rintro _ w12 ⟨rfl, hE12⟩
        dsimp only
        go_wp2_with fail
        go_ret
        exact ⟨rfl, HE.out.trans (hX8.trans (hE9.trans (hA9.trans (hE11.trans hE12))))⟩
end Wt

/- The law AnnounceMerges returns true at every input, and its arguments read behind the call as they did before; the library's table of TrailingZeros64 lies as the program's text lays it: the tied card. No other condition. -/
namespace Go.Proofs.YticoljmflljghaaDoor
open Go.ChangeShapes Go.WideShapes Go.ChangeAt Go.WideMaps Go.WideElems Go.RowKit

theorem own : ownKnob Tryd.prog.godebug = none := by kernel_rfl
theorem laidOut : laidOutB Tryd.prog = true := by kernel_rfl
theorem door_met (os : Os) (args : Array Value) : laidMetH Tryd.prog [("math/bits.deBruijn64tab", Rows.laid_math_bits_deBruijn64tab)] ((World.doorLaid Tryd.prog 400 os).forCall (fun _ _ => 0) ⟨#[], args, []⟩).memory := by
  rw [MakeChecks.laidMetH_plain _ _ _ (by kernel_rfl)]
  exact laidMet_of_run' 8 (by kernel_rfl) (by kernel_rfl)
set_option maxRecDepth 100000 in
set_option maxHeartbeats 1000000 in
theorem law_lifted (os : Os) (started : os.Started) (H : Type) (enc : TypeId × Value → H) :
    ReturnsInHanded {} Tryd.checked os 4 .any (fun w args => (Rows.announceMergesSpec.pre enc Tryd.prog Tryd.f4 Rows.announceMergesRow.domain false w args ∧ laidMetH Tryd.prog [("math/bits.deBruijn64tab", Rows.laid_math_bits_deBruijn64tab)] w) ∧ sizedMet enc Tryd.prog Tryd.f4 (OpenSpec.ofChange Rows.announceMergesSpec) false w args)
      (Rows.announceMergesSpec.post enc Tryd.prog Tryd.f4 false true false false) := by
  refine returnsInHanded_of_change_and (C := Tryd.checked) (X := fun w _ => laidMetH Tryd.prog [("math/bits.deBruijn64tab", Rows.laid_math_bits_deBruijn64tab)] w) (fun _ _ _ hh h => h.of_heap hh) own started (by kernel_rfl) Tryd.func4
    (ChangeSpec.witness_shaped (enc := enc) (C := Tryd.checked) (os := os) (X := fun w _ => laidMetH Tryd.prog [("math/bits.deBruijn64tab", Rows.laid_math_bits_deBruijn64tab)] w) false (World.doorLaid Tryd.prog 400 os) #[.agg #[.int .i64 0, .slice none 0 0, .slice none 0 0], .slice none 0 0, .slice none 0 0] 8 rfl (World.shaped_of_RefB (by kernel_rfl) (by kernel_rfl)) (by kernel_rfl) (by kernel_rfl) (by kernel_rfl) (door_met os _)) ?_
  intro W base args ds gs before hval0 hW _ hsz0 hL _
  have hT := of_laid hL
  have hval : ∀ (j : Nat) t v, Tryd.f4.params[j]? = some t → args[j]? = some v → Value.okWide Tryd.prog W .any base t v := hval0
  have hsz : (DataW.weightsEach Tryd.prog (Tryd.f4.params.toList ++ Rows.announceMergesSpec.plain.varTypes Tryd.prog) (ds ++ gs)).all (· ≤ reachBytes) = true := hsz0
  have hW' := hW
  obtain ⟨p, q, hA0, hV, rfl, hfz, hnd⟩ := hW
  have hA : DataW.TrodAll enc Tryd.prog W 0 (fun _ => true) true Tryd.f4.params.toList args.toList ds p := hA0
  rw [Tryd.params4] at hA hval hsz
  obtain ⟨v0, v1, v2, d0, d1, d2, p0, p1, p2, rfl, rfl, rfl, h0, h1, h2⟩ := trodAll_three hA
  obtain ⟨rfl, rfl⟩ := trodVars_none hV
  have hv0 : Rows.announceMergesSpec.plain.varTypes Tryd.prog = [] := rfl
  rw [hv0] at hsz
  have hz : ∀ n ∈ DataW.weightsEach Tryd.prog [25, 26, 26] [d0, d1, d2], n ≤ reachBytes := fun n hn => by
    have := List.all_eq_true.1 hsz n (by simpa using hn)
    simpa using this
  have k0 := h0
  have k1 := h1
  have k2 := h2
  obtain ⟨M, va, ra, vc, rc, rfl, hm⟩ := Wt.open_mo rfl (hval 0 25 v0 rfl rfl) h0 (fun n hn => hz n (DataW.weights_mem_each (j := 0) rfl rfl n hn))
  obtain ⟨fa, fl, fc, rfl⟩ := okWide_slice Tryd.underlying26 (hval 1 26 v1 rfl rfl)
  obtain ⟨fu, h1'⟩ := h1
  obtain ⟨fa', f, fc', he1, hff⟩ := Wt.open_rn h1' (fun n hn => hz n (DataW.weights_mem_each (j := 1) rfl rfl n hn))
  simp [Value.cells] at he1
  obtain ⟨rfl, rfl, rfl⟩ := he1
  obtain ⟨ta, tn, tc, rfl⟩ := okWide_slice Tryd.underlying26 (hval 2 26 v2 rfl rfl)
  obtain ⟨tu, h2'⟩ := h2
  obtain ⟨ta', tl, tc', he2, hft⟩ := Wt.open_rn h2' (fun n hn => hz n (DataW.weights_mem_each (j := 2) rfl rfl n hn))
  simp [Value.cells] at he2
  obtain ⟨rfl, rfl, rfl⟩ := he2
  have hl0 : ∀ y ∈ p0, y.block < W.heap.size := fun y hy => by simpa using hW'.lt y (by simp [hy])
  have hl1 : ∀ y ∈ p1, y.block < W.heap.size := fun y hy => by simpa using hW'.lt y (by simp [hy])
  have hl2 : ∀ y ∈ p2, y.block < W.heap.size := fun y hy => by simpa using hW'.lt y (by simp [hy])
  refine (Wt.announceMerges_any M va ra vc rc fa fc f ta tc tl W hm hff hft hT).mono fun e W' he => ?_
  obtain ⟨rfl, hE⟩ := he
  have bel : Below W.heap.size W W' := hE
  refine ⟨_, rfl, ⟨_, _, _, [], p0 ++ (p1 ++ p2), [], hW', trodAll_mk1 (shut_bool Tryd.underlying4 true), trodAll_mk3 (Below.trod laidOut (by kernel_rfl) (of_decide_eq_true (by kernel_rfl)) k0 bel hl0) (Below.trod laidOut (by kernel_rfl) (of_decide_eq_true (by kernel_rfl)) k1 bel hl1) (Below.trod laidOut (by kernel_rfl) (of_decide_eq_true (by kernel_rfl)) k2 bel (fun y hy => hl2 y (by simpa using hy))), rfl, bel.frame _, fun h => by cases h⟩⟩
theorem announceMerges_holds : Rows.AnnounceMergesSaid :=
  OpenClaim.holds_of_wide 4 Tryd.f4 rfl rfl rfl rfl rfl rfl rfl ⟨rfl, rfl, rfl, rfl, rfl⟩ rfl rfl rfl rfl rfl (by kernel_rfl) Tryd.func4 (by kernel_rfl)
    (of_decide_eq_true (by kernel_rfl)) (by unfold Func.isWrapper; first | (rw [if_pos (by decide +kernel)]; kernel_rfl) | (rw [if_neg (by decide +kernel)]; exact ⟨rfl, rfl⟩))
    (fun os started H enc _ => law_lifted os started H enc)
theorem announceMerges_card_holds : Rows.AnnounceMergesCardSaid :=
  Claim7.holds_tied_plain_at .later [] [.data] true (true, "bfc9cf39f4916f8cdba97181050ae874bab3cc17f0a05f25e3554b4a33c5c255") false
    announceMerges_holds (fun _ h => by cases h) (by kernel_rfl) (fun _ h => by cases h) announceMerges_row_tie rfl ⟨rfl, rfl⟩ (by kernel_rfl) rfl
    (fun f fn hf hfn => by
      obtain rfl : f = 4 := Option.some.inj ((show Tryd.prog.funcNamed "witting/wittinglaw25.AnnounceMerges" = some 4 by kernel_rfl).symm.trans hf) |>.symm
      obtain rfl : fn = Tryd.f4 := (Option.some.inj (Tryd.func4.symm.trans hfn)).symm
      exact ⟨by kernel_rfl, fun j t ht => by
        rw [Tryd.params4] at ht
        have hm : t ∈ [25, 26, 26] := by simpa using Array.mem_of_getElem? ht
        have hall : ([25, 26, 26].all fun u => !Tryd.prog.wantsStandIn u) = true := by kernel_rfl
        exact (show Tryd.prog.wantsStandIn t = false by simpa using List.all_eq_true.1 hall t hm)⟩)
    (by kernel_rfl)
#print axioms announceMerges_card_holds
end Go.Proofs.YticoljmflljghaaDoor
