/- The walk of CheckerAxioms. -/
import Derived.Test.YtdnpgadkklgjeaaAxP
namespace Wt
open Go Go.RowKit Go.Maps Go.Proofs Fm

set_option maxRecDepth 20000 in
set_option maxHeartbeats 8000000 in
theorem checkerAxioms_any (M : Mo) (va ra : Option Addr) (vc rc : Nat) (fa : Option Addr) (fc : Nat) (f : List Nd) (ha : Option Addr) (hc : Nat) (h : List Nd) (w : World) (hm : RM w va ra M) (hf : RN w fa f) (hh : RN w ha h) :
    Calls Try.prog 8 #[.agg #[.int .i64 M.worlds, .slice va M.val.length vc, .slice ra M.rel.length rc], .slice fa f.length fc, .slice ha h.length hc] w fun e w' => e = .returned (.bool true) ∧ Ext w w' := by
  have hE0 := (Ext.refl w).alloc (.cells #[.int .i64 M.worlds, .slice va M.val.length vc, .slice ra M.rel.length rc] 25)
  have hbx := MoBox.new w M.worlds M.val M.rel va vc ra rc 25
  have Hf := Lib.hid (hf.ext hE0)
  have Hh := Lib.hid (hh.ext hE0)
  have HM := Lib.hid (hm.ext hE0)
  have HE := Lib.hid hE0
  have HBX := Lib.hid hbx
  have hrl := hm.rel.len
  clear hm hf hh hE0 hbx
  go_enter Try.func8, Try.ntmps8
  go_wp2_with fail
  refine (awake_any _).mono ?_
  rintro _ w1 ⟨rfl, hX1⟩
  dsimp only
  obtain ⟨m0, m1, m2⟩ := HBX.out.ext hX1
  dsimp only at m0 m1 m2
  go_wp2_with fail
  refine (few_any M va ra vc rc _ 2 [f, h] _ (HM.out.ext (hX1.alloc _)) (RNN.two _ fa ha fc hc f h 26 (Hf.out.ext hX1) (Hh.out.ext hX1))).mono ?_
  rintro _ w2 ⟨b, rfl, hE2, hsm⟩
  dsimp only
  have hX2 := (hX1.alloc (.cells #[.slice fa f.length fc, .slice ha h.length hc] 26)).trans hE2
  cases b
  · go_wp2_with fail
    refine (awake_any _).mono ?_
    rintro _ w3 ⟨rfl, hE3⟩
    dsimp only
    go_wp2_with fail
    go_ret
    exact ⟨rfl, HE.out.trans (hX2.trans hE3)⟩
  have hlf : f.length ≤ 60 := hsm rfl 0 (by simp)
  have hlh : h.length ≤ 60 := hsm rfl 1 (by simp)
  clear hsm m0 m1 m2
  obtain ⟨m0, m1, m2⟩ := HBX.out.ext hX2
  dsimp only at m0 m1 m2
  go_wp2_with fail
  refine (r13Check_any M va ra vc rc _ (HM.out.ext hX2)).mono ?_
  rintro _ w3 ⟨rfl, hE3⟩
  dsimp only
  have hX3 := hX2.trans hE3
  clear m0 m1 m2
  obtain ⟨m0, m1, m2⟩ := HBX.out.ext hX3
  dsimp only at m0 m1 m2
  by_cases hM : moCheck M = 0
  rotate_left
  · have hq : (moCheck M != 0) = true := by simpa using hM
    go_wp2_with fail
    refine (awake_any _).mono ?_
    rintro _ w4 ⟨rfl, hE4⟩
    dsimp only
    go_wp2_with fail
    go_ret
    exact ⟨rfl, HE.out.trans (hX3.trans hE4)⟩
  have hq : (moCheck M != 0) = false := by simp [hM]
  obtain ⟨N, ok⟩ := moCheck_ok hM
  by_cases hR : M.rel.length = 0
  · have hq2 : ((M.rel.length : Int) == 0) = true := by rw [beq_iff_eq]; omega
    go_wp2_with fail
    refine (awake_any _).mono ?_
    rintro _ w4 ⟨rfl, hE4⟩
    dsimp only
    go_wp2_with fail
    go_ret
    exact ⟨rfl, HE.out.trans (hX3.trans hE4)⟩
  have hq2 : ((M.rel.length : Int) == 0) = false := by rw [beq_eq_false_iff_ne]; omega
  go_wp2_with fail
  refine (set_any M va ra vc rc fa fc f _ (HM.out.ext hX3) (Hf.out.ext hX3)).mono ?_
  rintro _ w4 ⟨rfl, hE4⟩
  dsimp only
  have hX4 := hX3.trans hE4
  clear m0 m1 m2
  obtain ⟨m0, m1, m2⟩ := HBX.out.ext hX4
  dsimp only at m0 m1 m2
  go_wp2_with fail
  refine (set_any M va ra vc rc ha hc h _ (HM.out.ext hX4) (Hh.out.ext hX4)).mono ?_
  rintro _ w5 ⟨rfl, hE5⟩
  dsimp only
  have hX5 := hX4.trans hE5
  clear m0 m1 m2
  obtain ⟨m0, m1, m2⟩ := HBX.out.ext hX5
  dsimp only at m0 m1 m2
  by_cases hq3 : (reqErr M f == 0) = true
  rotate_left
  · have hq3' : (reqErr M f == 0) = false := by simpa using hq3
    go_wp2_with fail
    go_ret
    exact ⟨rfl, HE.out.trans hX5⟩
  by_cases hq4 : (reqErr M h == 0) = true
  rotate_left
  · have hq4' : (reqErr M h == 0) = false := by simpa using hq4
    go_wp2_with fail
    go_ret
    exact ⟨rfl, HE.out.trans hX5⟩
  obtain ⟨_, If, Sf⟩ := set_ok hq3
  obtain ⟨_, Ih, Sh⟩ := set_ok hq4
  have hNt : M.worlds.toNat = N := by rw [ok.worlds]; exact Int.toNat_natCast N
  have hR4 := ok.rel
  have hN64 := ok.most
  have HAX : Hid (∀ a : Nat, a < M.rel.length → Hid (AxF M N a f h)) := Lib.hid fun a ha => Lib.hid (axF ok ha If Ih Sf Sh hlf hlh)
  have HO := Lib.hid ok
  clear If Ih Sf Sh hlf hlh
  go_wp2
  simp only [hq3, hq4, hM]
  go_loopw [65] (fun i wr => ∃ k : Nat, k ≤ M.rel.length ∧ i = .int .i64 (k : Int) ∧ Ext w5 wr) (fun i _ => M.rel.length - (intOf i).toNat)
  case atStart => exact ⟨0, Nat.zero_le _, rfl, Ext.refl _⟩
  case round =>
    obtain ⟨a, hak, rfl, hE6⟩ := hrel
    have hX6 := hX5.trans hE6
    clear m0 m1 m2
    obtain ⟨m0, m1, m2⟩ := HBX.out.ext hX6
    dsimp only at m0 m1 m2
    by_cases hal : a < M.rel.length
    · have F := (HAX.out a hal).out
      go_wp2_with fail
      refine (cKnow_any (a : Int) fa fc f _ (Hf.out.ext hX6)).mono ?_
      rintro _ w7 ⟨ka, kc, rfl, hk, hE7⟩
      dsimp only
      have hX7 := hX6.trans hE7
      clear m0 m1 m2
      obtain ⟨m0, m1, m2⟩ := HBX.out.ext hX7
      dsimp only at m0 m1 m2
      have HK7 : Hid (∀ w', Ext w7 w' → w'.cell? ⟨w.heap.size, 0, none⟩ = some (.int .i64 M.worlds) ∧ w'.cell? ⟨w.heap.size, 1, none⟩ = some (.slice va M.val.length vc) ∧ w'.cell? ⟨w.heap.size, 2, none⟩ = some (.slice ra M.rel.length rc)) := Lib.hid fun w' e => ⟨e.cell m0, e.cell m1, e.cell m2⟩
      have HX7 : Hid (∀ w', Ext w7 w' → Ext (w.alloc (.cells #[.int .i64 M.worlds, .slice va M.val.length vc, .slice ra M.rel.length rc] 25)) w') := Lib.hid fun w' e => hX7.trans e
      clear m0 m1 m2
      go_upto_region 11 with fail
      go_cut [13, 14] from 66 to 190 (fun s13 s14 wc => s13 = .bool true ∧ s14 = .int .i64 0 ∧ Hid (Ext w7 wc))
      case first =>
        go_region_held3 (fun w' => w'.cell? ⟨w.heap.size, 0, none⟩ = some (.int .i64 M.worlds) ∧ w'.cell? ⟨w.heap.size, 1, none⟩ = some (.slice va M.val.length vc) ∧ w'.cell? ⟨w.heap.size, 2, none⟩ = some (.slice ra M.rel.length rc)) (first | exact HK7.out _ (Ext.refl _) | exact HK7.out _ ((Ext.refl _).drew) | exact HK7.out _ (by first | exact Ext.refl _ | exact (Ext.refl _).drew | assumption | (refine Ext.trans ?_ (by assumption); first | exact Ext.refl _ | exact (Ext.refl _).drew | assumption | (refine Ext.trans ?_ (by assumption); first | exact Ext.refl _ | exact (Ext.refl _).drew | assumption | (refine Ext.trans ?_ (by assumption); first | exact Ext.refl _ | exact (Ext.refl _).drew | assumption | (refine Ext.trans ?_ (by assumption); first | exact Ext.refl _ | exact (Ext.refl _).drew | assumption | (refine Ext.trans ?_ (by assumption); first | exact Ext.refl _ | exact (Ext.refl _).drew | assumption | (refine Ext.trans ?_ (by assumption); first | exact Ext.refl _ | exact (Ext.refl _).drew | assumption | (refine Ext.trans ?_ (by assumption); first | exact Ext.refl _ | exact (Ext.refl _).drew | assumption | (refine Ext.trans ?_ (by assumption); first | exact Ext.refl _ | exact (Ext.refl _).drew | assumption))))))))) | go_keep)
          (first | (go_at_call 25; refine (cKnow_any _ _ _ _ _ (by first | assumption | exact Hf.out.ext (HX7.out _ (by first | exact Ext.refl _ | exact (Ext.refl _).drew | assumption | (refine Ext.trans ?_ (by assumption); first | exact Ext.refl _ | exact (Ext.refl _).drew | assumption | (refine Ext.trans ?_ (by assumption); first | exact Ext.refl _ | exact (Ext.refl _).drew | assumption | (refine Ext.trans ?_ (by assumption); first | exact Ext.refl _ | exact (Ext.refl _).drew | assumption | (refine Ext.trans ?_ (by assumption); first | exact Ext.refl _ | exact (Ext.refl _).drew | assumption | (refine Ext.trans ?_ (by assumption); first | exact Ext.refl _ | exact (Ext.refl _).drew | assumption | (refine Ext.trans ?_ (by assumption); first | exact Ext.refl _ | exact (Ext.refl _).drew | assumption | (refine Ext.trans ?_ (by assumption); first | exact Ext.refl _ | exact (Ext.refl _).drew | assumption | (refine Ext.trans ?_ (by assumption); first | exact Ext.refl _ | exact (Ext.refl _).drew | assumption)))))))))) | exact Hh.out.ext (HX7.out _ (by first | exact Ext.refl _ | exact (Ext.refl _).drew | assumption | (refine Ext.trans ?_ (by assumption); first | exact Ext.refl _ | exact (Ext.refl _).drew | assumption | (refine Ext.trans ?_ (by assumption); first | exact Ext.refl _ | exact (Ext.refl _).drew | assumption | (refine Ext.trans ?_ (by assumption); first | exact Ext.refl _ | exact (Ext.refl _).drew | assumption | (refine Ext.trans ?_ (by assumption); first | exact Ext.refl _ | exact (Ext.refl _).drew | assumption | (refine Ext.trans ?_ (by assumption); first | exact Ext.refl _ | exact (Ext.refl _).drew | assumption | (refine Ext.trans ?_ (by assumption); first | exact Ext.refl _ | exact (Ext.refl _).drew | assumption | (refine Ext.trans ?_ (by assumption); first | exact Ext.refl _ | exact (Ext.refl _).drew | assumption | (refine Ext.trans ?_ (by assumption); first | exact Ext.refl _ | exact (Ext.refl _).drew | assumption)))))))))) | (apply RN.ext; rotate_left; assumption; exact (by first | exact Ext.refl _ | exact (Ext.refl _).drew | assumption | (refine Ext.trans ?_ (by assumption); first | exact Ext.refl _ | exact (Ext.refl _).drew | assumption | (refine Ext.trans ?_ (by assumption); first | exact Ext.refl _ | exact (Ext.refl _).drew | assumption | (refine Ext.trans ?_ (by assumption); first | exact Ext.refl _ | exact (Ext.refl _).drew | assumption | (refine Ext.trans ?_ (by assumption); first | exact Ext.refl _ | exact (Ext.refl _).drew | assumption | (refine Ext.trans ?_ (by assumption); first | exact Ext.refl _ | exact (Ext.refl _).drew | assumption | (refine Ext.trans ?_ (by assumption); first | exact Ext.refl _ | exact (Ext.refl _).drew | assumption | (refine Ext.trans ?_ (by assumption); first | exact Ext.refl _ | exact (Ext.refl _).drew | assumption | (refine Ext.trans ?_ (by assumption); first | exact Ext.refl _ | exact (Ext.refl _).drew | assumption)))))))))))).mono ?_; rintro _ wa ⟨la, lc, rfl, hr, hY⟩) | (go_at_call 30; refine (cImp_any _ _ _ _ _ _ _ (by first | assumption | exact Hf.out.ext (HX7.out _ (by first | exact Ext.refl _ | exact (Ext.refl _).drew | assumption | (refine Ext.trans ?_ (by assumption); first | exact Ext.refl _ | exact (Ext.refl _).drew | assumption | (refine Ext.trans ?_ (by assumption); first | exact Ext.refl _ | exact (Ext.refl _).drew | assumption | (refine Ext.trans ?_ (by assumption); first | exact Ext.refl _ | exact (Ext.refl _).drew | assumption | (refine Ext.trans ?_ (by assumption); first | exact Ext.refl _ | exact (Ext.refl _).drew | assumption | (refine Ext.trans ?_ (by assumption); first | exact Ext.refl _ | exact (Ext.refl _).drew | assumption | (refine Ext.trans ?_ (by assumption); first | exact Ext.refl _ | exact (Ext.refl _).drew | assumption | (refine Ext.trans ?_ (by assumption); first | exact Ext.refl _ | exact (Ext.refl _).drew | assumption | (refine Ext.trans ?_ (by assumption); first | exact Ext.refl _ | exact (Ext.refl _).drew | assumption)))))))))) | exact Hh.out.ext (HX7.out _ (by first | exact Ext.refl _ | exact (Ext.refl _).drew | assumption | (refine Ext.trans ?_ (by assumption); first | exact Ext.refl _ | exact (Ext.refl _).drew | assumption | (refine Ext.trans ?_ (by assumption); first | exact Ext.refl _ | exact (Ext.refl _).drew | assumption | (refine Ext.trans ?_ (by assumption); first | exact Ext.refl _ | exact (Ext.refl _).drew | assumption | (refine Ext.trans ?_ (by assumption); first | exact Ext.refl _ | exact (Ext.refl _).drew | assumption | (refine Ext.trans ?_ (by assumption); first | exact Ext.refl _ | exact (Ext.refl _).drew | assumption | (refine Ext.trans ?_ (by assumption); first | exact Ext.refl _ | exact (Ext.refl _).drew | assumption | (refine Ext.trans ?_ (by assumption); first | exact Ext.refl _ | exact (Ext.refl _).drew | assumption | (refine Ext.trans ?_ (by assumption); first | exact Ext.refl _ | exact (Ext.refl _).drew | assumption)))))))))) | (apply RN.ext; rotate_left; assumption; exact (by first | exact Ext.refl _ | exact (Ext.refl _).drew | assumption | (refine Ext.trans ?_ (by assumption); first | exact Ext.refl _ | exact (Ext.refl _).drew | assumption | (refine Ext.trans ?_ (by assumption); first | exact Ext.refl _ | exact (Ext.refl _).drew | assumption | (refine Ext.trans ?_ (by assumption); first | exact Ext.refl _ | exact (Ext.refl _).drew | assumption | (refine Ext.trans ?_ (by assumption); first | exact Ext.refl _ | exact (Ext.refl _).drew | assumption | (refine Ext.trans ?_ (by assumption); first | exact Ext.refl _ | exact (Ext.refl _).drew | assumption | (refine Ext.trans ?_ (by assumption); first | exact Ext.refl _ | exact (Ext.refl _).drew | assumption | (refine Ext.trans ?_ (by assumption); first | exact Ext.refl _ | exact (Ext.refl _).drew | assumption | (refine Ext.trans ?_ (by assumption); first | exact Ext.refl _ | exact (Ext.refl _).drew | assumption))))))))))) (by first | assumption | exact Hf.out.ext (HX7.out _ (by first | exact Ext.refl _ | exact (Ext.refl _).drew | assumption | (refine Ext.trans ?_ (by assumption); first | exact Ext.refl _ | exact (Ext.refl _).drew | assumption | (refine Ext.trans ?_ (by assumption); first | exact Ext.refl _ | exact (Ext.refl _).drew | assumption | (refine Ext.trans ?_ (by assumption); first | exact Ext.refl _ | exact (Ext.refl _).drew | assumption | (refine Ext.trans ?_ (by assumption); first | exact Ext.refl _ | exact (Ext.refl _).drew | assumption | (refine Ext.trans ?_ (by assumption); first | exact Ext.refl _ | exact (Ext.refl _).drew | assumption | (refine Ext.trans ?_ (by assumption); first | exact Ext.refl _ | exact (Ext.refl _).drew | assumption | (refine Ext.trans ?_ (by assumption); first | exact Ext.refl _ | exact (Ext.refl _).drew | assumption | (refine Ext.trans ?_ (by assumption); first | exact Ext.refl _ | exact (Ext.refl _).drew | assumption)))))))))) | exact Hh.out.ext (HX7.out _ (by first | exact Ext.refl _ | exact (Ext.refl _).drew | assumption | (refine Ext.trans ?_ (by assumption); first | exact Ext.refl _ | exact (Ext.refl _).drew | assumption | (refine Ext.trans ?_ (by assumption); first | exact Ext.refl _ | exact (Ext.refl _).drew | assumption | (refine Ext.trans ?_ (by assumption); first | exact Ext.refl _ | exact (Ext.refl _).drew | assumption | (refine Ext.trans ?_ (by assumption); first | exact Ext.refl _ | exact (Ext.refl _).drew | assumption | (refine Ext.trans ?_ (by assumption); first | exact Ext.refl _ | exact (Ext.refl _).drew | assumption | (refine Ext.trans ?_ (by assumption); first | exact Ext.refl _ | exact (Ext.refl _).drew | assumption | (refine Ext.trans ?_ (by assumption); first | exact Ext.refl _ | exact (Ext.refl _).drew | assumption | (refine Ext.trans ?_ (by assumption); first | exact Ext.refl _ | exact (Ext.refl _).drew | assumption)))))))))) | (apply RN.ext; rotate_left; assumption; exact (by first | exact Ext.refl _ | exact (Ext.refl _).drew | assumption | (refine Ext.trans ?_ (by assumption); first | exact Ext.refl _ | exact (Ext.refl _).drew | assumption | (refine Ext.trans ?_ (by assumption); first | exact Ext.refl _ | exact (Ext.refl _).drew | assumption | (refine Ext.trans ?_ (by assumption); first | exact Ext.refl _ | exact (Ext.refl _).drew | assumption | (refine Ext.trans ?_ (by assumption); first | exact Ext.refl _ | exact (Ext.refl _).drew | assumption | (refine Ext.trans ?_ (by assumption); first | exact Ext.refl _ | exact (Ext.refl _).drew | assumption | (refine Ext.trans ?_ (by assumption); first | exact Ext.refl _ | exact (Ext.refl _).drew | assumption | (refine Ext.trans ?_ (by assumption); first | exact Ext.refl _ | exact (Ext.refl _).drew | assumption | (refine Ext.trans ?_ (by assumption); first | exact Ext.refl _ | exact (Ext.refl _).drew | assumption)))))))))))).mono ?_; rintro _ wa ⟨la, lc, rfl, hr, hY⟩) | (go_at_call 16; refine (validT hM F.iK.out F.sK.out hNt va ra vc rc _ _ _ (HM.out.ext (HX7.out _ (by first | exact Ext.refl _ | exact (Ext.refl _).drew | assumption | (refine Ext.trans ?_ (by assumption); first | exact Ext.refl _ | exact (Ext.refl _).drew | assumption | (refine Ext.trans ?_ (by assumption); first | exact Ext.refl _ | exact (Ext.refl _).drew | assumption | (refine Ext.trans ?_ (by assumption); first | exact Ext.refl _ | exact (Ext.refl _).drew | assumption | (refine Ext.trans ?_ (by assumption); first | exact Ext.refl _ | exact (Ext.refl _).drew | assumption | (refine Ext.trans ?_ (by assumption); first | exact Ext.refl _ | exact (Ext.refl _).drew | assumption | (refine Ext.trans ?_ (by assumption); first | exact Ext.refl _ | exact (Ext.refl _).drew | assumption | (refine Ext.trans ?_ (by assumption); first | exact Ext.refl _ | exact (Ext.refl _).drew | assumption | (refine Ext.trans ?_ (by assumption); first | exact Ext.refl _ | exact (Ext.refl _).drew | assumption))))))))))) (by first | assumption | exact Hf.out.ext (HX7.out _ (by first | exact Ext.refl _ | exact (Ext.refl _).drew | assumption | (refine Ext.trans ?_ (by assumption); first | exact Ext.refl _ | exact (Ext.refl _).drew | assumption | (refine Ext.trans ?_ (by assumption); first | exact Ext.refl _ | exact (Ext.refl _).drew | assumption | (refine Ext.trans ?_ (by assumption); first | exact Ext.refl _ | exact (Ext.refl _).drew | assumption | (refine Ext.trans ?_ (by assumption); first | exact Ext.refl _ | exact (Ext.refl _).drew | assumption | (refine Ext.trans ?_ (by assumption); first | exact Ext.refl _ | exact (Ext.refl _).drew | assumption | (refine Ext.trans ?_ (by assumption); first | exact Ext.refl _ | exact (Ext.refl _).drew | assumption | (refine Ext.trans ?_ (by assumption); first | exact Ext.refl _ | exact (Ext.refl _).drew | assumption | (refine Ext.trans ?_ (by assumption); first | exact Ext.refl _ | exact (Ext.refl _).drew | assumption)))))))))) | exact Hh.out.ext (HX7.out _ (by first | exact Ext.refl _ | exact (Ext.refl _).drew | assumption | (refine Ext.trans ?_ (by assumption); first | exact Ext.refl _ | exact (Ext.refl _).drew | assumption | (refine Ext.trans ?_ (by assumption); first | exact Ext.refl _ | exact (Ext.refl _).drew | assumption | (refine Ext.trans ?_ (by assumption); first | exact Ext.refl _ | exact (Ext.refl _).drew | assumption | (refine Ext.trans ?_ (by assumption); first | exact Ext.refl _ | exact (Ext.refl _).drew | assumption | (refine Ext.trans ?_ (by assumption); first | exact Ext.refl _ | exact (Ext.refl _).drew | assumption | (refine Ext.trans ?_ (by assumption); first | exact Ext.refl _ | exact (Ext.refl _).drew | assumption | (refine Ext.trans ?_ (by assumption); first | exact Ext.refl _ | exact (Ext.refl _).drew | assumption | (refine Ext.trans ?_ (by assumption); first | exact Ext.refl _ | exact (Ext.refl _).drew | assumption)))))))))) | (apply RN.ext; rotate_left; assumption; exact (by first | exact Ext.refl _ | exact (Ext.refl _).drew | assumption | (refine Ext.trans ?_ (by assumption); first | exact Ext.refl _ | exact (Ext.refl _).drew | assumption | (refine Ext.trans ?_ (by assumption); first | exact Ext.refl _ | exact (Ext.refl _).drew | assumption | (refine Ext.trans ?_ (by assumption); first | exact Ext.refl _ | exact (Ext.refl _).drew | assumption | (refine Ext.trans ?_ (by assumption); first | exact Ext.refl _ | exact (Ext.refl _).drew | assumption | (refine Ext.trans ?_ (by assumption); first | exact Ext.refl _ | exact (Ext.refl _).drew | assumption | (refine Ext.trans ?_ (by assumption); first | exact Ext.refl _ | exact (Ext.refl _).drew | assumption | (refine Ext.trans ?_ (by assumption); first | exact Ext.refl _ | exact (Ext.refl _).drew | assumption | (refine Ext.trans ?_ (by assumption); first | exact Ext.refl _ | exact (Ext.refl _).drew | assumption)))))))))))).mono ?_; rintro _ wv ⟨rfl, hYv⟩) | fail)
        all_goals
          go_wp2_with fail
          go_meet
          case rel => exact ⟨rfl, rfl, Lib.hid (by first | exact Ext.refl _ | exact (Ext.refl _).drew | assumption | (refine Ext.trans ?_ (by assumption); first | exact Ext.refl _ | exact (Ext.refl _).drew | assumption | (refine Ext.trans ?_ (by assumption); first | exact Ext.refl _ | exact (Ext.refl _).drew | assumption | (refine Ext.trans ?_ (by assumption); first | exact Ext.refl _ | exact (Ext.refl _).drew | assumption | (refine Ext.trans ?_ (by assumption); first | exact Ext.refl _ | exact (Ext.refl _).drew | assumption | (refine Ext.trans ?_ (by assumption); first | exact Ext.refl _ | exact (Ext.refl _).drew | assumption | (refine Ext.trans ?_ (by assumption); first | exact Ext.refl _ | exact (Ext.refl _).drew | assumption | (refine Ext.trans ?_ (by assumption); first | exact Ext.refl _ | exact (Ext.refl _).drew | assumption | (refine Ext.trans ?_ (by assumption); first | exact Ext.refl _ | exact (Ext.refl _).drew | assumption)))))))))⟩
      case rest =>
        obtain ⟨rfl, rfl, hEc⟩ := hcut
        rename World => w8
        have hEc1 := hEc.out
        have hX8 := hX7.trans hEc1
        clear HK7 HX7 hEc
        have HX8 : Hid (∀ w', Ext w8 w' → Ext (w.alloc (.cells #[.int .i64 M.worlds, .slice va M.val.length vc, .slice ra M.rel.length rc] 25)) w') := Lib.hid fun w' e => hX8.trans e
        obtain ⟨m0, m1, m2⟩ := HBX.out.ext hX8
        dsimp only at m0 m1 m2
        obtain ⟨b, off, a', c', rfl, hb, hcq, hu⟩ := ((HM.out.ext hX8).rel).get hal
        have hul : (nth M.rel a).length = N := (row_in HO.out hal).1
        have hN1 := HO.out.one
        have HW := Lib.hid HO.out.worlds
        obtain ⟨b2, off2, rfl, hb2, hc2⟩ := hu.get (k := 0) (by omega)
        have HCELLS : Hid (∀ w', Ext w8 w' → (w'.cell? ⟨w.heap.size, 2, none⟩ = some (.slice (some ⟨b, off, none⟩) M.rel.length rc) ∧ w'.cell? ⟨b, off + a, none⟩ = some (.slice (some ⟨b2, off2, none⟩) (nth M.rel a).length c')) ∧ ∀ j, j < N → w'.cell? ⟨b2, off2 + j, none⟩ = some (.int .u64 (un (nth (nth M.rel a) j)))) := Lib.hid fun w' e => ⟨⟨e.cell m2, e.cell hcq⟩, fun j hj => ru_cell (hu.ext e) (by omega)⟩
        have HM0 : Hid (∀ w', Ext w8 w' → w'.cell? ⟨w.heap.size, 0, none⟩ = some (.int .i64 M.worlds)) := Lib.hid fun w' e => e.cell m0
        clear hb2 hc2 hu
        generalize hr : nth M.rel a = r at *
        go_wp2
        go_loopw [15, 95] (fun e i wq => ∃ j : Nat, j ≤ N ∧ i = .int .i64 (j : Int) ∧ e = .bool (eqO r N j) ∧ Ext w8 wq) (fun _ i _ => N - (intOf i).toNat)
        case atStart => exact ⟨0, Nat.zero_le _, rfl, rfl, Ext.refl _⟩
        case round =>
          obtain ⟨j, hj, rfl, rfl, hEq⟩ := hrel
          clear m0 m1 m2 hcq
          have m0 := HM0.out _ hEq
          obtain ⟨⟨m2, hcq⟩, hrow⟩ := HCELLS.out _ hEq
          have HROW := Lib.hid hrow
          clear hrow
          by_cases hlt : (j : Int) < M.worlds
          · have hjN : j < N := by have := HW.out; omega
            have hcj := HROW.out j hjN
            go_upto_region 18 with fail
            go_cut [15] from 96 to 153 (fun s15 wd => s15 = .bool (eqO r N j && bt (nth r j) j) ∧ wd = wr)
            case first =>
              cases hE0 : eqO r N j
              · go_wp2
                go_meet
                case rel => exact ⟨by simp [hE0], rfl⟩
              · cases hbt : bt (nth r j) j
                · go_wp2
                  go_meet
                  case rel => exact ⟨by simp [hE0, hbt], rfl⟩
                · go_wp2
                  go_meet
                  case rel => exact ⟨by simp [hE0, hbt], rfl⟩
            case rest =>
              obtain ⟨rfl, rfl⟩ := hcut
              generalize hE1 : (eqO r N j && bt (nth r j) j) = E1
              have HE1 := Lib.hid hE1
              clear hE1
              go_wp2
              go_loopw [15, 115] (fun e i wz => ∃ x : Nat, x ≤ N ∧ i = .int .i64 (x : Int) ∧ e = .bool (E1 && eqI r j x) ∧ Ext w8 wz) (fun _ i _ => N - (intOf i).toNat)
              case atStart => exact ⟨0, Nat.zero_le _, rfl, by simp [eqI, allQ], hEq⟩
              case round =>
                obtain ⟨x, hx, rfl, rfl, hEz⟩ := hrel
                clear m0 m2 hcq hcj
                have m0 := HM0.out _ hEz
                by_cases hlx : (x : Int) < M.worlds
                · have hxN : x < N := by have := HW.out; omega
                  have hst : (E1 && eqI r j (x + 1)) = ((E1 && eqI r j x) && (!bt (nth r j) x || (nth r j == nth r x))) := by show (E1 && (eqI r j x && _)) = _; rw [Bool.and_assoc]
                  have HST := Lib.hid hst
                  clear hst
                  have HS : Hid (∀ w', Ext w8 w' → w'.cell? ⟨w.heap.size, 2, none⟩ = some (.slice (some ⟨b, off, none⟩) M.rel.length rc) ∧ w'.cell? ⟨b, off + a, none⟩ = some (.slice (some ⟨b2, off2, none⟩) r.length c') ∧ w'.cell? ⟨b2, off2 + j, none⟩ = some (.int .u64 (un (nth r j))) ∧ w'.cell? ⟨b2, off2 + x, none⟩ = some (.int .u64 (un (nth r x)))) := Lib.hid fun w' e => by
                    obtain ⟨⟨q1, q2⟩, q3⟩ := HCELLS.out w' e
                    exact ⟨q1, q2, q3 j hjN, q3 x hxN⟩
                  have hjl : (j : Int) < (r.length : Int) := by omega
                  have hxl : (x : Int) < (r.length : Int) := by omega
                  have hj0 : (0 : Int) ≤ (j : Int) := by omega
                  have hjn : (j : Int) < (N : Int) := by omega
                  have hxn : (x : Int) < (N : Int) := by omega
                  have hai : (a : Int) < (M.rel.length : Int) := by omega
                  have ha0 : (0 : Int) ≤ (a : Int) := by omega
                  have hx0 : (0 : Int) ≤ (x : Int) := by omega
                  obtain ⟨q1, q2, q3, q4⟩ := HS.out _ hEz
                  cases hB : (E1 && eqI r j x)
                  · go_wp2_with fail
                    go_quiet (fail)
                    go_wp2
                    go_roundw
                    case rel => exact ⟨x + 1, hxN, by go_num, by rw [HST.out, hB]; rfl, by first | exact hEz | exact hEz.drew | exact hEz.drewN _⟩
                    case measure => simp [intOf]; omega
                  · cases hbt : bt (nth r j) x
                    · go_wp2_with fail
                      go_quiet (fail)
                      go_wp2
                      go_roundw
                      case rel => exact ⟨x + 1, hxN, by go_num, by rw [HST.out, hB, hbt]; rfl, by first | exact hEz | exact hEz.drew | exact hEz.drewN _⟩
                      case measure => simp [intOf]; omega
                    · cases heq : (nth r j == nth r x)
                      · go_wp2_with fail
                        go_quiet (fail)
                        go_wp2
                        go_roundw
                        case rel => exact ⟨x + 1, hxN, by go_num, by rw [HST.out, hB, hbt, heq]; rfl, by first | exact hEz | exact hEz.drew | exact hEz.drewN _⟩
                        case measure => simp [intOf]; omega
                      · go_wp2_with fail
                        go_quiet (fail)
                        go_wp2
                        go_roundw
                        case rel => exact ⟨x + 1, hxN, by go_num, by rw [HST.out, hB, hbt, heq]; rfl, by first | exact hEz | exact hEz.drew | exact hEz.drewN _⟩
                        case measure => simp [intOf]; omega
                · obtain rfl : x = N := by have := HW.out; omega
                  have hst : (E1 && eqI r j x) = eqO r x (j + 1) := by rw [← HE1.out]; show _ = (eqO r x j && (bt (nth r j) j && eqI r j x)); rw [Bool.and_assoc]
                  go_wp2
                  go_roundw
                  case rel => exact ⟨j + 1, hjN, by go_num, by rw [hst], hEz⟩
                  case measure => simp [intOf]; omega
          · obtain rfl : j = N := by have := HW.out; omega
            cases hEE : eqO r j j
            · go_wp2
              go_roundw
              case rel => exact ⟨a + 1, hal, by go_num, hE6.trans (hE7.trans (hEc1.trans hEq))⟩
              case measure => simp [intOf]; omega
            · obtain ⟨sT, s4, s5⟩ := F.sE.out (by rw [hr]; exact hEE)
              have HT := Lib.hid sT
              have H4 := Lib.hid s4
              have H5 := Lib.hid s5
              clear sT s4 s5
              go_wp2_with fail
              refine (cImp_any _ _ _ _ _ _ _ (by first | assumption | exact Hf.out.ext (HX8.out _ (by first | exact Ext.refl _ | exact (Ext.refl _).drew | assumption | (refine Ext.trans ?_ (by assumption); first | exact Ext.refl _ | exact (Ext.refl _).drew | assumption | (refine Ext.trans ?_ (by assumption); first | exact Ext.refl _ | exact (Ext.refl _).drew | assumption | (refine Ext.trans ?_ (by assumption); first | exact Ext.refl _ | exact (Ext.refl _).drew | assumption | (refine Ext.trans ?_ (by assumption); first | exact Ext.refl _ | exact (Ext.refl _).drew | assumption | (refine Ext.trans ?_ (by assumption); first | exact Ext.refl _ | exact (Ext.refl _).drew | assumption | (refine Ext.trans ?_ (by assumption); first | exact Ext.refl _ | exact (Ext.refl _).drew | assumption | (refine Ext.trans ?_ (by assumption); first | exact Ext.refl _ | exact (Ext.refl _).drew | assumption | (refine Ext.trans ?_ (by assumption); first | exact Ext.refl _ | exact (Ext.refl _).drew | assumption)))))))))) | exact Hh.out.ext (HX8.out _ (by first | exact Ext.refl _ | exact (Ext.refl _).drew | assumption | (refine Ext.trans ?_ (by assumption); first | exact Ext.refl _ | exact (Ext.refl _).drew | assumption | (refine Ext.trans ?_ (by assumption); first | exact Ext.refl _ | exact (Ext.refl _).drew | assumption | (refine Ext.trans ?_ (by assumption); first | exact Ext.refl _ | exact (Ext.refl _).drew | assumption | (refine Ext.trans ?_ (by assumption); first | exact Ext.refl _ | exact (Ext.refl _).drew | assumption | (refine Ext.trans ?_ (by assumption); first | exact Ext.refl _ | exact (Ext.refl _).drew | assumption | (refine Ext.trans ?_ (by assumption); first | exact Ext.refl _ | exact (Ext.refl _).drew | assumption | (refine Ext.trans ?_ (by assumption); first | exact Ext.refl _ | exact (Ext.refl _).drew | assumption | (refine Ext.trans ?_ (by assumption); first | exact Ext.refl _ | exact (Ext.refl _).drew | assumption)))))))))) | (apply RN.ext; rotate_left; assumption; exact (by first | exact Ext.refl _ | exact (Ext.refl _).drew | assumption | (refine Ext.trans ?_ (by assumption); first | exact Ext.refl _ | exact (Ext.refl _).drew | assumption | (refine Ext.trans ?_ (by assumption); first | exact Ext.refl _ | exact (Ext.refl _).drew | assumption | (refine Ext.trans ?_ (by assumption); first | exact Ext.refl _ | exact (Ext.refl _).drew | assumption | (refine Ext.trans ?_ (by assumption); first | exact Ext.refl _ | exact (Ext.refl _).drew | assumption | (refine Ext.trans ?_ (by assumption); first | exact Ext.refl _ | exact (Ext.refl _).drew | assumption | (refine Ext.trans ?_ (by assumption); first | exact Ext.refl _ | exact (Ext.refl _).drew | assumption | (refine Ext.trans ?_ (by assumption); first | exact Ext.refl _ | exact (Ext.refl _).drew | assumption | (refine Ext.trans ?_ (by assumption); first | exact Ext.refl _ | exact (Ext.refl _).drew | assumption))))))))))) (by first | assumption | exact Hf.out.ext (HX8.out _ (by first | exact Ext.refl _ | exact (Ext.refl _).drew | assumption | (refine Ext.trans ?_ (by assumption); first | exact Ext.refl _ | exact (Ext.refl _).drew | assumption | (refine Ext.trans ?_ (by assumption); first | exact Ext.refl _ | exact (Ext.refl _).drew | assumption | (refine Ext.trans ?_ (by assumption); first | exact Ext.refl _ | exact (Ext.refl _).drew | assumption | (refine Ext.trans ?_ (by assumption); first | exact Ext.refl _ | exact (Ext.refl _).drew | assumption | (refine Ext.trans ?_ (by assumption); first | exact Ext.refl _ | exact (Ext.refl _).drew | assumption | (refine Ext.trans ?_ (by assumption); first | exact Ext.refl _ | exact (Ext.refl _).drew | assumption | (refine Ext.trans ?_ (by assumption); first | exact Ext.refl _ | exact (Ext.refl _).drew | assumption | (refine Ext.trans ?_ (by assumption); first | exact Ext.refl _ | exact (Ext.refl _).drew | assumption)))))))))) | exact Hh.out.ext (HX8.out _ (by first | exact Ext.refl _ | exact (Ext.refl _).drew | assumption | (refine Ext.trans ?_ (by assumption); first | exact Ext.refl _ | exact (Ext.refl _).drew | assumption | (refine Ext.trans ?_ (by assumption); first | exact Ext.refl _ | exact (Ext.refl _).drew | assumption | (refine Ext.trans ?_ (by assumption); first | exact Ext.refl _ | exact (Ext.refl _).drew | assumption | (refine Ext.trans ?_ (by assumption); first | exact Ext.refl _ | exact (Ext.refl _).drew | assumption | (refine Ext.trans ?_ (by assumption); first | exact Ext.refl _ | exact (Ext.refl _).drew | assumption | (refine Ext.trans ?_ (by assumption); first | exact Ext.refl _ | exact (Ext.refl _).drew | assumption | (refine Ext.trans ?_ (by assumption); first | exact Ext.refl _ | exact (Ext.refl _).drew | assumption | (refine Ext.trans ?_ (by assumption); first | exact Ext.refl _ | exact (Ext.refl _).drew | assumption)))))))))) | (apply RN.ext; rotate_left; assumption; exact (by first | exact Ext.refl _ | exact (Ext.refl _).drew | assumption | (refine Ext.trans ?_ (by assumption); first | exact Ext.refl _ | exact (Ext.refl _).drew | assumption | (refine Ext.trans ?_ (by assumption); first | exact Ext.refl _ | exact (Ext.refl _).drew | assumption | (refine Ext.trans ?_ (by assumption); first | exact Ext.refl _ | exact (Ext.refl _).drew | assumption | (refine Ext.trans ?_ (by assumption); first | exact Ext.refl _ | exact (Ext.refl _).drew | assumption | (refine Ext.trans ?_ (by assumption); first | exact Ext.refl _ | exact (Ext.refl _).drew | assumption | (refine Ext.trans ?_ (by assumption); first | exact Ext.refl _ | exact (Ext.refl _).drew | assumption | (refine Ext.trans ?_ (by assumption); first | exact Ext.refl _ | exact (Ext.refl _).drew | assumption | (refine Ext.trans ?_ (by assumption); first | exact Ext.refl _ | exact (Ext.refl _).drew | assumption)))))))))))).mono ?_
              rintro _ w31 ⟨l31, c31, rfl, r31, hY31⟩
              dsimp only
              go_wp2_with fail
              refine (cKnow_any _ _ _ _ _ (by first | assumption | exact Hf.out.ext (HX8.out _ (by first | exact Ext.refl _ | exact (Ext.refl _).drew | assumption | (refine Ext.trans ?_ (by assumption); first | exact Ext.refl _ | exact (Ext.refl _).drew | assumption | (refine Ext.trans ?_ (by assumption); first | exact Ext.refl _ | exact (Ext.refl _).drew | assumption | (refine Ext.trans ?_ (by assumption); first | exact Ext.refl _ | exact (Ext.refl _).drew | assumption | (refine Ext.trans ?_ (by assumption); first | exact Ext.refl _ | exact (Ext.refl _).drew | assumption | (refine Ext.trans ?_ (by assumption); first | exact Ext.refl _ | exact (Ext.refl _).drew | assumption | (refine Ext.trans ?_ (by assumption); first | exact Ext.refl _ | exact (Ext.refl _).drew | assumption | (refine Ext.trans ?_ (by assumption); first | exact Ext.refl _ | exact (Ext.refl _).drew | assumption | (refine Ext.trans ?_ (by assumption); first | exact Ext.refl _ | exact (Ext.refl _).drew | assumption)))))))))) | exact Hh.out.ext (HX8.out _ (by first | exact Ext.refl _ | exact (Ext.refl _).drew | assumption | (refine Ext.trans ?_ (by assumption); first | exact Ext.refl _ | exact (Ext.refl _).drew | assumption | (refine Ext.trans ?_ (by assumption); first | exact Ext.refl _ | exact (Ext.refl _).drew | assumption | (refine Ext.trans ?_ (by assumption); first | exact Ext.refl _ | exact (Ext.refl _).drew | assumption | (refine Ext.trans ?_ (by assumption); first | exact Ext.refl _ | exact (Ext.refl _).drew | assumption | (refine Ext.trans ?_ (by assumption); first | exact Ext.refl _ | exact (Ext.refl _).drew | assumption | (refine Ext.trans ?_ (by assumption); first | exact Ext.refl _ | exact (Ext.refl _).drew | assumption | (refine Ext.trans ?_ (by assumption); first | exact Ext.refl _ | exact (Ext.refl _).drew | assumption | (refine Ext.trans ?_ (by assumption); first | exact Ext.refl _ | exact (Ext.refl _).drew | assumption)))))))))) | (apply RN.ext; rotate_left; assumption; exact (by first | exact Ext.refl _ | exact (Ext.refl _).drew | assumption | (refine Ext.trans ?_ (by assumption); first | exact Ext.refl _ | exact (Ext.refl _).drew | assumption | (refine Ext.trans ?_ (by assumption); first | exact Ext.refl _ | exact (Ext.refl _).drew | assumption | (refine Ext.trans ?_ (by assumption); first | exact Ext.refl _ | exact (Ext.refl _).drew | assumption | (refine Ext.trans ?_ (by assumption); first | exact Ext.refl _ | exact (Ext.refl _).drew | assumption | (refine Ext.trans ?_ (by assumption); first | exact Ext.refl _ | exact (Ext.refl _).drew | assumption | (refine Ext.trans ?_ (by assumption); first | exact Ext.refl _ | exact (Ext.refl _).drew | assumption | (refine Ext.trans ?_ (by assumption); first | exact Ext.refl _ | exact (Ext.refl _).drew | assumption | (refine Ext.trans ?_ (by assumption); first | exact Ext.refl _ | exact (Ext.refl _).drew | assumption)))))))))))).mono ?_
              rintro _ w32 ⟨l32, c32, rfl, r32, hY32⟩
              dsimp only
              go_wp2_with fail
              refine (cImp_any _ _ _ _ _ _ _ (by first | assumption | exact Hf.out.ext (HX8.out _ (by first | exact Ext.refl _ | exact (Ext.refl _).drew | assumption | (refine Ext.trans ?_ (by assumption); first | exact Ext.refl _ | exact (Ext.refl _).drew | assumption | (refine Ext.trans ?_ (by assumption); first | exact Ext.refl _ | exact (Ext.refl _).drew | assumption | (refine Ext.trans ?_ (by assumption); first | exact Ext.refl _ | exact (Ext.refl _).drew | assumption | (refine Ext.trans ?_ (by assumption); first | exact Ext.refl _ | exact (Ext.refl _).drew | assumption | (refine Ext.trans ?_ (by assumption); first | exact Ext.refl _ | exact (Ext.refl _).drew | assumption | (refine Ext.trans ?_ (by assumption); first | exact Ext.refl _ | exact (Ext.refl _).drew | assumption | (refine Ext.trans ?_ (by assumption); first | exact Ext.refl _ | exact (Ext.refl _).drew | assumption | (refine Ext.trans ?_ (by assumption); first | exact Ext.refl _ | exact (Ext.refl _).drew | assumption)))))))))) | exact Hh.out.ext (HX8.out _ (by first | exact Ext.refl _ | exact (Ext.refl _).drew | assumption | (refine Ext.trans ?_ (by assumption); first | exact Ext.refl _ | exact (Ext.refl _).drew | assumption | (refine Ext.trans ?_ (by assumption); first | exact Ext.refl _ | exact (Ext.refl _).drew | assumption | (refine Ext.trans ?_ (by assumption); first | exact Ext.refl _ | exact (Ext.refl _).drew | assumption | (refine Ext.trans ?_ (by assumption); first | exact Ext.refl _ | exact (Ext.refl _).drew | assumption | (refine Ext.trans ?_ (by assumption); first | exact Ext.refl _ | exact (Ext.refl _).drew | assumption | (refine Ext.trans ?_ (by assumption); first | exact Ext.refl _ | exact (Ext.refl _).drew | assumption | (refine Ext.trans ?_ (by assumption); first | exact Ext.refl _ | exact (Ext.refl _).drew | assumption | (refine Ext.trans ?_ (by assumption); first | exact Ext.refl _ | exact (Ext.refl _).drew | assumption)))))))))) | (apply RN.ext; rotate_left; assumption; exact (by first | exact Ext.refl _ | exact (Ext.refl _).drew | assumption | (refine Ext.trans ?_ (by assumption); first | exact Ext.refl _ | exact (Ext.refl _).drew | assumption | (refine Ext.trans ?_ (by assumption); first | exact Ext.refl _ | exact (Ext.refl _).drew | assumption | (refine Ext.trans ?_ (by assumption); first | exact Ext.refl _ | exact (Ext.refl _).drew | assumption | (refine Ext.trans ?_ (by assumption); first | exact Ext.refl _ | exact (Ext.refl _).drew | assumption | (refine Ext.trans ?_ (by assumption); first | exact Ext.refl _ | exact (Ext.refl _).drew | assumption | (refine Ext.trans ?_ (by assumption); first | exact Ext.refl _ | exact (Ext.refl _).drew | assumption | (refine Ext.trans ?_ (by assumption); first | exact Ext.refl _ | exact (Ext.refl _).drew | assumption | (refine Ext.trans ?_ (by assumption); first | exact Ext.refl _ | exact (Ext.refl _).drew | assumption))))))))))) (by first | assumption | exact Hf.out.ext (HX8.out _ (by first | exact Ext.refl _ | exact (Ext.refl _).drew | assumption | (refine Ext.trans ?_ (by assumption); first | exact Ext.refl _ | exact (Ext.refl _).drew | assumption | (refine Ext.trans ?_ (by assumption); first | exact Ext.refl _ | exact (Ext.refl _).drew | assumption | (refine Ext.trans ?_ (by assumption); first | exact Ext.refl _ | exact (Ext.refl _).drew | assumption | (refine Ext.trans ?_ (by assumption); first | exact Ext.refl _ | exact (Ext.refl _).drew | assumption | (refine Ext.trans ?_ (by assumption); first | exact Ext.refl _ | exact (Ext.refl _).drew | assumption | (refine Ext.trans ?_ (by assumption); first | exact Ext.refl _ | exact (Ext.refl _).drew | assumption | (refine Ext.trans ?_ (by assumption); first | exact Ext.refl _ | exact (Ext.refl _).drew | assumption | (refine Ext.trans ?_ (by assumption); first | exact Ext.refl _ | exact (Ext.refl _).drew | assumption)))))))))) | exact Hh.out.ext (HX8.out _ (by first | exact Ext.refl _ | exact (Ext.refl _).drew | assumption | (refine Ext.trans ?_ (by assumption); first | exact Ext.refl _ | exact (Ext.refl _).drew | assumption | (refine Ext.trans ?_ (by assumption); first | exact Ext.refl _ | exact (Ext.refl _).drew | assumption | (refine Ext.trans ?_ (by assumption); first | exact Ext.refl _ | exact (Ext.refl _).drew | assumption | (refine Ext.trans ?_ (by assumption); first | exact Ext.refl _ | exact (Ext.refl _).drew | assumption | (refine Ext.trans ?_ (by assumption); first | exact Ext.refl _ | exact (Ext.refl _).drew | assumption | (refine Ext.trans ?_ (by assumption); first | exact Ext.refl _ | exact (Ext.refl _).drew | assumption | (refine Ext.trans ?_ (by assumption); first | exact Ext.refl _ | exact (Ext.refl _).drew | assumption | (refine Ext.trans ?_ (by assumption); first | exact Ext.refl _ | exact (Ext.refl _).drew | assumption)))))))))) | (apply RN.ext; rotate_left; assumption; exact (by first | exact Ext.refl _ | exact (Ext.refl _).drew | assumption | (refine Ext.trans ?_ (by assumption); first | exact Ext.refl _ | exact (Ext.refl _).drew | assumption | (refine Ext.trans ?_ (by assumption); first | exact Ext.refl _ | exact (Ext.refl _).drew | assumption | (refine Ext.trans ?_ (by assumption); first | exact Ext.refl _ | exact (Ext.refl _).drew | assumption | (refine Ext.trans ?_ (by assumption); first | exact Ext.refl _ | exact (Ext.refl _).drew | assumption | (refine Ext.trans ?_ (by assumption); first | exact Ext.refl _ | exact (Ext.refl _).drew | assumption | (refine Ext.trans ?_ (by assumption); first | exact Ext.refl _ | exact (Ext.refl _).drew | assumption | (refine Ext.trans ?_ (by assumption); first | exact Ext.refl _ | exact (Ext.refl _).drew | assumption | (refine Ext.trans ?_ (by assumption); first | exact Ext.refl _ | exact (Ext.refl _).drew | assumption)))))))))))).mono ?_
              rintro _ w33 ⟨l33, c33, rfl, r33, hY33⟩
              dsimp only
              go_wp2_with fail
              refine (cNot_any _ _ _ _ (by first | assumption | exact Hf.out.ext (HX8.out _ (by first | exact Ext.refl _ | exact (Ext.refl _).drew | assumption | (refine Ext.trans ?_ (by assumption); first | exact Ext.refl _ | exact (Ext.refl _).drew | assumption | (refine Ext.trans ?_ (by assumption); first | exact Ext.refl _ | exact (Ext.refl _).drew | assumption | (refine Ext.trans ?_ (by assumption); first | exact Ext.refl _ | exact (Ext.refl _).drew | assumption | (refine Ext.trans ?_ (by assumption); first | exact Ext.refl _ | exact (Ext.refl _).drew | assumption | (refine Ext.trans ?_ (by assumption); first | exact Ext.refl _ | exact (Ext.refl _).drew | assumption | (refine Ext.trans ?_ (by assumption); first | exact Ext.refl _ | exact (Ext.refl _).drew | assumption | (refine Ext.trans ?_ (by assumption); first | exact Ext.refl _ | exact (Ext.refl _).drew | assumption | (refine Ext.trans ?_ (by assumption); first | exact Ext.refl _ | exact (Ext.refl _).drew | assumption)))))))))) | exact Hh.out.ext (HX8.out _ (by first | exact Ext.refl _ | exact (Ext.refl _).drew | assumption | (refine Ext.trans ?_ (by assumption); first | exact Ext.refl _ | exact (Ext.refl _).drew | assumption | (refine Ext.trans ?_ (by assumption); first | exact Ext.refl _ | exact (Ext.refl _).drew | assumption | (refine Ext.trans ?_ (by assumption); first | exact Ext.refl _ | exact (Ext.refl _).drew | assumption | (refine Ext.trans ?_ (by assumption); first | exact Ext.refl _ | exact (Ext.refl _).drew | assumption | (refine Ext.trans ?_ (by assumption); first | exact Ext.refl _ | exact (Ext.refl _).drew | assumption | (refine Ext.trans ?_ (by assumption); first | exact Ext.refl _ | exact (Ext.refl _).drew | assumption | (refine Ext.trans ?_ (by assumption); first | exact Ext.refl _ | exact (Ext.refl _).drew | assumption | (refine Ext.trans ?_ (by assumption); first | exact Ext.refl _ | exact (Ext.refl _).drew | assumption)))))))))) | (apply RN.ext; rotate_left; assumption; exact (by first | exact Ext.refl _ | exact (Ext.refl _).drew | assumption | (refine Ext.trans ?_ (by assumption); first | exact Ext.refl _ | exact (Ext.refl _).drew | assumption | (refine Ext.trans ?_ (by assumption); first | exact Ext.refl _ | exact (Ext.refl _).drew | assumption | (refine Ext.trans ?_ (by assumption); first | exact Ext.refl _ | exact (Ext.refl _).drew | assumption | (refine Ext.trans ?_ (by assumption); first | exact Ext.refl _ | exact (Ext.refl _).drew | assumption | (refine Ext.trans ?_ (by assumption); first | exact Ext.refl _ | exact (Ext.refl _).drew | assumption | (refine Ext.trans ?_ (by assumption); first | exact Ext.refl _ | exact (Ext.refl _).drew | assumption | (refine Ext.trans ?_ (by assumption); first | exact Ext.refl _ | exact (Ext.refl _).drew | assumption | (refine Ext.trans ?_ (by assumption); first | exact Ext.refl _ | exact (Ext.refl _).drew | assumption)))))))))))).mono ?_
              rintro _ w34 ⟨l34, c34, rfl, r34, hY34⟩
              dsimp only
              go_wp2_with fail
              refine (cNot_any _ _ _ _ (by first | assumption | exact Hf.out.ext (HX8.out _ (by first | exact Ext.refl _ | exact (Ext.refl _).drew | assumption | (refine Ext.trans ?_ (by assumption); first | exact Ext.refl _ | exact (Ext.refl _).drew | assumption | (refine Ext.trans ?_ (by assumption); first | exact Ext.refl _ | exact (Ext.refl _).drew | assumption | (refine Ext.trans ?_ (by assumption); first | exact Ext.refl _ | exact (Ext.refl _).drew | assumption | (refine Ext.trans ?_ (by assumption); first | exact Ext.refl _ | exact (Ext.refl _).drew | assumption | (refine Ext.trans ?_ (by assumption); first | exact Ext.refl _ | exact (Ext.refl _).drew | assumption | (refine Ext.trans ?_ (by assumption); first | exact Ext.refl _ | exact (Ext.refl _).drew | assumption | (refine Ext.trans ?_ (by assumption); first | exact Ext.refl _ | exact (Ext.refl _).drew | assumption | (refine Ext.trans ?_ (by assumption); first | exact Ext.refl _ | exact (Ext.refl _).drew | assumption)))))))))) | exact Hh.out.ext (HX8.out _ (by first | exact Ext.refl _ | exact (Ext.refl _).drew | assumption | (refine Ext.trans ?_ (by assumption); first | exact Ext.refl _ | exact (Ext.refl _).drew | assumption | (refine Ext.trans ?_ (by assumption); first | exact Ext.refl _ | exact (Ext.refl _).drew | assumption | (refine Ext.trans ?_ (by assumption); first | exact Ext.refl _ | exact (Ext.refl _).drew | assumption | (refine Ext.trans ?_ (by assumption); first | exact Ext.refl _ | exact (Ext.refl _).drew | assumption | (refine Ext.trans ?_ (by assumption); first | exact Ext.refl _ | exact (Ext.refl _).drew | assumption | (refine Ext.trans ?_ (by assumption); first | exact Ext.refl _ | exact (Ext.refl _).drew | assumption | (refine Ext.trans ?_ (by assumption); first | exact Ext.refl _ | exact (Ext.refl _).drew | assumption | (refine Ext.trans ?_ (by assumption); first | exact Ext.refl _ | exact (Ext.refl _).drew | assumption)))))))))) | (apply RN.ext; rotate_left; assumption; exact (by first | exact Ext.refl _ | exact (Ext.refl _).drew | assumption | (refine Ext.trans ?_ (by assumption); first | exact Ext.refl _ | exact (Ext.refl _).drew | assumption | (refine Ext.trans ?_ (by assumption); first | exact Ext.refl _ | exact (Ext.refl _).drew | assumption | (refine Ext.trans ?_ (by assumption); first | exact Ext.refl _ | exact (Ext.refl _).drew | assumption | (refine Ext.trans ?_ (by assumption); first | exact Ext.refl _ | exact (Ext.refl _).drew | assumption | (refine Ext.trans ?_ (by assumption); first | exact Ext.refl _ | exact (Ext.refl _).drew | assumption | (refine Ext.trans ?_ (by assumption); first | exact Ext.refl _ | exact (Ext.refl _).drew | assumption | (refine Ext.trans ?_ (by assumption); first | exact Ext.refl _ | exact (Ext.refl _).drew | assumption | (refine Ext.trans ?_ (by assumption); first | exact Ext.refl _ | exact (Ext.refl _).drew | assumption)))))))))))).mono ?_
              rintro _ w35 ⟨l35, c35, rfl, r35, hY35⟩
              dsimp only
              go_wp2_with fail
              refine (cKnow_any _ _ _ _ _ (by first | assumption | exact Hf.out.ext (HX8.out _ (by first | exact Ext.refl _ | exact (Ext.refl _).drew | assumption | (refine Ext.trans ?_ (by assumption); first | exact Ext.refl _ | exact (Ext.refl _).drew | assumption | (refine Ext.trans ?_ (by assumption); first | exact Ext.refl _ | exact (Ext.refl _).drew | assumption | (refine Ext.trans ?_ (by assumption); first | exact Ext.refl _ | exact (Ext.refl _).drew | assumption | (refine Ext.trans ?_ (by assumption); first | exact Ext.refl _ | exact (Ext.refl _).drew | assumption | (refine Ext.trans ?_ (by assumption); first | exact Ext.refl _ | exact (Ext.refl _).drew | assumption | (refine Ext.trans ?_ (by assumption); first | exact Ext.refl _ | exact (Ext.refl _).drew | assumption | (refine Ext.trans ?_ (by assumption); first | exact Ext.refl _ | exact (Ext.refl _).drew | assumption | (refine Ext.trans ?_ (by assumption); first | exact Ext.refl _ | exact (Ext.refl _).drew | assumption)))))))))) | exact Hh.out.ext (HX8.out _ (by first | exact Ext.refl _ | exact (Ext.refl _).drew | assumption | (refine Ext.trans ?_ (by assumption); first | exact Ext.refl _ | exact (Ext.refl _).drew | assumption | (refine Ext.trans ?_ (by assumption); first | exact Ext.refl _ | exact (Ext.refl _).drew | assumption | (refine Ext.trans ?_ (by assumption); first | exact Ext.refl _ | exact (Ext.refl _).drew | assumption | (refine Ext.trans ?_ (by assumption); first | exact Ext.refl _ | exact (Ext.refl _).drew | assumption | (refine Ext.trans ?_ (by assumption); first | exact Ext.refl _ | exact (Ext.refl _).drew | assumption | (refine Ext.trans ?_ (by assumption); first | exact Ext.refl _ | exact (Ext.refl _).drew | assumption | (refine Ext.trans ?_ (by assumption); first | exact Ext.refl _ | exact (Ext.refl _).drew | assumption | (refine Ext.trans ?_ (by assumption); first | exact Ext.refl _ | exact (Ext.refl _).drew | assumption)))))))))) | (apply RN.ext; rotate_left; assumption; exact (by first | exact Ext.refl _ | exact (Ext.refl _).drew | assumption | (refine Ext.trans ?_ (by assumption); first | exact Ext.refl _ | exact (Ext.refl _).drew | assumption | (refine Ext.trans ?_ (by assumption); first | exact Ext.refl _ | exact (Ext.refl _).drew | assumption | (refine Ext.trans ?_ (by assumption); first | exact Ext.refl _ | exact (Ext.refl _).drew | assumption | (refine Ext.trans ?_ (by assumption); first | exact Ext.refl _ | exact (Ext.refl _).drew | assumption | (refine Ext.trans ?_ (by assumption); first | exact Ext.refl _ | exact (Ext.refl _).drew | assumption | (refine Ext.trans ?_ (by assumption); first | exact Ext.refl _ | exact (Ext.refl _).drew | assumption | (refine Ext.trans ?_ (by assumption); first | exact Ext.refl _ | exact (Ext.refl _).drew | assumption | (refine Ext.trans ?_ (by assumption); first | exact Ext.refl _ | exact (Ext.refl _).drew | assumption)))))))))))).mono ?_
              rintro _ w36 ⟨l36, c36, rfl, r36, hY36⟩
              dsimp only
              go_wp2_with fail
              refine (cImp_any _ _ _ _ _ _ _ (by first | assumption | exact Hf.out.ext (HX8.out _ (by first | exact Ext.refl _ | exact (Ext.refl _).drew | assumption | (refine Ext.trans ?_ (by assumption); first | exact Ext.refl _ | exact (Ext.refl _).drew | assumption | (refine Ext.trans ?_ (by assumption); first | exact Ext.refl _ | exact (Ext.refl _).drew | assumption | (refine Ext.trans ?_ (by assumption); first | exact Ext.refl _ | exact (Ext.refl _).drew | assumption | (refine Ext.trans ?_ (by assumption); first | exact Ext.refl _ | exact (Ext.refl _).drew | assumption | (refine Ext.trans ?_ (by assumption); first | exact Ext.refl _ | exact (Ext.refl _).drew | assumption | (refine Ext.trans ?_ (by assumption); first | exact Ext.refl _ | exact (Ext.refl _).drew | assumption | (refine Ext.trans ?_ (by assumption); first | exact Ext.refl _ | exact (Ext.refl _).drew | assumption | (refine Ext.trans ?_ (by assumption); first | exact Ext.refl _ | exact (Ext.refl _).drew | assumption)))))))))) | exact Hh.out.ext (HX8.out _ (by first | exact Ext.refl _ | exact (Ext.refl _).drew | assumption | (refine Ext.trans ?_ (by assumption); first | exact Ext.refl _ | exact (Ext.refl _).drew | assumption | (refine Ext.trans ?_ (by assumption); first | exact Ext.refl _ | exact (Ext.refl _).drew | assumption | (refine Ext.trans ?_ (by assumption); first | exact Ext.refl _ | exact (Ext.refl _).drew | assumption | (refine Ext.trans ?_ (by assumption); first | exact Ext.refl _ | exact (Ext.refl _).drew | assumption | (refine Ext.trans ?_ (by assumption); first | exact Ext.refl _ | exact (Ext.refl _).drew | assumption | (refine Ext.trans ?_ (by assumption); first | exact Ext.refl _ | exact (Ext.refl _).drew | assumption | (refine Ext.trans ?_ (by assumption); first | exact Ext.refl _ | exact (Ext.refl _).drew | assumption | (refine Ext.trans ?_ (by assumption); first | exact Ext.refl _ | exact (Ext.refl _).drew | assumption)))))))))) | (apply RN.ext; rotate_left; assumption; exact (by first | exact Ext.refl _ | exact (Ext.refl _).drew | assumption | (refine Ext.trans ?_ (by assumption); first | exact Ext.refl _ | exact (Ext.refl _).drew | assumption | (refine Ext.trans ?_ (by assumption); first | exact Ext.refl _ | exact (Ext.refl _).drew | assumption | (refine Ext.trans ?_ (by assumption); first | exact Ext.refl _ | exact (Ext.refl _).drew | assumption | (refine Ext.trans ?_ (by assumption); first | exact Ext.refl _ | exact (Ext.refl _).drew | assumption | (refine Ext.trans ?_ (by assumption); first | exact Ext.refl _ | exact (Ext.refl _).drew | assumption | (refine Ext.trans ?_ (by assumption); first | exact Ext.refl _ | exact (Ext.refl _).drew | assumption | (refine Ext.trans ?_ (by assumption); first | exact Ext.refl _ | exact (Ext.refl _).drew | assumption | (refine Ext.trans ?_ (by assumption); first | exact Ext.refl _ | exact (Ext.refl _).drew | assumption))))))))))) (by first | assumption | exact Hf.out.ext (HX8.out _ (by first | exact Ext.refl _ | exact (Ext.refl _).drew | assumption | (refine Ext.trans ?_ (by assumption); first | exact Ext.refl _ | exact (Ext.refl _).drew | assumption | (refine Ext.trans ?_ (by assumption); first | exact Ext.refl _ | exact (Ext.refl _).drew | assumption | (refine Ext.trans ?_ (by assumption); first | exact Ext.refl _ | exact (Ext.refl _).drew | assumption | (refine Ext.trans ?_ (by assumption); first | exact Ext.refl _ | exact (Ext.refl _).drew | assumption | (refine Ext.trans ?_ (by assumption); first | exact Ext.refl _ | exact (Ext.refl _).drew | assumption | (refine Ext.trans ?_ (by assumption); first | exact Ext.refl _ | exact (Ext.refl _).drew | assumption | (refine Ext.trans ?_ (by assumption); first | exact Ext.refl _ | exact (Ext.refl _).drew | assumption | (refine Ext.trans ?_ (by assumption); first | exact Ext.refl _ | exact (Ext.refl _).drew | assumption)))))))))) | exact Hh.out.ext (HX8.out _ (by first | exact Ext.refl _ | exact (Ext.refl _).drew | assumption | (refine Ext.trans ?_ (by assumption); first | exact Ext.refl _ | exact (Ext.refl _).drew | assumption | (refine Ext.trans ?_ (by assumption); first | exact Ext.refl _ | exact (Ext.refl _).drew | assumption | (refine Ext.trans ?_ (by assumption); first | exact Ext.refl _ | exact (Ext.refl _).drew | assumption | (refine Ext.trans ?_ (by assumption); first | exact Ext.refl _ | exact (Ext.refl _).drew | assumption | (refine Ext.trans ?_ (by assumption); first | exact Ext.refl _ | exact (Ext.refl _).drew | assumption | (refine Ext.trans ?_ (by assumption); first | exact Ext.refl _ | exact (Ext.refl _).drew | assumption | (refine Ext.trans ?_ (by assumption); first | exact Ext.refl _ | exact (Ext.refl _).drew | assumption | (refine Ext.trans ?_ (by assumption); first | exact Ext.refl _ | exact (Ext.refl _).drew | assumption)))))))))) | (apply RN.ext; rotate_left; assumption; exact (by first | exact Ext.refl _ | exact (Ext.refl _).drew | assumption | (refine Ext.trans ?_ (by assumption); first | exact Ext.refl _ | exact (Ext.refl _).drew | assumption | (refine Ext.trans ?_ (by assumption); first | exact Ext.refl _ | exact (Ext.refl _).drew | assumption | (refine Ext.trans ?_ (by assumption); first | exact Ext.refl _ | exact (Ext.refl _).drew | assumption | (refine Ext.trans ?_ (by assumption); first | exact Ext.refl _ | exact (Ext.refl _).drew | assumption | (refine Ext.trans ?_ (by assumption); first | exact Ext.refl _ | exact (Ext.refl _).drew | assumption | (refine Ext.trans ?_ (by assumption); first | exact Ext.refl _ | exact (Ext.refl _).drew | assumption | (refine Ext.trans ?_ (by assumption); first | exact Ext.refl _ | exact (Ext.refl _).drew | assumption | (refine Ext.trans ?_ (by assumption); first | exact Ext.refl _ | exact (Ext.refl _).drew | assumption)))))))))))).mono ?_
              rintro _ w37 ⟨l37, c37, rfl, r37, hY37⟩
              dsimp only
              have hYY : Ext w8 w37 := hEq.trans (hY31.trans (hY32.trans (hY33.trans (hY34.trans (hY35.trans (hY36.trans hY37))))))
              have hX37 := hX8.trans hYY
              have q1 := r31.ext (hY32.trans (hY33.trans (hY34.trans (hY35.trans (hY36.trans hY37)))))
              have q3 := r33.ext (hY34.trans (hY35.trans (hY36.trans hY37)))
              have hD := (Ext.refl w37).alloc (.cells #[.slice l31 (fB ⟨7, 0, 0, 0, 0, 0⟩ [fB ⟨9, (a : Int), 0, 0, 0, 0⟩ [f], f]).length c31, .slice l33 (fB ⟨7, 0, 0, 0, 0, 0⟩ [fB ⟨9, (a : Int), 0, 0, 0, 0⟩ [f], fB ⟨9, (a : Int), 0, 0, 0, 0⟩ [fB ⟨9, (a : Int), 0, 0, 0, 0⟩ [f]]]).length c33, .slice l37 (fB ⟨7, 0, 0, 0, 0, 0⟩ [fB ⟨4, 0, 0, 0, 0, 0⟩ [fB ⟨9, (a : Int), 0, 0, 0, 0⟩ [f]], fB ⟨9, (a : Int), 0, 0, 0, 0⟩ [fB ⟨4, 0, 0, 0, 0, 0⟩ [fB ⟨9, (a : Int), 0, 0, 0, 0⟩ [f]]]]).length c37] 26)
              have d0 : (w37.alloc (.cells #[.slice l31 (fB ⟨7, 0, 0, 0, 0, 0⟩ [fB ⟨9, (a : Int), 0, 0, 0, 0⟩ [f], f]).length c31, .slice l33 (fB ⟨7, 0, 0, 0, 0, 0⟩ [fB ⟨9, (a : Int), 0, 0, 0, 0⟩ [f], fB ⟨9, (a : Int), 0, 0, 0, 0⟩ [fB ⟨9, (a : Int), 0, 0, 0, 0⟩ [f]]]).length c33, .slice l37 (fB ⟨7, 0, 0, 0, 0, 0⟩ [fB ⟨4, 0, 0, 0, 0, 0⟩ [fB ⟨9, (a : Int), 0, 0, 0, 0⟩ [f]], fB ⟨9, (a : Int), 0, 0, 0, 0⟩ [fB ⟨4, 0, 0, 0, 0, 0⟩ [fB ⟨9, (a : Int), 0, 0, 0, 0⟩ [f]]]]).length c37] 26)).cell? ⟨w37.heap.size, 0, none⟩ = some (.slice l31 (fB ⟨7, 0, 0, 0, 0, 0⟩ [fB ⟨9, (a : Int), 0, 0, 0, 0⟩ [f], f]).length c31) := by simp
              have d1 : (w37.alloc (.cells #[.slice l31 (fB ⟨7, 0, 0, 0, 0, 0⟩ [fB ⟨9, (a : Int), 0, 0, 0, 0⟩ [f], f]).length c31, .slice l33 (fB ⟨7, 0, 0, 0, 0, 0⟩ [fB ⟨9, (a : Int), 0, 0, 0, 0⟩ [f], fB ⟨9, (a : Int), 0, 0, 0, 0⟩ [fB ⟨9, (a : Int), 0, 0, 0, 0⟩ [f]]]).length c33, .slice l37 (fB ⟨7, 0, 0, 0, 0, 0⟩ [fB ⟨4, 0, 0, 0, 0, 0⟩ [fB ⟨9, (a : Int), 0, 0, 0, 0⟩ [f]], fB ⟨9, (a : Int), 0, 0, 0, 0⟩ [fB ⟨4, 0, 0, 0, 0, 0⟩ [fB ⟨9, (a : Int), 0, 0, 0, 0⟩ [f]]]]).length c37] 26)).cell? ⟨w37.heap.size, 1, none⟩ = some (.slice l33 (fB ⟨7, 0, 0, 0, 0, 0⟩ [fB ⟨9, (a : Int), 0, 0, 0, 0⟩ [f], fB ⟨9, (a : Int), 0, 0, 0, 0⟩ [fB ⟨9, (a : Int), 0, 0, 0, 0⟩ [f]]]).length c33) := by simp
              have d2 : (w37.alloc (.cells #[.slice l31 (fB ⟨7, 0, 0, 0, 0, 0⟩ [fB ⟨9, (a : Int), 0, 0, 0, 0⟩ [f], f]).length c31, .slice l33 (fB ⟨7, 0, 0, 0, 0, 0⟩ [fB ⟨9, (a : Int), 0, 0, 0, 0⟩ [f], fB ⟨9, (a : Int), 0, 0, 0, 0⟩ [fB ⟨9, (a : Int), 0, 0, 0, 0⟩ [f]]]).length c33, .slice l37 (fB ⟨7, 0, 0, 0, 0, 0⟩ [fB ⟨4, 0, 0, 0, 0, 0⟩ [fB ⟨9, (a : Int), 0, 0, 0, 0⟩ [f]], fB ⟨9, (a : Int), 0, 0, 0, 0⟩ [fB ⟨4, 0, 0, 0, 0, 0⟩ [fB ⟨9, (a : Int), 0, 0, 0, 0⟩ [f]]]]).length c37] 26)).cell? ⟨w37.heap.size, 2, none⟩ = some (.slice l37 (fB ⟨7, 0, 0, 0, 0, 0⟩ [fB ⟨4, 0, 0, 0, 0, 0⟩ [fB ⟨9, (a : Int), 0, 0, 0, 0⟩ [f]], fB ⟨9, (a : Int), 0, 0, 0, 0⟩ [fB ⟨4, 0, 0, 0, 0, 0⟩ [fB ⟨9, (a : Int), 0, 0, 0, 0⟩ [f]]]]).length c37) := by simp
              have Q1 := Lib.hid (q1.ext hD)
              have Q2 := Lib.hid (q3.ext hD)
              have Q3 := Lib.hid (r37.ext hD)
              have HX9 := Lib.hid (hX37.trans hD)
              have HYY := Lib.hid (hYY.trans hD)
              clear q1 q3 r31 r32 r33 r34 r35 r36 r37 hY31 hY32 hY33 hY34 hY35 hY36 hY37 hX37 hYY hD m0 m2 hcq
              go_wp2
              go_loopw [173] (fun i wz => ∃ k : Nat, k ≤ 3 ∧ i = .int .i64 (k : Int) ∧ Ext (w37.alloc (.cells #[.slice l31 (fB ⟨7, 0, 0, 0, 0, 0⟩ [fB ⟨9, (a : Int), 0, 0, 0, 0⟩ [f], f]).length c31, .slice l33 (fB ⟨7, 0, 0, 0, 0, 0⟩ [fB ⟨9, (a : Int), 0, 0, 0, 0⟩ [f], fB ⟨9, (a : Int), 0, 0, 0, 0⟩ [fB ⟨9, (a : Int), 0, 0, 0, 0⟩ [f]]]).length c33, .slice l37 (fB ⟨7, 0, 0, 0, 0, 0⟩ [fB ⟨4, 0, 0, 0, 0, 0⟩ [fB ⟨9, (a : Int), 0, 0, 0, 0⟩ [f]], fB ⟨9, (a : Int), 0, 0, 0, 0⟩ [fB ⟨4, 0, 0, 0, 0, 0⟩ [fB ⟨9, (a : Int), 0, 0, 0, 0⟩ [f]]]]).length c37] 26)) wz) (fun i _ => 3 - (intOf i).toNat)
              case atStart => exact ⟨0, by omega, rfl, Ext.refl _⟩
              case round =>
                obtain ⟨k, hk3, rfl, hEz⟩ := hrel
                have hXz := HX9.out.trans hEz
                obtain ⟨m0, m1, m2⟩ := HBX.out.ext hXz
                dsimp only at m0 m1 m2
                have e0 := hEz.cell d0
                have e1 := hEz.cell d1
                have e2 := hEz.cell d2
                by_cases hkl : k < 3
                · have hk' : k = 0 ∨ k = 1 ∨ k = 2 := by omega
                  rcases hk' with rfl | rfl | rfl
                  · go_wp2_with fail
                    refine (validT hM F.iT.out HT.out hNt va _ vc rc _ _ _ (HM.out.ext hXz) (Q1.out.ext hEz)).mono ?_
                    rintro _ wv ⟨rfl, hYv⟩
                    dsimp only
                    go_wp2
                    go_roundw
                    case rel => exact ⟨1, by omega, rfl, hEz.trans hYv⟩
                    case measure => simp [intOf]
                  · go_wp2_with fail
                    refine (validT hM F.i4.out H4.out hNt va _ vc rc _ _ _ (HM.out.ext hXz) (Q2.out.ext hEz)).mono ?_
                    rintro _ wv ⟨rfl, hYv⟩
                    dsimp only
                    go_wp2
                    go_roundw
                    case rel => exact ⟨2, by omega, rfl, hEz.trans hYv⟩
                    case measure => simp [intOf]
                  · go_wp2_with fail
                    refine (validT hM F.i5.out H5.out hNt va _ vc rc _ _ _ (HM.out.ext hXz) (Q3.out.ext hEz)).mono ?_
                    rintro _ wv ⟨rfl, hYv⟩
                    dsimp only
                    go_wp2
                    go_roundw
                    case rel => exact ⟨3, by omega, rfl, hEz.trans hYv⟩
                    case measure => simp [intOf]
                · obtain rfl : k = 3 := by omega
                  go_wp2
                  go_roundw
                  case rel => exact ⟨a + 1, hal, by go_num, hE6.trans (hE7.trans (hEc1.trans (HYY.out.trans hEz)))⟩
                  case measure => simp [intOf]; omega
    · obtain rfl : a = M.rel.length := by omega
      go_wp2
      go_ret
      exact ⟨rfl, HE.out.trans hX6⟩
end Wt
