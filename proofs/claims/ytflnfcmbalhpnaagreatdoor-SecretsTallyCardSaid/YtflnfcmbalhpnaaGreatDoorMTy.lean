/- The walk of SecretsTally (printed by gen_law44.py). -/
import Derived.Test.YtflnfcmbalhpnaaGreatDoorM4Br
import Derived.Deep.RegionHeld3
import Derived.Deep.CutRange
import Derived.Test.YtflnfcmbalhpnaaGreatDoorRows
import Derived.Test.YtflnfcmbalhpnaaGreatDoorCards
import Derived.Test.YtflnfcmbalhpnaaGreatDoorTie
import Derived.Test.YtflnfcmbalhpnaaGreatDoorM4Bp
import Derived.Test.YtflnfcmbalhpnaaGreatDoorM4Bq
import Derived.ProofKit
import Derived.LaidMore
import Derived.SizedLaws
import Derived.SevenTiedAt
namespace Wt
open Go Go.RowKit Go.Maps Go.Proofs Fm

theorem tally_bool (n v g i z : Nat) (a : Nat) (ha : a = 2 ^ n - 1) (hz : z = a ^^^ g) : tallyWant n v g i = (g.testBit i || v &&& z == 0 || v &&& z == z) := by
  subst hz; subst ha; rfl
set_option maxRecDepth 20000 in
set_option maxHeartbeats 8000000 in
theorem secretsTally_any (sz vt co : Nat) (_h1 : sz ≤ 255) (h2 : vt ≤ 255) (h3 : co ≤ 255) (w : World) (hT : Tab w) :
    Calls Tryz.prog 8 #[.int .u8 (sz : Int), .int .u8 (vt : Int), .int .u8 (co : Int)] w fun e w' => e = .returned (.bool true) ∧ Ext w w' := by
  obtain ⟨r, hr⟩ : ∃ r, r = sz % 3 := ⟨_, rfl⟩
  have hr3 : r < 3 := by omega
  have hrI : (sz : Int) % 3 = (r : Int) := by omega
  obtain ⟨n, hnr⟩ : ∃ n, n = 2 + r := ⟨_, rfl⟩
  have hnI : 2 + (r : Int) = (n : Int) := by omega
  have HZ := Lib.hid (Sz.mk' n (by omega) (by omega))
  obtain ⟨a, ha⟩ : ∃ a, a = 2 ^ n - 1 := ⟨_, rfl⟩
  rw [← ha] at HZ
  have hn2 := HZ.out.n2
  have hn4 := HZ.out.n4
  have ha3 := HZ.out.lo
  have ha15 := HZ.out.hi
  have hpa := HZ.out.pw
  have h63 : n < 63 := by omega
  obtain ⟨hq1, hq2⟩ := pw_int hn4
  have haI : p2 n - 1 = (a : Int) := by unfold p2; omega
  have ha0 : ((a : Int) == 0) = false := by simp; omega
  have ha0' : ¬ ((a : Int) = 0) := by omega
  obtain ⟨v, hv⟩ : ∃ v, v = vt &&& a := ⟨_, rfl⟩
  have hvI : bits .and .i64 (vt : Int) (a : Int) = (v : Int) := by rw [hv]; exact and_nat vt a (by omega) (by omega)
  have hva : v ≤ a := by rw [hv]; exact Nat.and_le_right
  obtain ⟨gm, hgm⟩ : ∃ gm, gm = co % a := ⟨_, rfl⟩
  have hgmI : (co : Int).tmod (a : Int) = (gm : Int) := by rw [hgm]; exact (Int.ofNat_tmod co a).symm
  have hgml : gm < a := by rw [hgm]; exact Nat.mod_lt _ (by omega)
  obtain ⟨g, hg⟩ : ∃ g, g = 1 + gm := ⟨_, rfl⟩
  have hgI : 1 + (gm : Int) = (g : Int) := by omega
  have hg1 : 1 ≤ g := by omega
  have hga : g ≤ a := by omega
  obtain ⟨z, hz⟩ : ∃ z, z = a ^^^ g := ⟨_, rfl⟩
  obtain ⟨hzn, hz16⟩ := all_not hn4 (show g < 2 ^ n by omega)
  rw [← ha, ← hz] at hzn
  rw [← ha, ← hz] at hz16
  have hzI : bits .andNot .i64 (a : Int) (g : Int) = (z : Int) := by rw [← hzn]; exact andNot_nat a g (by omega) (by omega)
  obtain ⟨u, hu⟩ : ∃ u, u = v &&& z := ⟨_, rfl⟩
  have huI : bits .and .i64 (v : Int) (z : Int) = (u : Int) := by rw [hu]; exact and_nat v z (by omega) (by omega)
  have hv2 : v < 2 ^ n := by omega
  have HG := Lib.hid (fun i hi W h => learns_is n v g i ⟨hn2, hn4⟩ hv2 hg1 (by omega) hi W h)
  obtain ⟨e1, he1⟩ : ∃ e1, (u == 0) = e1 := ⟨_, rfl⟩
  have he1I : ((u : Int) == 0) = e1 := by rw [← he1, Bool.eq_iff_iff]; simp
  obtain ⟨e2, he2⟩ : ∃ e2, (u == z) = e2 := ⟨_, rfl⟩
  have he2I : ((u : Int) == (z : Int)) = e2 := by rw [← he2, Bool.eq_iff_iff]; simp; omega
  have HWE : Hid (∀ i, tallyWant n v g i = (g.testBit i || e1 || e2)) := Lib.hid fun i => by rw [tally_bool n v g i z a ha hz, ← hu, he1, he2]
  have HOV := Lib.hid (ones_any v (by omega))
  have HTL := Lib.hid (tally_any n (onesN v) ⟨hn2, hn4⟩ (ones_le hn4 hv2))
  have HCN := Lib.hid (fun W h => Counted_any n v ⟨hn2, hn4⟩ hv2 W h)
  obtain ⟨hcm1, hcm2⟩ := tally_common ⟨hn2, hn4⟩ hv2
  obtain ⟨N, x, ok, -, hpx, -, -, -⟩ := okP_at (cnt_okP ⟨hn2, hn4⟩ hv2)
  have hwN := ok.worlds
  clear ok
  have hov := ones4 (show v < 16 by omega)
  have hcg : (((2 ^ n : Nat) : Int) - 1) = (a : Int) := by omega
  rw [hcg] at hcm1 hcm2
  generalize tallyF n (onesN v) = F at *
  generalize onesN v = ov at *
  generalize countedW n v = P at *
  obtain ⟨⟨W, V, R⟩, px⟩ := P
  obtain rfl : W = (N : Int) := hwN
  obtain rfl : px = (x : Int) := hpx
  have HCO : Hid (∀ W a1 c1 a2 c2, RN W a1 ccTrue → RN W a2 F → Calls Tryz.prog 35 #[.int .i64 (a : Int), .slice a1 ccTrue.length c1, .slice a2 F.length c2] W fun e w' => RetN (fB ⟨13, 0, 0, (a : Int), 0, 0⟩ [ccTrue, F]) e W w') := Lib.hid fun W a1 c1 a2 c2 r1 r2 => cCommon_any (a : Int) a1 c1 ccTrue a2 c2 F W r1 r2
  have HTR : Hid (∀ w, Calls Tryz.prog 36 #[] w fun e w' => RetN ccTrue e w w') := Lib.hid fun w => cTrue_any w
  have HAT : Hid (∀ W va ra vc rc a1 c1, RM W va ra ⟨(N : Int), V, R⟩ → RN W a1 (fB ⟨13, 0, 0, (a : Int), 0, 0⟩ [ccTrue, F]) → Calls Tryz.prog 34 #[.agg #[.int .i64 (N : Int), .slice va V.length vc, .slice ra R.length rc], .int .i64 (x : Int), .slice a1 (fB ⟨13, 0, 0, (a : Int), 0, 0⟩ [ccTrue, F]).length c1] W fun e w' => RetP (.bool true) 0 e W w') := Lib.hid fun W va ra vc rc a1 c1 hm hf => by
    have h := at_any ⟨(N : Int), V, R⟩ va ra vc rc (x : Int) a1 c1 _ W hm hf
    rw [hcm1, hcm2] at h
    exact h
  generalize fB ⟨13, 0, 0, (a : Int), 0, 0⟩ [ccTrue, F] = CF at *
  generalize ccTrue = TF at *
  have HT := Lib.hid hT
  have hg63 : g < 9223372036854775808 := by omega
  clear hT he1 he2 hu hz hzn hgm hv hg ha hnr hr hpa HZ hcm1 hcm2 hcg
  go_enter Tryz.func8, Tryz.ntmps8
  go_wp2_with fail
  go_quiet (fail)
  go_wp2_with fail
  clear hrI hnI hvI hgmI hgI haI
  go_loopw [41] (fun i wr => ∃ k : Nat, k ≤ n ∧ i = .int .i64 (k : Int) ∧ Ext w wr) (fun i _ => n - (intOf i).toNat)
  case atStart => exact ⟨0, Nat.zero_le _, rfl, (Ext.refl w).drewN _⟩
  case round =>
    obtain ⟨k, hk, rfl, hE⟩ := hrel
    have HE := Lib.hid hE
    clear hE
    by_cases hlt : k < n
    · have HK := Lib.hid (HG.out k hlt wr (HT.out.ext HE.out))
      have HY := Lib.hid (HWE.out k)
      generalize tallyWant n v g k = y at *
      obtain ⟨tb, htb⟩ : ∃ tb, g.testBit k = tb := ⟨_, rfl⟩
      rw [htb] at HY
      cases tb <;> cases e1 <;> cases e2
      all_goals
        have hy := HY.out
        simp at hy
        subst hy
        go_wp2_with fail
        refine HK.out.mono ?_
        rintro _ w2 ⟨rfl, hE2⟩
        dsimp only
        go_wp2_with fail
        go_roundw
        case rel => exact ⟨k + 1, hlt, by go_num, HE.out.trans hE2⟩
        case measure => simp [intOf]; omega
    · go_wp2_with fail
      refine (HCN.out _ (HT.out.ext HE.out)).mono ?_
      rintro _ w2 ⟨va, ra, vc, rc, rfl, hk2, hE2⟩
      have hA2 : Ext w2 (w2.alloc (.cells #[.int .i64 (N : Int), .slice va V.length vc, .slice ra R.length rc] 25)) := (Ext.refl w2).alloc _
      have HO2 := Lib.hid (OutAt.new w2 (.int .i64 (N : Int)) (.slice va V.length vc) (.slice ra R.length rc) 25)
      have HM2 := Lib.hid (hk2 _ (Agree.ofExt hA2))
      have HE2 := Lib.hid (HE.out.trans (hE2.trans hA2))
      clear hk2 hE2 hA2
      dsimp only
      go_wp2_with fail
      refine (HOV.out _).mono ?_
      rintro _ _ ⟨rfl, rfl⟩
      dsimp only
      go_wp2_with fail
      refine (HTL.out _).mono ?_
      rintro _ w3 ⟨fa, fc, rfl, h3, hE3⟩
      dsimp only
      have HKP : Hid (∀ w', Ext w3 w' → w'.cell? ⟨w2.heap.size, 0, none⟩ = some (.int .i64 (N : Int)) ∧ w'.cell? ⟨w2.heap.size, 1, none⟩ = some (.slice va V.length vc) ∧ w'.cell? ⟨w2.heap.size, 2, none⟩ = some (.slice ra R.length rc)) := Lib.hid fun w' e => by
        obtain ⟨c0, c1, c2, -⟩ := HO2.out.ext (hE3.trans e)
        exact ⟨c0, c1, c2⟩
      have HRF : Hid (∀ W, Ext w3 W → RN W fa F) := Lib.hid fun W e => h3.ext e
      have HRM : Hid (∀ W, Ext w3 W → RM W va ra ⟨(N : Int), V, R⟩) := Lib.hid fun W e => HM2.out.ext' (hE3.trans e)
      have HE3 := Lib.hid (HE2.out.trans hE3)
      clear h3 hE3
      obtain ⟨m0, m1, m2⟩ := HKP.out w3 (Ext.refl _)
      have ml := World.block_lt_of_cell? _ _ m0
      go_upto_region 15 with fail
      go_cut [21, 22] from 97 to 106 (fun s1 s2 wc => s1 = .bool true ∧ s2 = .int .i64 0 ∧ Hid (Ext w3 wc))
      case first =>
        go_region_held3 (fun w' => w'.cell? ⟨w2.heap.size, 0, none⟩ = some (.int .i64 (N : Int)) ∧ w'.cell? ⟨w2.heap.size, 1, none⟩ = some (.slice va V.length vc) ∧ w'.cell? ⟨w2.heap.size, 2, none⟩ = some (.slice ra R.length rc)) (first | exact HKP.out _ (Ext.refl _) | exact HKP.out _ ((Ext.refl _).drew) | exact HKP.out _ (by first | exact Ext.refl _ | exact (Ext.refl _).drew | assumption | (refine Ext.trans ?_ (by assumption); first | exact Ext.refl _ | exact (Ext.refl _).drew | assumption | (refine Ext.trans ?_ (by assumption); first | exact Ext.refl _ | exact (Ext.refl _).drew | assumption | (refine Ext.trans ?_ (by assumption); first | exact Ext.refl _ | exact (Ext.refl _).drew | assumption | (refine Ext.trans ?_ (by assumption); first | exact Ext.refl _ | exact (Ext.refl _).drew | assumption | (refine Ext.trans ?_ (by assumption); first | exact Ext.refl _ | exact (Ext.refl _).drew | assumption)))))) | go_keep)
          (first | (go_at_call 36; refine (HTR.out _).mono ?_; rintro _ wt ⟨ta, tc, rfl, hrt, hYt⟩) | (go_at_call 35; refine (HCO.out _ _ _ _ _ (by assumption) (HRF.out _ (by first | exact Ext.refl _ | exact (Ext.refl _).drew | assumption | (refine Ext.trans ?_ (by assumption); first | exact Ext.refl _ | exact (Ext.refl _).drew | assumption | (refine Ext.trans ?_ (by assumption); first | exact Ext.refl _ | exact (Ext.refl _).drew | assumption | (refine Ext.trans ?_ (by assumption); first | exact Ext.refl _ | exact (Ext.refl _).drew | assumption | (refine Ext.trans ?_ (by assumption); first | exact Ext.refl _ | exact (Ext.refl _).drew | assumption | (refine Ext.trans ?_ (by assumption); first | exact Ext.refl _ | exact (Ext.refl _).drew | assumption)))))))).mono ?_; rintro _ wd ⟨da, dc, rfl, hrd, hYd⟩) | (go_at_call 34; refine (HAT.out _ _ _ _ _ _ _ (HRM.out _ (by first | exact Ext.refl _ | exact (Ext.refl _).drew | assumption | (refine Ext.trans ?_ (by assumption); first | exact Ext.refl _ | exact (Ext.refl _).drew | assumption | (refine Ext.trans ?_ (by assumption); first | exact Ext.refl _ | exact (Ext.refl _).drew | assumption | (refine Ext.trans ?_ (by assumption); first | exact Ext.refl _ | exact (Ext.refl _).drew | assumption | (refine Ext.trans ?_ (by assumption); first | exact Ext.refl _ | exact (Ext.refl _).drew | assumption | (refine Ext.trans ?_ (by assumption); first | exact Ext.refl _ | exact (Ext.refl _).drew | assumption))))))) (by assumption)).mono ?_; rintro _ wv ⟨rfl, hYv⟩) | fail)
        all_goals
          go_wp2_with fail
          go_meet
          case rel => exact ⟨rfl, rfl, Lib.hid (by first | exact Ext.refl _ | exact (Ext.refl _).drew | assumption | (refine Ext.trans ?_ (by assumption); first | exact Ext.refl _ | exact (Ext.refl _).drew | assumption | (refine Ext.trans ?_ (by assumption); first | exact Ext.refl _ | exact (Ext.refl _).drew | assumption | (refine Ext.trans ?_ (by assumption); first | exact Ext.refl _ | exact (Ext.refl _).drew | assumption | (refine Ext.trans ?_ (by assumption); first | exact Ext.refl _ | exact (Ext.refl _).drew | assumption | (refine Ext.trans ?_ (by assumption); first | exact Ext.refl _ | exact (Ext.refl _).drew | assumption))))))⟩
      case rest =>
        obtain ⟨rfl, rfl, HEC⟩ := hcut
        rename World => w4
        go_wp2_with fail
        refine (awake44_any _ (HT.out.ext (HE3.out.trans HEC.out))).mono ?_
        rintro _ w5 ⟨rfl, hE5⟩
        dsimp only
        go_wp2_with fail
        go_ret
        exact ⟨rfl, HE3.out.trans (HEC.out.trans hE5)⟩
theorem secretsTally_int (s v c : Int) (bs : 0 ≤ s ∧ s ≤ 255) (bv : 0 ≤ v ∧ v ≤ 255) (bc : 0 ≤ c ∧ c ≤ 255) (w : World) (hT : Tab w) :
    Calls Tryz.prog 8 #[.int .u8 s, .int .u8 v, .int .u8 c] w fun e w' => e = .returned (.bool true) ∧ Ext w w' := by
  obtain ⟨s, rfl⟩ := Int.eq_ofNat_of_zero_le bs.1
  obtain ⟨v, rfl⟩ := Int.eq_ofNat_of_zero_le bv.1
  obtain ⟨c, rfl⟩ := Int.eq_ofNat_of_zero_le bc.1
  exact secretsTally_any s v c (by omega) (by omega) (by omega) w hT
end Wt

/- The law SecretsTally returns true at every input, and its arguments read behind the call as they did before. the tied card: the library's table of TrailingZeros64 lies as the program's text lays it. -/
namespace Go.Proofs.YtflnfcmbalhpnaaGreatDoor
open Go.ChangeShapes Go.WideShapes Go.ChangeAt Go.WideMaps Go.WideElems Go.RowKit

theorem own : ownKnob Tryz.prog.godebug = none := by kernel_rfl
theorem laidOut : laidOutB Tryz.prog = true := by kernel_rfl
theorem door_met (os : Os) (args : Array Value) : laidMetH Tryz.prog [("math/bits.deBruijn64tab", Rows.laid_math_bits_deBruijn64tab)] ((World.doorLaid Tryz.prog 400 os).forCall (fun _ _ => 0) ⟨#[], args, []⟩).memory := by
  rw [MakeChecks.laidMetH_plain _ _ _ (by kernel_rfl)]
  exact laidMet_of_run' 8 (by kernel_rfl) (by kernel_rfl)
set_option maxRecDepth 100000 in
set_option maxHeartbeats 1000000 in
theorem law_lifted (os : Os) (started : os.Started) (H : Type) (enc : TypeId × Value → H) :
    ReturnsInHanded {} Tryz.checked os 8 .any (fun w args => (Rows.secretsTallySpec.pre enc Tryz.prog Tryz.f8 Rows.secretsTallyRow.domain false w args ∧ laidMetH Tryz.prog [("math/bits.deBruijn64tab", Rows.laid_math_bits_deBruijn64tab)] w) ∧ sizedMet enc Tryz.prog Tryz.f8 (OpenSpec.ofChange Rows.secretsTallySpec) false w args)
      (Rows.secretsTallySpec.post enc Tryz.prog Tryz.f8 false true false false) := by
  refine returnsInHanded_of_change_and (C := Tryz.checked) (X := fun w _ => laidMetH Tryz.prog [("math/bits.deBruijn64tab", Rows.laid_math_bits_deBruijn64tab)] w) (fun _ _ _ hh h => h.of_heap hh) own started (by kernel_rfl) Tryz.func8
    (ChangeSpec.witness_shaped (enc := enc) (C := Tryz.checked) (os := os) (X := fun w _ => laidMetH Tryz.prog [("math/bits.deBruijn64tab", Rows.laid_math_bits_deBruijn64tab)] w) false (World.doorLaid Tryz.prog 400 os) #[.int .u8 0, .int .u8 0, .int .u8 0] 8 rfl (World.shaped_of_RefB (by kernel_rfl) (by kernel_rfl)) (by kernel_rfl) (by kernel_rfl) (by kernel_rfl) (door_met os _)) ?_
  intro W base args ds gs before hval0 hW _ hsz0 hL _
  have hT := of_laid hL
  have hval : ∀ (j : Nat) t v, Tryz.f8.params[j]? = some t → args[j]? = some v → Value.okWide Tryz.prog W .any base t v := hval0
  have hsz : (DataW.weightsEach Tryz.prog (Tryz.f8.params.toList ++ Rows.secretsTallySpec.plain.varTypes Tryz.prog) (ds ++ gs)).all (· ≤ reachBytes) = true := hsz0
  have hW' := hW
  obtain ⟨p, q, hA0, hV, rfl, hfz, hnd⟩ := hW
  have hA : DataW.TrodAll enc Tryz.prog W 0 (fun _ => true) true Tryz.f8.params.toList args.toList ds p := hA0
  rw [Tryz.params8] at hA hval hsz
  obtain ⟨v0, v1, v2, d0, d1, d2, p0, p1, p2, rfl, rfl, rfl, h0, h1, h2⟩ := trodAll_three hA
  obtain ⟨rfl, rfl⟩ := trodVars_none hV
  have hv0 : Rows.secretsTallySpec.plain.varTypes Tryz.prog = [] := rfl
  rw [hv0] at hsz
  have hz : ∀ n ∈ DataW.weightsEach Tryz.prog [5, 5, 5] [d0, d1, d2], n ≤ reachBytes := fun n hn => by
    have := List.all_eq_true.1 hsz n (by simpa using hn)
    simpa using this
  have k0 := h0
  have k1 := h1
  have k2 := h2
  obtain ⟨s, rfl, rfl, rfl, ws⟩ := open_int Tryz.underlying5 (hval 0 5 v0 rfl rfl) h0
  have bs := ws
  simp [Lit.wf, IntKind.min, IntKind.max, IntKind.signed, IntKind.bits] at bs
  obtain ⟨v, rfl, rfl, rfl, wv⟩ := open_int Tryz.underlying5 (hval 1 5 v1 rfl rfl) h1
  have bv := wv
  simp [Lit.wf, IntKind.min, IntKind.max, IntKind.signed, IntKind.bits] at bv
  obtain ⟨c, rfl, rfl, rfl, wc⟩ := open_int Tryz.underlying5 (hval 2 5 v2 rfl rfl) h2
  have bc := wc
  simp [Lit.wf, IntKind.min, IntKind.max, IntKind.signed, IntKind.bits] at bc
  refine (Wt.secretsTally_int s v c bs bv bc W hT).mono fun e W' he => ?_
  obtain ⟨rfl, hE⟩ := he
  have bel : Below W.heap.size W W' := hE
  refine ⟨_, rfl, ⟨_, _, _, [], [] ++ ([] ++ ([])), [], hW', trodAll_mk1 (shut_bool Tryz.underlying4 true), trodAll_mk3 (shut_int Tryz.underlying5 ws) (shut_int Tryz.underlying5 wv) (shut_int Tryz.underlying5 wc), rfl, bel.frame _, fun h => by cases h⟩⟩
theorem secretsTally_holds : Rows.SecretsTallySaid :=
  OpenClaim.holds_of_wide 8 Tryz.f8 rfl rfl rfl rfl rfl rfl rfl ⟨rfl, rfl, rfl, rfl, rfl⟩ rfl rfl rfl rfl rfl (by kernel_rfl) Tryz.func8 (by kernel_rfl)
    (of_decide_eq_true (by kernel_rfl)) (by unfold Func.isWrapper; first | (rw [if_pos (by decide +kernel)]; kernel_rfl) | (rw [if_neg (by decide +kernel)]; exact ⟨rfl, rfl⟩))
    (fun os started H enc _ => law_lifted os started H enc)
theorem secretsTally_card_holds : Rows.SecretsTallyCardSaid :=
  Claim7.holds_tied_plain_at .later [] [.data] true Rows.secretsTallyCard.stood.harness false
    secretsTally_holds (fun _ h => by cases h) (by kernel_rfl) (fun _ h => by cases h) secretsTally_row_tie rfl ⟨rfl, rfl⟩ (by kernel_rfl) rfl
    (fun f fn hf hfn => by
      obtain rfl : f = 8 := Option.some.inj ((show Tryz.prog.funcNamed "witting/wittinglaw44.SecretsTally" = some 8 by kernel_rfl).symm.trans hf) |>.symm
      obtain rfl : fn = Tryz.f8 := (Option.some.inj (Tryz.func8.symm.trans hfn)).symm
      exact ⟨by kernel_rfl, fun j t ht => by
        rw [Tryz.params8] at ht
        have hm : t ∈ [5, 5, 5] := by simpa using Array.mem_of_getElem? ht
        have hall : ([5, 5, 5].all fun u => !Tryz.prog.wantsStandIn u) = true := by kernel_rfl
        exact (show Tryz.prog.wantsStandIn t = false by simpa using List.all_eq_true.1 hall t hm)⟩)
    (by kernel_rfl)
#print axioms secretsTally_card_holds
end Go.Proofs.YtflnfcmbalhpnaaGreatDoor
