/- Walk: wittinglaw44.alike; what Tally and Passes return on both sides. -/
import Derived.Test.YtflnfcmbalhpnaaGreatDoorM6Ac
import Derived.Test.YtflnfcmbalhpnaaGreatDoorM4Bp
import Derived.Test.YtflnfcmbalhpnaaGreatDoorRows
import Derived.Test.YtflnfcmbalhpnaaGreatDoorCards
import Derived.Test.YtflnfcmbalhpnaaGreatDoorTie
import Derived.ProofKit
import Derived.LaidMore
import Derived.SizedLaws
import Derived.SevenTiedAt
namespace Wt
open Go Go.RowKit Go.Maps Go.Proofs Fm

def AlikeP (n : Int) (f g : List Nd) : Prop := (f = [] ∧ g = []) ∨ (0 < f.length ∧ 0 < g.length ∧ tabErr f n = 0 ∧ tabErr g n = 0 ∧ tabOf f n = tabOf g n)
set_option maxHeartbeats 1000000 in
theorem alike_any (n : Int) (f g : List Nd) (fa ga : Option Addr) (fc gc : Nat) (w : World) (hf : RN w fa f) (hg : RN w ga g) (h : AlikeP n f g) :
    Calls Tryz.prog 46 #[.int .i64 n, .slice fa f.length fc, .slice ga g.length gc] w fun e w' => e = .returned (.bool true) ∧ Ext w w' := by
  rcases h with ⟨rfl, rfl⟩ | ⟨h1, h2, h3, h4, h5⟩
  · clear hf hg
    go_enter Tryz.func46, Tryz.ntmps46
    go_wp2
    go_ret
    exact ⟨rfl, Ext.refl _⟩
  · have HF := Lib.hid (table_any fa fc f n w hf)
    have HG := Lib.hid (fun w' (e : Ext w w') => r09Table_any ga gc g n w' (hg.ext e))
    rw [h3] at HF
    rw [h4, ← h5] at HG
    have e1 : ((f.length : Int) == 0) = false := beq_false_of_ne (by omega)
    have e2 : ((g.length : Int) == 0) = false := beq_false_of_ne (by omega)
    generalize tabOf f n = t at *
    clear hf hg h3 h4 h5
    go_enter Tryz.func46, Tryz.ntmps46
    go_wp2_with fail
    refine (HF.out).mono ?_
    rintro _ w1 ⟨rfl, hE1⟩
    have HE1 := Lib.hid hE1
    clear hE1
    dsimp only
    go_wp2_with fail
    refine (HG.out _ HE1.out).mono ?_
    rintro _ w2 ⟨rfl, hE2⟩
    have HE2 := Lib.hid (HE1.out.trans hE2)
    clear hE2
    dsimp only
    go_wp2_with fail
    go_ret
    exact ⟨rfl, HE2.out⟩
theorem tbl_alike {n lo hi : Nat} {g : List Nd} (h : tblOk n lo hi = true) (h2 : tblEq n lo hi g = true) : AlikeP (n : Int) g (fromF (tallyT n lo hi) n) := by
  unfold tblOk at h
  unfold tblEq at h2
  simp only [Bool.and_eq_true, decide_eq_true_eq] at h h2
  exact .inr ⟨h2.2, h.1.2, h2.1.1.1, h.2, h2.1.1.2.trans h2.1.2.symm⟩
theorem tally_both (n k : Int) : ∃ f g c, AlikeP n f g ∧ (∀ w, Calls Tryz.prog 33 #[.int .i64 n, .int .i64 k] w fun e w' => RetNe f c e w w') ∧ (∀ w, Calls Tryz.prog 43 #[.int .i64 n, .int .i64 k] w fun e w' => RetNe g c e w w') := by
  cases hb : btw n 2 4
  · exact ⟨[], [], 2, .inl ⟨rfl, rfl⟩, tallyNo_any n k (.inl hb), r44tallyNo_any n k (.inl hb)⟩
  · cases hb2 : btw k 0 n
    · exact ⟨[], [], 2, .inl ⟨rfl, rfl⟩, tallyNo_any n k (.inr ⟨hb, hb2⟩), r44tallyNo_any n k (.inr ⟨hb, hb2⟩)⟩
    · obtain ⟨h1, h2⟩ := btw_true hb
      obtain ⟨h3, h4⟩ := btw_true hb2
      obtain ⟨N, rfl⟩ := Int.eq_ofNat_of_zero_le (show 0 ≤ n by omega)
      obtain ⟨x, rfl⟩ := Int.eq_ofNat_of_zero_le h3
      have hN : 2 ≤ N ∧ N ≤ 4 := by omega
      have hx : x ≤ N := by omega
      obtain ⟨t1, t2, t3, t4⟩ := tbl_ok hN hx
      exact ⟨_, _, 0, tbl_alike t1 t3, tally_any N x hN hx, r44tally_any N x hN hx⟩
theorem passes_both (n k : Int) : ∃ f g c, AlikeP n f g ∧ (∀ w, Calls Tryz.prog 44 #[.int .i64 n, .int .i64 k] w fun e w' => RetNe f c e w w') ∧ (∀ w, Calls Tryz.prog 45 #[.int .i64 n, .int .i64 k] w fun e w' => RetNe g c e w w') := by
  cases hb : btw n 2 4
  · exact ⟨[], [], 2, .inl ⟨rfl, rfl⟩, passesNo_any n k (.inl hb), r44passesNo_any n k (.inl hb)⟩
  · cases hb2 : btw k 0 n
    · exact ⟨[], [], 2, .inl ⟨rfl, rfl⟩, passesNo_any n k (.inr ⟨hb, hb2⟩), r44passesNo_any n k (.inr ⟨hb, hb2⟩)⟩
    · obtain ⟨h1, h2⟩ := btw_true hb
      obtain ⟨h3, h4⟩ := btw_true hb2
      obtain ⟨N, rfl⟩ := Int.eq_ofNat_of_zero_le (show 0 ≤ n by omega)
      obtain ⟨x, rfl⟩ := Int.eq_ofNat_of_zero_le h3
      have hN : 2 ≤ N ∧ N ≤ 4 := by omega
      have hx : x ≤ N := by omega
      obtain ⟨t1, t2, t3, t4⟩ := tbl_ok hN hx
      exact ⟨_, _, 0, tbl_alike t2 t4, passes_any N x hN hx, r44passes_any N x hN hx⟩
end Wt

namespace Wt
open Go Go.RowKit Go.Maps Go.Proofs Fm

set_option maxRecDepth 20000 in
set_option maxHeartbeats 4000000 in
theorem secretsVotes_any (n k : Int) (w : World) (hT : Tab w) :
    Calls Tryz.prog 10 #[.int .i64 n, .int .i64 k] w fun e w' => e = .returned (.bool true) ∧ Ext w w' := by
  obtain ⟨A, c, hD, hR⟩ := votes_both n
  obtain ⟨f, g, d, ha, hS, hQ⟩ := tally_both n k
  obtain ⟨p, q, x, hb, hP, hZ⟩ := passes_both n k
  have HD := Lib.hid hD
  have HR := Lib.hid hR
  have HS := Lib.hid hS
  have HQ := Lib.hid hQ
  have HP := Lib.hid hP
  have HZ := Lib.hid hZ
  have HAA := Lib.hid ha
  have HAB := Lib.hid hb
  have HT := Lib.hid hT
  have hcc : (c == c) = true := by simp
  have hdd : (d == d) = true := by simp
  have hxx : (x == x) = true := by simp
  clear hD hR hS hQ hP hZ ha hb hT
  go_enter Tryz.func10, Tryz.ntmps10
  go_wp2_with fail
  refine (HD.out _).mono ?_
  rintro _ w1 ⟨va, ra, vc, rc, rfl, hk1, hE1⟩
  have hA1 : Ext w1 (w1.alloc (.cells #[.int .i64 A.worlds, .slice va A.val.length vc, .slice ra A.rel.length rc] 25)) := (Ext.refl w1).alloc _
  have HK1 := Lib.hid (hk1 _ (Agree.ofExt hA1))
  have HO1 := Lib.hid (OutAt.new w1 (.int .i64 A.worlds) (.slice va A.val.length vc) (.slice ra A.rel.length rc) 25)
  have HE1 := Lib.hid (hE1.trans hA1)
  clear hk1 hE1 hA1
  dsimp only
  go_wp2_with fail
  generalize w1.alloc (.cells #[.int .i64 A.worlds, .slice va A.val.length vc, .slice ra A.rel.length rc] 25) = w2 at *
  refine (HR.out _).mono ?_
  rintro _ w3 ⟨vb, rb, vd, rd, rfl, hk3, hE3⟩
  have hA3 : Ext w3 (w3.alloc (.cells #[.int .i64 A.worlds, .slice vb A.val.length vd, .slice rb A.rel.length rd] 25)) := (Ext.refl w3).alloc _
  have HK3 := Lib.hid (hk3 _ (Agree.ofExt hA3))
  have HO3 := Lib.hid (OutAt.new w3 (.int .i64 A.worlds) (.slice vb A.val.length vd) (.slice rb A.rel.length rd) 25)
  have HE3 := Lib.hid (hE3.trans hA3)
  clear hk3 hE3 hA3
  dsimp only
  go_wp2_with fail
  generalize w3.alloc (.cells #[.int .i64 A.worlds, .slice vb A.val.length vd, .slice rb A.rel.length rd] 25) = w4 at *
  refine (HS.out _).mono ?_
  rintro _ w5 ⟨fa, fc, rfl, hf5, hE5⟩
  dsimp only
  go_wp2_with fail
  refine (HQ.out _).mono ?_
  rintro _ w6 ⟨ga, gc, rfl, hg6, hE6⟩
  dsimp only
  go_wp2_with fail
  refine (HP.out _).mono ?_
  rintro _ w7 ⟨pa, pc, rfl, hp7, hE7⟩
  dsimp only
  go_wp2_with fail
  refine (HZ.out _).mono ?_
  rintro _ w8 ⟨qa, qc, rfl, hq8, hE8⟩
  have HE8 := Lib.hid (hE5.trans (hE6.trans (hE7.trans hE8)))
  have HF := Lib.hid (hf5.ext (hE6.trans (hE7.trans hE8)))
  have HG := Lib.hid (hg6.ext (hE7.trans hE8))
  have HPP := Lib.hid (hp7.ext hE8)
  have HQQ := Lib.hid hq8
  obtain ⟨a0, a1, a2, -⟩ := HO1.out.ext (HE3.out.trans HE8.out)
  obtain ⟨b0, b1, b2, -⟩ := HO3.out.ext HE8.out
  have al := World.block_lt_of_cell? _ _ a0
  have bl := World.block_lt_of_cell? _ _ b0
  dsimp only at al bl
  clear hf5 hE5 hg6 hE6 hp7 hE7 hq8 hE8
  dsimp only
  go_wp2_with fail
  clear a0 a1 a2 b0 b1 b2 al bl
  refine (sameM_any A va ra vb rb vc rc vd rd _ (HK1.out.ext' (HE3.out.trans HE8.out)) (HK3.out.ext' HE8.out)).mono ?_
  rintro _ w9 ⟨rfl, hE9⟩
  dsimp only
  go_wp2_with fail
  refine (alike_any n f g fa ga fc gc _ (HF.out.ext hE9) (HG.out.ext hE9) HAA.out).mono ?_
  rintro _ wa ⟨rfl, hEa⟩
  dsimp only
  go_wp2_with fail
  refine (alike_any n p q pa qa pc qc _ (HPP.out.ext (hE9.trans hEa)) (HQQ.out.ext (hE9.trans hEa)) HAB.out).mono ?_
  rintro _ wb ⟨rfl, hEb⟩
  dsimp only
  have HE9 := Lib.hid (HE1.out.trans (HE3.out.trans (HE8.out.trans (hE9.trans (hEa.trans hEb)))))
  go_wp2_with fail
  refine (awake44_any _ (HT.out.ext HE9.out)).mono ?_
  rintro _ wd ⟨rfl, hEd⟩
  dsimp only
  go_wp2_with fail
  go_ret
  exact ⟨rfl, HE9.out.trans hEd⟩
end Wt

namespace Go.Proofs.YtflnfcmbalhpnaaGreatDoor
open Go.ChangeShapes Go.WideShapes Go.ChangeAt Go.WideMaps Go.WideElems Go.RowKit

theorem own : ownKnob Tryz.prog.godebug = none := by kernel_rfl
theorem laidOut : laidOutB Tryz.prog = true := by kernel_rfl
theorem door_met (os : Os) (args : Array Value) : laidMetH Tryz.prog [("math/bits.deBruijn64tab", Rows.laid_math_bits_deBruijn64tab)] ((World.doorLaid Tryz.prog 400 os).forCall (fun _ _ => 0) ⟨#[], args, []⟩).memory := by
  rw [MakeChecks.laidMetH_plain _ _ _ (by kernel_rfl)]
  exact laidMet_of_run' 8 (by kernel_rfl) (by kernel_rfl)
set_option maxRecDepth 100000 in
set_option maxHeartbeats 1000000 in
theorem law_lifted (os : Os) (started : os.Started) (H : Type) (enc : TypeId × Value → H) :
    ReturnsInHanded {} Tryz.checked os 10 .any (fun w args => (Rows.secretsVotesSpec.pre enc Tryz.prog Tryz.f10 Rows.secretsVotesRow.domain false w args ∧ laidMetH Tryz.prog [("math/bits.deBruijn64tab", Rows.laid_math_bits_deBruijn64tab)] w) ∧ sizedMet enc Tryz.prog Tryz.f10 (OpenSpec.ofChange Rows.secretsVotesSpec) false w args)
      (Rows.secretsVotesSpec.post enc Tryz.prog Tryz.f10 false true false false) := by
  refine returnsInHanded_of_change_and (C := Tryz.checked) (X := fun w _ => laidMetH Tryz.prog [("math/bits.deBruijn64tab", Rows.laid_math_bits_deBruijn64tab)] w) (fun _ _ _ hh h => h.of_heap hh) own started (by kernel_rfl) Tryz.func10
    (ChangeSpec.witness_shaped (enc := enc) (C := Tryz.checked) (os := os) (X := fun w _ => laidMetH Tryz.prog [("math/bits.deBruijn64tab", Rows.laid_math_bits_deBruijn64tab)] w) false (World.doorLaid Tryz.prog 400 os) #[.int .i64 0, .int .i64 0] 8 rfl (World.shaped_of_RefB (by kernel_rfl) (by kernel_rfl)) (by kernel_rfl) (by kernel_rfl) (by kernel_rfl) (door_met os _)) ?_
  intro W base args ds gs before hval0 hW _ hsz0 hL _
  have hT := of_laid hL
  have hval : ∀ (j : Nat) t v, Tryz.f10.params[j]? = some t → args[j]? = some v → Value.okWide Tryz.prog W .any base t v := hval0
  have hsz : (DataW.weightsEach Tryz.prog (Tryz.f10.params.toList ++ Rows.secretsVotesSpec.plain.varTypes Tryz.prog) (ds ++ gs)).all (· ≤ reachBytes) = true := hsz0
  have hW' := hW
  obtain ⟨p, q, hA0, hV, rfl, hfz, hnd⟩ := hW
  have hA : DataW.TrodAll enc Tryz.prog W 0 (fun _ => true) true Tryz.f10.params.toList args.toList ds p := hA0
  rw [Tryz.params10] at hA hval hsz
  obtain ⟨v0, v1, d0, d1, p0, p1, rfl, rfl, rfl, h0, h1⟩ := trodAll_two hA
  obtain ⟨rfl, rfl⟩ := trodVars_none hV
  have hv0 : Rows.secretsVotesSpec.plain.varTypes Tryz.prog = [] := rfl
  rw [hv0] at hsz
  have hz : ∀ n ∈ DataW.weightsEach Tryz.prog [3, 3] [d0, d1], n ≤ reachBytes := fun n hn => by
    have := List.all_eq_true.1 hsz n (by simpa using hn)
    simpa using this
  have k0 := h0
  have k1 := h1
  obtain ⟨n, rfl, rfl, rfl, wn⟩ := open_int Tryz.underlying3 (hval 0 3 v0 rfl rfl) h0
  obtain ⟨k, rfl, rfl, rfl, wk⟩ := open_int Tryz.underlying3 (hval 1 3 v1 rfl rfl) h1
  refine (Wt.secretsVotes_any n k W hT).mono fun e W' he => ?_
  obtain ⟨rfl, hE⟩ := he
  have bel : Below W.heap.size W W' := hE
  refine ⟨_, rfl, ⟨_, _, _, [], [] ++ ([]), [], hW', trodAll_mk1 (shut_bool Tryz.underlying4 true), trodAll_mk2 (shut_int Tryz.underlying3 wn) (shut_int Tryz.underlying3 wk), rfl, bel.frame _, fun h => by cases h⟩⟩
theorem secretsVotes_holds : Rows.SecretsVotesSaid :=
  OpenClaim.holds_of_wide 10 Tryz.f10 rfl rfl rfl rfl rfl rfl rfl ⟨rfl, rfl, rfl, rfl, rfl⟩ rfl rfl rfl rfl rfl (by kernel_rfl) Tryz.func10 (by kernel_rfl)
    (of_decide_eq_true (by kernel_rfl)) (by unfold Func.isWrapper; first | (rw [if_pos (by decide +kernel)]; kernel_rfl) | (rw [if_neg (by decide +kernel)]; exact ⟨rfl, rfl⟩))
    (fun os started H enc _ => law_lifted os started H enc)
theorem secretsVotes_card_holds : Rows.SecretsVotesCardSaid :=
  Claim7.holds_tied_plain_at .later [] [.data] true Rows.secretsVotesCard.stood.harness false
    secretsVotes_holds (fun _ h => by cases h) (by kernel_rfl) (fun _ h => by cases h) secretsVotes_row_tie rfl ⟨rfl, rfl⟩ (by kernel_rfl) rfl
    (fun f fn hf hfn => by
      obtain rfl : f = 10 := Option.some.inj ((show Tryz.prog.funcNamed "witting/wittinglaw44.SecretsVotes" = some 10 by kernel_rfl).symm.trans hf) |>.symm
      obtain rfl : fn = Tryz.f10 := (Option.some.inj (Tryz.func10.symm.trans hfn)).symm
      exact ⟨by kernel_rfl, fun j t ht => by
        rw [Tryz.params10] at ht
        have hm : t ∈ [3, 3] := by simpa using Array.mem_of_getElem? ht
        have hall : ([3, 3].all fun u => !Tryz.prog.wantsStandIn u) = true := by kernel_rfl
        exact (show Tryz.prog.wantsStandIn t = false by simpa using List.all_eq_true.1 hall t hm)⟩)
    (by kernel_rfl)
#print axioms secretsVotes_card_holds
end Go.Proofs.YtflnfcmbalhpnaaGreatDoor
