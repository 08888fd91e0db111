/- The walk of SecretsDining (printed by gen_s4c.py). -/
import Derived.Test.YtflnfcmbalhpnaaGreatDoorM5Af
import Derived.Test.YtflnfcmbalhpnaaGreatDoorM4Bp
import Derived.Test.YtflnfcmbalhpnaaGreatDoorRows
import Derived.Test.YtflnfcmbalhpnaaGreatDoorCards
import Derived.Test.YtflnfcmbalhpnaaGreatDoorTie
import Derived.Test.YtflnfcmbalhpnaaGreatDoorM4Bq
import Derived.ProofKit
import Derived.LaidMore
import Derived.SizedLaws
import Derived.SevenTiedAt
namespace Wt
open Go Go.RowKit Go.Maps Go.Proofs Fm

set_option maxRecDepth 20000 in
set_option maxHeartbeats 4000000 in
theorem secretsDining_any (n a : Int) (w : World) (hT : Tab w) :
    Calls Tryz.prog 3 #[.int .i64 n, .int .i64 a] w fun e w' => e = .returned (.bool true) ∧ Ext w w' := by
  obtain ⟨A, l, c, hD, hR⟩ := dining_both n
  obtain ⟨f, d, hS, hQ⟩ := says_both n a
  have HD := Lib.hid hD
  have HR := Lib.hid hR
  have HS := Lib.hid hS
  have HQ := Lib.hid hQ
  have HT := Lib.hid hT
  have hcc : (c == c) = true := by simp
  have hdd : (d == d) = true := by simp
  clear hD hR hS hQ hT
  go_enter Tryz.func3, Tryz.ntmps3
  go_wp2_with fail
  refine (HD.out _).mono ?_
  rintro _ w1 ⟨va, ra, la, vc, rc, lc, rfl, hk1, hE1⟩
  have hA1 : Ext w1 (w1.alloc (.cells #[.int .i64 A.worlds, .slice va A.val.length vc, .slice ra A.rel.length rc] 25)) := (Ext.refl w1).alloc _
  have HK1 := Lib.hid (hk1 _ (Agree.ofExt hA1))
  have HO1 := Lib.hid (OutAt.new w1 (.int .i64 A.worlds) (.slice va A.val.length vc) (.slice ra A.rel.length rc) 25)
  have HE1 := Lib.hid (hE1.trans hA1)
  clear hk1 hE1 hA1
  dsimp only
  go_wp2_with fail
  generalize w1.alloc (.cells #[.int .i64 A.worlds, .slice va A.val.length vc, .slice ra A.rel.length rc] 25) = w2 at *
  refine (HR.out _).mono ?_
  rintro _ w3 ⟨vb, rb, lb, vd, rd, ld, rfl, hk3, hE3⟩
  have hA3 : Ext w3 (w3.alloc (.cells #[.int .i64 A.worlds, .slice vb A.val.length vd, .slice rb A.rel.length rd] 25)) := (Ext.refl w3).alloc _
  have HK3 := Lib.hid (hk3 _ (Agree.ofExt hA3))
  have HO3 := Lib.hid (OutAt.new w3 (.int .i64 A.worlds) (.slice vb A.val.length vd) (.slice rb A.rel.length rd) 25)
  have HE3 := Lib.hid (hE3.trans hA3)
  clear hk3 hE3 hA3
  dsimp only
  go_wp2_with fail
  generalize w3.alloc (.cells #[.int .i64 A.worlds, .slice vb A.val.length vd, .slice rb A.rel.length rd] 25) = w4 at *
  refine (HS.out _).mono ?_
  rintro _ w5 ⟨fa, fc, rfl, hf5, hE5⟩
  dsimp only
  go_wp2_with fail
  refine (HQ.out _).mono ?_
  rintro _ w6 ⟨ga, gc, rfl, hg6, hE6⟩
  have HE6 := Lib.hid (hE5.trans hE6)
  have HF6 := Lib.hid (hf5.ext hE6)
  have HG6 := Lib.hid hg6
  obtain ⟨a0, a1, a2, -⟩ := HO1.out.ext (HE3.out.trans HE6.out)
  obtain ⟨b0, b1, b2, -⟩ := HO3.out.ext HE6.out
  have al := World.block_lt_of_cell? _ _ a0
  have bl := World.block_lt_of_cell? _ _ b0
  dsimp only at al bl
  clear hf5 hE5 hg6 hE6
  dsimp only
  go_wp2_with fail
  clear a0 a1 a2 b0 b1 b2 al bl
  refine (sameM_any A va ra vb rb vc rc vd rd _ (HK1.out.1.ext' (HE3.out.trans HE6.out)) (HK3.out.1.ext' HE6.out)).mono ?_
  rintro _ w7 ⟨rfl, hE7⟩
  dsimp only
  go_wp2_with fail
  refine (sameInts_any l la lb lc ld _ (HK1.out.2.ext ((HE3.out.trans HE6.out).trans hE7)) (HK3.out.2.ext (HE6.out.trans hE7))).mono ?_
  rintro _ w8 ⟨rfl, hE8⟩
  dsimp only
  go_wp2_with fail
  refine (r5Equal_any f fa ga fc gc _ (HF6.out.ext (hE7.trans hE8)) (HG6.out.ext (hE7.trans hE8))).mono ?_
  rintro _ w9 ⟨rfl, hE9⟩
  dsimp only
  have HE9 := Lib.hid (HE1.out.trans (HE3.out.trans (HE6.out.trans (hE7.trans (hE8.trans hE9)))))
  go_wp2_with fail
  refine (awake44_any _ (HT.out.ext HE9.out)).mono ?_
  rintro _ w10 ⟨rfl, hE10⟩
  dsimp only
  go_wp2_with fail
  go_ret
  exact ⟨rfl, HE9.out.trans hE10⟩
end Wt

/- The law SecretsDining returns true at every input, and its arguments read behind the call as they did before. the tied card: the library's table of TrailingZeros64 lies as the program's text lays it. -/
namespace Go.Proofs.YtflnfcmbalhpnaaGreatDoor
open Go.ChangeShapes Go.WideShapes Go.ChangeAt Go.WideMaps Go.WideElems Go.RowKit

theorem own : ownKnob Tryz.prog.godebug = none := by kernel_rfl
theorem laidOut : laidOutB Tryz.prog = true := by kernel_rfl
theorem door_met (os : Os) (args : Array Value) : laidMetH Tryz.prog [("math/bits.deBruijn64tab", Rows.laid_math_bits_deBruijn64tab)] ((World.doorLaid Tryz.prog 400 os).forCall (fun _ _ => 0) ⟨#[], args, []⟩).memory := by
  rw [MakeChecks.laidMetH_plain _ _ _ (by kernel_rfl)]
  exact laidMet_of_run' 8 (by kernel_rfl) (by kernel_rfl)
set_option maxRecDepth 100000 in
set_option maxHeartbeats 1000000 in
theorem law_lifted (os : Os) (started : os.Started) (H : Type) (enc : TypeId × Value → H) :
    ReturnsInHanded {} Tryz.checked os 3 .any (fun w args => (Rows.secretsDiningSpec.pre enc Tryz.prog Tryz.f3 Rows.secretsDiningRow.domain false w args ∧ laidMetH Tryz.prog [("math/bits.deBruijn64tab", Rows.laid_math_bits_deBruijn64tab)] w) ∧ sizedMet enc Tryz.prog Tryz.f3 (OpenSpec.ofChange Rows.secretsDiningSpec) false w args)
      (Rows.secretsDiningSpec.post enc Tryz.prog Tryz.f3 false true false false) := by
  refine returnsInHanded_of_change_and (C := Tryz.checked) (X := fun w _ => laidMetH Tryz.prog [("math/bits.deBruijn64tab", Rows.laid_math_bits_deBruijn64tab)] w) (fun _ _ _ hh h => h.of_heap hh) own started (by kernel_rfl) Tryz.func3
    (ChangeSpec.witness_shaped (enc := enc) (C := Tryz.checked) (os := os) (X := fun w _ => laidMetH Tryz.prog [("math/bits.deBruijn64tab", Rows.laid_math_bits_deBruijn64tab)] w) false (World.doorLaid Tryz.prog 400 os) #[.int .i64 0, .int .i64 0] 8 rfl (World.shaped_of_RefB (by kernel_rfl) (by kernel_rfl)) (by kernel_rfl) (by kernel_rfl) (by kernel_rfl) (door_met os _)) ?_
  intro W base args ds gs before hval0 hW _ hsz0 hL _
  have hT := of_laid hL
  have hval : ∀ (j : Nat) t v, Tryz.f3.params[j]? = some t → args[j]? = some v → Value.okWide Tryz.prog W .any base t v := hval0
  have hsz : (DataW.weightsEach Tryz.prog (Tryz.f3.params.toList ++ Rows.secretsDiningSpec.plain.varTypes Tryz.prog) (ds ++ gs)).all (· ≤ reachBytes) = true := hsz0
  have hW' := hW
  obtain ⟨p, q, hA0, hV, rfl, hfz, hnd⟩ := hW
  have hA : DataW.TrodAll enc Tryz.prog W 0 (fun _ => true) true Tryz.f3.params.toList args.toList ds p := hA0
  rw [Tryz.params3] at hA hval hsz
  obtain ⟨v0, v1, d0, d1, p0, p1, rfl, rfl, rfl, h0, h1⟩ := trodAll_two hA
  obtain ⟨rfl, rfl⟩ := trodVars_none hV
  have hv0 : Rows.secretsDiningSpec.plain.varTypes Tryz.prog = [] := rfl
  rw [hv0] at hsz
  have hz : ∀ n ∈ DataW.weightsEach Tryz.prog [3, 3] [d0, d1], n ≤ reachBytes := fun n hn => by
    have := List.all_eq_true.1 hsz n (by simpa using hn)
    simpa using this
  have k0 := h0
  have k1 := h1
  obtain ⟨n, rfl, rfl, rfl, wn⟩ := open_int Tryz.underlying3 (hval 0 3 v0 rfl rfl) h0
  obtain ⟨a, rfl, rfl, rfl, wa⟩ := open_int Tryz.underlying3 (hval 1 3 v1 rfl rfl) h1
  refine (Wt.secretsDining_any n a W hT).mono fun e W' he => ?_
  obtain ⟨rfl, hE⟩ := he
  have bel : Below W.heap.size W W' := hE
  refine ⟨_, rfl, ⟨_, _, _, [], [] ++ ([]), [], hW', trodAll_mk1 (shut_bool Tryz.underlying4 true), trodAll_mk2 (shut_int Tryz.underlying3 wn) (shut_int Tryz.underlying3 wa), rfl, bel.frame _, fun h => by cases h⟩⟩
theorem secretsDining_holds : Rows.SecretsDiningSaid :=
  OpenClaim.holds_of_wide 3 Tryz.f3 rfl rfl rfl rfl rfl rfl rfl ⟨rfl, rfl, rfl, rfl, rfl⟩ rfl rfl rfl rfl rfl (by kernel_rfl) Tryz.func3 (by kernel_rfl)
    (of_decide_eq_true (by kernel_rfl)) (by unfold Func.isWrapper; first | (rw [if_pos (by decide +kernel)]; kernel_rfl) | (rw [if_neg (by decide +kernel)]; exact ⟨rfl, rfl⟩))
    (fun os started H enc _ => law_lifted os started H enc)
theorem secretsDining_card_holds : Rows.SecretsDiningCardSaid :=
  Claim7.holds_tied_plain_at .later [] [.data] true Rows.secretsDiningCard.stood.harness false
    secretsDining_holds (fun _ h => by cases h) (by kernel_rfl) (fun _ h => by cases h) secretsDining_row_tie rfl ⟨rfl, rfl⟩ (by kernel_rfl) rfl
    (fun f fn hf hfn => by
      obtain rfl : f = 3 := Option.some.inj ((show Tryz.prog.funcNamed "witting/wittinglaw44.SecretsDining" = some 3 by kernel_rfl).symm.trans hf) |>.symm
      obtain rfl : fn = Tryz.f3 := (Option.some.inj (Tryz.func3.symm.trans hfn)).symm
      exact ⟨by kernel_rfl, fun j t ht => by
        rw [Tryz.params3] at ht
        have hm : t ∈ [3, 3] := by simpa using Array.mem_of_getElem? ht
        have hall : ([3, 3].all fun u => !Tryz.prog.wantsStandIn u) = true := by kernel_rfl
        exact (show Tryz.prog.wantsStandIn t = false by simpa using List.all_eq_true.1 hall t hm)⟩)
    (by kernel_rfl)
#print axioms secretsDining_card_holds
end Go.Proofs.YtflnfcmbalhpnaaGreatDoor
