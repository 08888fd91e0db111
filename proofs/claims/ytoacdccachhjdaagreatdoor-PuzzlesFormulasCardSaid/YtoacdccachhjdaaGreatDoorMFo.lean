/- Walks: wittingref32.Rounds; PuzzlesFormulas (printed by gen_lfo.py). -/
import Derived.Test.YtoacdccachhjdaaGreatDoorMAFb
import Derived.Test.YtoacdccachhjdaaGreatDoorMACh
import Derived.Test.YtoacdccachhjdaaGreatDoorRows
import Derived.Test.YtoacdccachhjdaaGreatDoorCards
import Derived.Test.YtoacdccachhjdaaGreatDoorTie
import Derived.Test.YtoacdccachhjdaaGreatDoorMAAx
import Derived.ProofKit
import Derived.LaidMore
import Derived.SizedLaws
import Derived.SevenTiedAt
namespace Wt
open Go Go.RowKit Go.Maps Go.Proofs Fm

/-- How many bits below k are set. -/
def cntB (v : Nat) : Nat → Nat
  | 0 => 0
  | k + 1 => cntB v k + if v.testBit k then 1 else 0
theorem cntB_le (v : Nat) : ∀ k, cntB v k ≤ k
  | 0 => Nat.le_refl _
  | k + 1 => by
    have := cntB_le v k
    unfold cntB
    split <;> omega
theorem cnt_tab : ∀ n : _root_.Fin 5, ∀ v : _root_.Fin 16, v.val < 2 ^ n.val → cntB v.val n.val = onesN v.val := by decide +kernel
set_option maxHeartbeats 2000000 in
theorem r32rounds_any (n m : Int) (w : World) :
    Calls Tryz.prog 41 #[.int .i64 n, .int .i64 m] w fun e w' => e = .returned (.tuple #[.int .i64 (rouK n m), .int .i64 (rouE n m)]) ∧ w = w' := by
  by_cases c0 : n < 1
  · have d0 : decide (n < 1) = true := decide_eq_true c0
    have HN : Hid (rouE n m = 2) := Lib.hid (if_pos (.inl c0))
    have HK : Hid (rouK n m = 0) := Lib.hid (if_neg (by rw [HN.out]; decide))
    clear c0
    go_enter Tryz.func41, Tryz.ntmps41
    go_wp2_with fail
    go_ret2
    exact ⟨by rw [HN.out, HK.out]; rfl, rfl⟩
  have d0 : decide (n < 1) = false := decide_eq_false c0
  by_cases c1 : 4 < n
  · have d1 : decide ((4 : Int) < n) = true := decide_eq_true c1
    have HN : Hid (rouE n m = 2) := Lib.hid (if_pos (.inr c1))
    have HK : Hid (rouK n m = 0) := Lib.hid (if_neg (by rw [HN.out]; decide))
    clear c0 c1
    go_enter Tryz.func41, Tryz.ntmps41
    go_wp2_with fail
    go_ret2
    exact ⟨by rw [HN.out, HK.out]; rfl, rfl⟩
  have d1 : decide ((4 : Int) < n) = false := decide_eq_false c1
  have hE : rouE n m = if m < 0 ∨ 2 ^ n.toNat ≤ m then 1 else if m = 0 then 6 else 0 := if_neg (by omega)
  obtain ⟨nn, hnn⟩ : ∃ nn : Nat, n = (nn : Int) := ⟨n.toNat, by omega⟩
  subst hnn
  rw [Int.toNat_natCast] at hE
  have h63 : nn < 63 := by omega
  by_cases c2 : m < 0
  · have d2 : decide (m < 0) = true := decide_eq_true c2
    have HN : Hid (rouE (nn : Int) m = 1) := Lib.hid (by rw [hE, if_pos (.inl c2)])
    have HK : Hid (rouK (nn : Int) m = 0) := Lib.hid (if_neg (by rw [HN.out]; decide))
    clear c0 c1 c2 hE
    go_enter Tryz.func41, Tryz.ntmps41
    go_wp2_with fail
    go_ret2
    exact ⟨by rw [HN.out, HK.out]; rfl, rfl⟩
  have d2 : decide (m < 0) = false := decide_eq_false c2
  obtain ⟨q, hq⟩ : ∃ q : Nat, q = 2 ^ nn := ⟨_, rfl⟩
  have hp : p2 nn = (q : Int) := by rw [hq]; rfl
  have hq16 : q ≤ 16 := by
    have : 2 ^ nn ≤ 2 ^ 4 := Nat.pow_le_pow_right (by omega) (by omega)
    omega
  have hE2 : rouE (nn : Int) m = if (q : Int) ≤ m then 1 else if m = 0 then 6 else 0 := by
    have e : ((2 : Int) ^ nn) = (q : Int) := by rw [hq]; simp
    rw [hE, e]
    by_cases h : (q : Int) ≤ m
    · rw [if_pos (.inr h), if_pos h]
    · rw [if_neg (by omega), if_neg h]
  have hq1 : 1 ≤ q := by rw [hq]; exact Nat.one_le_two_pow
  have HQQ := Lib.hid hq
  clear hE hq
  by_cases c3 : (q : Int) ≤ m
  · have d3 : decide ((q : Int) ≤ m) = true := decide_eq_true c3
    have HN : Hid (rouE (nn : Int) m = 1) := Lib.hid (by rw [hE2, if_pos c3])
    have HK : Hid (rouK (nn : Int) m = 0) := Lib.hid (if_neg (by rw [HN.out]; decide))
    clear c0 c1 c2 c3 hE2
    go_enter Tryz.func41, Tryz.ntmps41
    go_wp2_with fail
    go_ret2
    exact ⟨by rw [HN.out, HK.out]; rfl, rfl⟩
  have d3 : decide ((q : Int) ≤ m) = false := decide_eq_false c3
  obtain ⟨mm, hmm⟩ : ∃ mm : Nat, m = (mm : Int) := ⟨m.toNat, by omega⟩
  subst hmm
  have hqm : ¬ q ≤ mm := by omega
  by_cases c4 : mm = 0
  · subst c4
    have hq0 : decide (q = 0) = false := decide_eq_false (by omega)
    have HN : Hid (rouE (nn : Int) ((0 : Nat) : Int) = 6) := Lib.hid (by rw [hE2, if_neg c3]; rfl)
    have HK : Hid (rouK (nn : Int) ((0 : Nat) : Int) = 0) := Lib.hid (if_neg (by rw [HN.out]; decide))
    clear c0 c1 c2 c3 hE2
    go_enter Tryz.func41, Tryz.ntmps41
    go_wp2_with fail
    go_ret2
    exact ⟨by rw [HN.out, HK.out]; rfl, rfl⟩
  · have d4 : ((mm : Int) == 0) = false := by rw [beq_eq_false_iff_ne]; omega
    have HN : Hid (rouE (nn : Int) (mm : Int) = 0) := Lib.hid (by rw [hE2, if_neg c3, if_neg (by omega)])
    have HK : Hid (rouK (nn : Int) (mm : Int) = (onesN mm : Int)) := Lib.hid (by unfold rouK; rw [if_pos HN.out, Int.toNat_natCast])
    have HCN : Hid (cntB mm nn = onesN mm) := Lib.hid (cnt_tab ⟨nn, by omega⟩ ⟨mm, by omega⟩ (by show mm < 2 ^ nn; rw [← HQQ.out]; omega))
    have hm64 : mm < 64 := by omega
    clear c0 c1 c2 c3 hE2
    go_enter Tryz.func41, Tryz.ntmps41
    go_wp2_with fail
    clear hp hqm d3
    go_loop [6, 7] (fun c i => ∃ j : Nat, j ≤ nn ∧ i = .int .i64 (j : Int) ∧ c = .int .i64 ((cntB mm j : Nat) : Int)) (fun _ i => nn - (RowKit.intOf i).toNat)
    case atStart => exact ⟨0, Nat.zero_le _, rfl, rfl⟩
    case round =>
      obtain ⟨j, hj, rfl, rfl⟩ := hrel
      by_cases hjn : j < nn
      · have hcl := cntB_le mm j
        obtain ⟨bb, hbb⟩ : ∃ bb, mm.testBit j = bb := ⟨_, rfl⟩
        have HST : Hid (cntB mm (j + 1) = cntB mm j + if mm.testBit j then 1 else 0) := Lib.hid rfl
        rw [hbb] at HST
        generalize cntB mm j = c at *
        cases bb
        · have hb1 : b01 mm j = 0 := by unfold b01; rw [hbb]; rfl
          have hb2 : bits .and .i64 ((mm : Int) / 2 ^ j) 1 = 0 := by rw [and_divZ]; exact hb1
          have HS2 : Hid (cntB mm (j + 1) = c) := Lib.hid (by rw [HST.out]; rfl)
          clear hbb
          go_wp2_with fail
          go_round
          case rel => exact ⟨j + 1, hjn, by go_num, by rw [HS2.out]⟩
          case measure => simp [RowKit.intOf]; omega
        · have hb1 : b01 mm j = 1 := by unfold b01; rw [hbb]; rfl
          have hb2 : bits .and .i64 ((mm : Int) / 2 ^ j) 1 = 1 := by rw [and_divZ]; exact hb1
          have HS2 : Hid (cntB mm (j + 1) = c + 1) := Lib.hid (by rw [HST.out]; rfl)
          clear hbb
          go_wp2_with fail
          go_round
          case rel => exact ⟨j + 1, hjn, by go_num, by rw [HS2.out]; go_num⟩
          case measure => simp [RowKit.intOf]; omega
      · obtain rfl : nn = j := by omega
        rw [HCN.out]
        go_wp2_with fail
        go_ret2
        exact ⟨by rw [HN.out, HK.out]; rfl, rfl⟩
theorem RetNFe.e2 {l : List Nd} {c : Int} {e : Ending} {w w' : World} (h : RetNFe l c e w w') : RetNe2 l c e w w' := by
  obtain ⟨a, p, h1, h2, -, h3⟩ := h
  exact ⟨a, p, h1, h2, h3⟩
set_option maxRecDepth 20000 in
set_option maxHeartbeats 8000000 in
theorem puzzlesFormulas_any (n k : Int) (fa : Option Addr) (fc : Nat) (f : List Nd) (w : World) (hT : Tab w) (hf : RN w fa f) :
    Calls Tryz.prog 8 #[.int .i64 n, .int .i64 k, .slice fa f.length fc] w fun e w' => e = .returned (.bool true) ∧ Ext w w' := by
  have HTT : Hid (∀ W, Ext w W → Tab W) := Lib.hid fun W h => hT.ext h
  have HF := Lib.hid hf
  have hfl := hf.len
  have HX0 : Hid (Ext w w) := Lib.hid (Ext.refl w)
  clear hT hf
  by_cases h60 : 60 < f.length
  · have d0 : decide ((60 : Int) < (f.length : Int)) = true := decide_eq_true (by omega)
    go_enter Tryz.func8, Tryz.ntmps8
    go_wp2_with fail
    refine (awake32_any _ (HTT.out _ HX0.out)).mono ?_
    rintro _ w9 ⟨rfl, hE9⟩
    dsimp only
    go_wp2_with fail
    go_ret
    exact ⟨rfl, hE9⟩
  have d0 : decide ((60 : Int) < (f.length : Int)) = false := decide_eq_false (by omega)
  have XW1 : Hid (∀ W, Ext w W → Calls Tryz.prog 30 #[.int .i64 n, .slice fa f.length fc] W fun e w' => RetNe2 (whG n f) (whE n f) e W w') := Lib.hid fun W h => (whether_any n fa fc f W (HF.out.ext h)).mono fun _ _ h => h.e2
  have XW2 : Hid (∀ W, Ext w W → Calls Tryz.prog 38 #[.int .i64 n, .slice fa f.length fc] W fun e w' => RetNe2 (whG n f) (whE n f) e W w') := Lib.hid fun W h => (r32whether_any n fa fc f W (HF.out.ext h) (by omega)).mono fun _ _ h => h.e2
  have XS1 : Hid (∀ W, Ext w W → Calls Tryz.prog 29 #[.int .i64 n] W fun e w' => RetNe2 (siO n) (siE n) e W w') := Lib.hid fun W _ => silence_all n W
  have XS2 : Hid (∀ W, Ext w W → Calls Tryz.prog 40 #[.int .i64 n] W fun e w' => RetNe2 (siO n) (siE n) e W w') := Lib.hid fun W _ => r32silence_all n W
  have XR1 := Lib.hid (fun W => rounds_any n k W)
  have XR2 := Lib.hid (fun W => r32rounds_any n k W)
  have XV : Hid (∀ x : Int, ∃ (V : List Nd) (e : Int), (∀ W, Ext w W → Calls Tryz.prog 42 #[.int .i64 n, .int .i64 k, .int .i64 x] W fun en w' => RetNe2 V e en W w') ∧ ∀ W, Ext w W → Calls Tryz.prog 43 #[.int .i64 n, .int .i64 k, .int .i64 x] W fun en w' => RetNe2 V e en W w') := Lib.hid fun x => ⟨_, _, fun W _ => value_all n k x W, fun W _ => r32value_all n k x W⟩
  have XL : Hid (∀ i : Int, ∃ (V : List Nd) (e : Int), (∀ W, Ext w W → Calls Tryz.prog 33 #[.int .i64 i, .int .i64 n, .int .i64 k] W fun en w' => RetNe2 V e en W w') ∧ ∀ W, Ext w W → Calls Tryz.prog 44 #[.int .i64 i, .int .i64 n, .int .i64 k] W fun en w' => RetNe2 V e en W w') := Lib.hid fun i => ⟨_, _, fun W _ => learned_all i n k W, fun W _ => r32learned_all i n k W⟩
  generalize whG n f = L1 at *
  generalize whE n f = e1 at *
  generalize siO n = L2 at *
  generalize siE n = e2 at *
  generalize rouK n k = r1 at *
  generalize rouE n k = e3 at *
  have n1 : (e1 != e1) = false := by simp
  have n2 : (e2 != e2) = false := by simp
  have n3 : (e3 != e3) = false := by simp
  have n4 : (r1 != r1) = false := by simp
  go_enter Tryz.func8, Tryz.ntmps8
  go_wp2_with fail
  refine (XW1.out _ HX0.out).mono ?_
  rintro _ w1a ⟨a1, c1, rfl, h1, hE1⟩
  have HA1 := Lib.hid h1
  have HXA := Lib.hid (HX0.out.trans hE1)
  clear h1 hE1
  dsimp only
  go_wp2_with fail
  refine (XW2.out _ HXA.out).mono ?_
  rintro _ w1b ⟨a2, c2, rfl, h2, hE2⟩
  have HEQ := Lib.hid (r5EqualZ_any L1 a1 a2 c1 c2 _ (HA1.out.ext hE2) h2)
  have HXB := Lib.hid (HXA.out.trans hE2)
  clear h2 hE2 HA1 HXA
  dsimp only
  go_wp2_with fail
  refine HEQ.out.mono ?_
  rintro _ w1c ⟨rfl, hE3⟩
  have HX1 := Lib.hid (HXB.out.trans hE3)
  clear hE3 HEQ HXB
  dsimp only
  go_wp2_with fail
  refine (XS1.out _ HX1.out).mono ?_
  rintro _ w2a ⟨a1, c1, rfl, h1, hE1⟩
  have HA1 := Lib.hid h1
  have HXA := Lib.hid (HX1.out.trans hE1)
  clear h1 hE1
  dsimp only
  go_wp2_with fail
  refine (XS2.out _ HXA.out).mono ?_
  rintro _ w2b ⟨a2, c2, rfl, h2, hE2⟩
  have HEQ := Lib.hid (r5EqualZ_any L2 a1 a2 c1 c2 _ (HA1.out.ext hE2) h2)
  have HXB := Lib.hid (HXA.out.trans hE2)
  clear h2 hE2 HA1 HXA
  dsimp only
  go_wp2_with fail
  refine HEQ.out.mono ?_
  rintro _ w2c ⟨rfl, hE3⟩
  have HX2 := Lib.hid (HXB.out.trans hE3)
  clear hE3 HEQ HXB
  dsimp only
  go_wp2_with fail
  refine (XR1.out _).mono ?_
  rintro _ _ ⟨rfl, rfl⟩
  dsimp only
  go_wp2_with fail
  refine (XR2.out _).mono ?_
  rintro _ _ ⟨rfl, rfl⟩
  dsimp only
  go_wp2_with fail
  go_loopw [13] (fun i wr => ∃ j : Nat, j ≤ 4 ∧ i = .int .i64 (j : Int) ∧ Hid (Ext w wr)) (fun i _ => 4 - (RowKit.intOf i).toNat)
  case atStart => exact ⟨0, Nat.zero_le _, rfl, HX2⟩
  case round =>
    obtain ⟨j, hj, rfl, HXj⟩ := hrel
    by_cases hj4 : j < 4
    · obtain ⟨V, ev, hv1, hv2⟩ := XV.out (5 * (j : Int) - 2)
      obtain ⟨Q, eq, hq1, hq2⟩ := XL.out (j : Int)
      have XV1 := Lib.hid hv1
      have XV2 := Lib.hid hv2
      have XL1 := Lib.hid hq1
      have XL2 := Lib.hid hq2
      have n5 : (ev != ev) = false := by simp
      have n6 : (eq != eq) = false := by simp
      have dj : decide ((j : Int) < 4) = true := decide_eq_true (by omega)
      clear hv1 hv2 hq1 hq2
      go_wp2_with fail
      refine (XV1.out _ HXj.out).mono ?_
      rintro _ w3a ⟨a1, c1, rfl, h1, hE1⟩
      have HA1 := Lib.hid h1
      have HXA := Lib.hid (HXj.out.trans hE1)
      clear h1 hE1
      dsimp only
      go_wp2_with fail
      refine (XV2.out _ HXA.out).mono ?_
      rintro _ w3b ⟨a2, c2, rfl, h2, hE2⟩
      have HEQ := Lib.hid (r5EqualZ_any V a1 a2 c1 c2 _ (HA1.out.ext hE2) h2)
      have HXB := Lib.hid (HXA.out.trans hE2)
      clear h2 hE2 HA1 HXA
      dsimp only
      go_wp2_with fail
      refine HEQ.out.mono ?_
      rintro _ w3c ⟨rfl, hE3⟩
      have HX3 := Lib.hid (HXB.out.trans hE3)
      clear hE3 HEQ HXB
      dsimp only
      go_wp2_with fail
      refine (XL1.out _ HX3.out).mono ?_
      rintro _ w4a ⟨a1, c1, rfl, h1, hE1⟩
      have HA1 := Lib.hid h1
      have HXA := Lib.hid (HX3.out.trans hE1)
      clear h1 hE1
      dsimp only
      go_wp2_with fail
      refine (XL2.out _ HXA.out).mono ?_
      rintro _ w4b ⟨a2, c2, rfl, h2, hE2⟩
      have HEQ := Lib.hid (r5EqualZ_any Q a1 a2 c1 c2 _ (HA1.out.ext hE2) h2)
      have HXB := Lib.hid (HXA.out.trans hE2)
      clear h2 hE2 HA1 HXA
      dsimp only
      go_wp2_with fail
      refine HEQ.out.mono ?_
      rintro _ w4c ⟨rfl, hE3⟩
      have HX4 := Lib.hid (HXB.out.trans hE3)
      clear hE3 HEQ HXB
      dsimp only
      go_wp2_with fail
      go_roundw
      case rel => exact ⟨j + 1, hj4, by go_num, HX4⟩
      case measure => simp [RowKit.intOf]; omega
    · obtain rfl : j = 4 := by omega
      go_wp2_with fail
      refine (awake32_any _ (HTT.out _ HXj.out)).mono ?_
      rintro _ w9 ⟨rfl, hE9⟩
      dsimp only
      go_wp2_with fail
      go_ret
      exact ⟨rfl, HXj.out.trans hE9⟩
end Wt

/- The law PuzzlesFormulas returns true at every input, and its arguments read behind the call as they did before. the tied card: the library's table of TrailingZeros64 lies as the program's text lays it. -/
namespace Go.Proofs.YtoacdccachhjdaaGreatDoor
open Go.ChangeShapes Go.WideShapes Go.ChangeAt Go.WideMaps Go.WideElems Go.RowKit

theorem own : ownKnob Tryz.prog.godebug = none := by kernel_rfl
theorem laidOut : laidOutB Tryz.prog = true := by kernel_rfl
theorem door_met (os : Os) (args : Array Value) : laidMetH Tryz.prog [("math/bits.deBruijn64tab", Rows.laid_math_bits_deBruijn64tab)] ((World.doorLaid Tryz.prog 400 os).forCall (fun _ _ => 0) ⟨#[], args, []⟩).memory := by
  rw [MakeChecks.laidMetH_plain _ _ _ (by kernel_rfl)]
  exact laidMet_of_run' 8 (by kernel_rfl) (by kernel_rfl)
set_option maxRecDepth 100000 in
set_option maxHeartbeats 1000000 in
theorem law_lifted (os : Os) (started : os.Started) (H : Type) (enc : TypeId × Value → H) :
    ReturnsInHanded {} Tryz.checked os 8 .any (fun w args => (Rows.puzzlesFormulasSpec.pre enc Tryz.prog Tryz.f8 Rows.puzzlesFormulasRow.domain false w args ∧ laidMetH Tryz.prog [("math/bits.deBruijn64tab", Rows.laid_math_bits_deBruijn64tab)] w) ∧ sizedMet enc Tryz.prog Tryz.f8 (OpenSpec.ofChange Rows.puzzlesFormulasSpec) false w args)
      (Rows.puzzlesFormulasSpec.post enc Tryz.prog Tryz.f8 false true false false) := by
  refine returnsInHanded_of_change_and (C := Tryz.checked) (X := fun w _ => laidMetH Tryz.prog [("math/bits.deBruijn64tab", Rows.laid_math_bits_deBruijn64tab)] w) (fun _ _ _ hh h => h.of_heap hh) own started (by kernel_rfl) Tryz.func8
    (ChangeSpec.witness_shaped (enc := enc) (C := Tryz.checked) (os := os) (X := fun w _ => laidMetH Tryz.prog [("math/bits.deBruijn64tab", Rows.laid_math_bits_deBruijn64tab)] w) false (World.doorLaid Tryz.prog 400 os) #[.int .i64 0, .int .i64 0, .slice none 0 0] 8 rfl (World.shaped_of_RefB (by kernel_rfl) (by kernel_rfl)) (by kernel_rfl) (by kernel_rfl) (by kernel_rfl) (door_met os _)) ?_
  intro W base args ds gs before hval0 hW _ hsz0 hL _
  have hT := of_laid hL
  have hval : ∀ (j : Nat) t v, Tryz.f8.params[j]? = some t → args[j]? = some v → Value.okWide Tryz.prog W .any base t v := hval0
  have hsz : (DataW.weightsEach Tryz.prog (Tryz.f8.params.toList ++ Rows.puzzlesFormulasSpec.plain.varTypes Tryz.prog) (ds ++ gs)).all (· ≤ reachBytes) = true := hsz0
  have hW' := hW
  obtain ⟨p, q, hA0, hV, rfl, hfz, hnd⟩ := hW
  have hA : DataW.TrodAll enc Tryz.prog W 0 (fun _ => true) true Tryz.f8.params.toList args.toList ds p := hA0
  rw [Tryz.params8] at hA hval hsz
  obtain ⟨v0, v1, v2, d0, d1, d2, p0, p1, p2, rfl, rfl, rfl, h0, h1, h2⟩ := trodAll_three hA
  obtain ⟨rfl, rfl⟩ := trodVars_none hV
  have hv0 : Rows.puzzlesFormulasSpec.plain.varTypes Tryz.prog = [] := rfl
  rw [hv0] at hsz
  have hz : ∀ n ∈ DataW.weightsEach Tryz.prog [3, 3, 44] [d0, d1, d2], n ≤ reachBytes := fun n hn => by
    have := List.all_eq_true.1 hsz n (by simpa using hn)
    simpa using this
  have k0 := h0
  have k1 := h1
  have k2 := h2
  obtain ⟨n, rfl, rfl, rfl, wn⟩ := open_int Tryz.underlying3 (hval 0 3 v0 rfl rfl) h0
  obtain ⟨k, rfl, rfl, rfl, wk⟩ := open_int Tryz.underlying3 (hval 1 3 v1 rfl rfl) h1
  obtain ⟨fa, fl, fc, rfl⟩ := okWide_slice Tryz.underlying44 (hval 2 44 v2 rfl rfl)
  obtain ⟨fu, h2'⟩ := h2
  obtain ⟨fa', f, fc', he2, hff⟩ := Wt.open_rn h2' (fun n hn => hz n (DataW.weights_mem_each (j := 2) rfl rfl n hn))
  simp [Value.cells] at he2
  obtain ⟨rfl, rfl, rfl⟩ := he2
  have hl2 : ∀ y ∈ p2, y.block < W.heap.size := fun y hy => by simpa using hW'.lt y (by simp [hy])
  refine (Wt.puzzlesFormulas_any n k fa fc f W hT hff).mono fun e W' he => ?_
  obtain ⟨rfl, hE⟩ := he
  have bel : Below W.heap.size W W' := hE
  refine ⟨_, rfl, ⟨_, _, _, [], [] ++ ([] ++ (p2)), [], hW', trodAll_mk1 (shut_bool Tryz.underlying4 true), trodAll_mk3 (shut_int Tryz.underlying3 wn) (shut_int Tryz.underlying3 wk) (Below.trod laidOut (by kernel_rfl) (of_decide_eq_true (by kernel_rfl)) k2 bel (fun y hy => hl2 y (by simpa using hy))), rfl, bel.frame _, fun h => by cases h⟩⟩
theorem puzzlesFormulas_holds : Rows.PuzzlesFormulasSaid :=
  OpenClaim.holds_of_wide 8 Tryz.f8 rfl rfl rfl rfl rfl rfl rfl ⟨rfl, rfl, rfl, rfl, rfl⟩ rfl rfl rfl rfl rfl (by kernel_rfl) Tryz.func8 (by kernel_rfl)
    (of_decide_eq_true (by kernel_rfl)) (by unfold Func.isWrapper; first | (rw [if_pos (by decide +kernel)]; kernel_rfl) | (rw [if_neg (by decide +kernel)]; exact ⟨rfl, rfl⟩))
    (fun os started H enc _ => law_lifted os started H enc)
theorem puzzlesFormulas_card_holds : Rows.PuzzlesFormulasCardSaid :=
  Claim7.holds_tied_plain_at .later [] [.data] true Rows.puzzlesFormulasCard.stood.harness false
    puzzlesFormulas_holds (fun _ h => by cases h) (by kernel_rfl) (fun _ h => by cases h) puzzlesFormulas_row_tie rfl ⟨rfl, rfl⟩ (by kernel_rfl) rfl
    (fun f fn hf hfn => by
      obtain rfl : f = 8 := Option.some.inj ((show Tryz.prog.funcNamed "witting/wittinglaw32.PuzzlesFormulas" = some 8 by kernel_rfl).symm.trans hf) |>.symm
      obtain rfl : fn = Tryz.f8 := (Option.some.inj (Tryz.func8.symm.trans hfn)).symm
      exact ⟨by kernel_rfl, fun j t ht => by
        rw [Tryz.params8] at ht
        have hm : t ∈ [3, 3, 44] := by simpa using Array.mem_of_getElem? ht
        have hall : ([3, 3, 44].all fun u => !Tryz.prog.wantsStandIn u) = true := by kernel_rfl
        exact (show Tryz.prog.wantsStandIn t = false by simpa using List.all_eq_true.1 hall t hm)⟩)
    (by kernel_rfl)
#print axioms puzzlesFormulas_card_holds
end Go.Proofs.YtoacdccachhjdaaGreatDoor
