/- Plain: the formula of "at least k of n facts" has its table (by the kernel). -/
import Derived.Test.YtoacdccachhjdaaGreatDoorMACh
import Derived.Test.YtoacdccachhjdaaGreatDoorMAAu
import Derived.Test.YtoacdccachhjdaaGreatDoorRows
import Derived.Test.YtoacdccachhjdaaGreatDoorCards
import Derived.Test.YtoacdccachhjdaaGreatDoorTie
import Derived.Test.YtoacdccachhjdaaGreatDoorMAAx
import Derived.ProofKit
import Derived.LaidMore
import Derived.SizedLaws
import Derived.SevenTiedAt
namespace Wt
open Go Go.RowKit Go.Maps Go.Proofs Fm

theorem fB_canonZ {x : Nd} {os : List (List Nd)} (h : fCheck (fB x os) = 0) : fCompact (fB x os) = fB x os := by
  by_cases c : ((os.any fun o => fCheck o != 0) || nodeErr (bX x os os.length) (bF os os.length).length != 0 || decide (200 < fsize (bT x os))) = true
  · have e : fB x os = [] := if_pos c
    rw [e] at h
    exact absurd h (by decide)
  · have e : fB x os = canon (bT x os) := if_neg c
    simp only [Bool.or_eq_true, not_or, bne_iff_ne, ne_eq, Decidable.not_not] at c
    have hw : Wf (bF os os.length ++ [bX x os os.length]) := (bF_wf os os.length).snoc c.1.2
    have hk : fok (bT x os) := fok_trAt hw _ _ (Nat.lt_succ_self _) (by simp)
    rw [e] at h ⊢
    rw [(fCompact_of h).1, trAt_canon _ hk]
theorem decF_fB : ∀ (n : Nat) (t : BitVec 64), ∃ x os, decF n t = fB x os
  | 0, t => by
    by_cases h : t = 0#64
    · exact ⟨_, _, if_pos h⟩
    · exact ⟨_, _, if_neg h⟩
  | n + 1, t => by
    unfold decF
    dsimp only
    have h1 := decF_fB n (t &&& fullB n)
    split
    · exact ⟨_, _, rfl⟩
    · split
      · exact ⟨_, _, rfl⟩
      · split
        · exact h1
        · split
          · exact ⟨_, _, rfl⟩
          · split
            · exact ⟨_, _, rfl⟩
            · split
              · exact ⟨_, _, rfl⟩
              · split
                · exact ⟨_, _, rfl⟩
                · split
                  · exact ⟨_, _, rfl⟩
                  · split
                    · exact ⟨_, _, rfl⟩
                    · exact ⟨_, _, rfl⟩
def SomeOk (m j : Nat) : Prop := tabErr (decF m (someT m (j : Int))) (m : Int) = 0 ∧ tabOf (decF m (someT m (j : Int))) (m : Int) = someT m (j : Int)
instance (m j : Nat) : Decidable (SomeOk m j) := inferInstanceAs (Decidable (_ ∧ _))
set_option maxHeartbeats 4000000
theorem some_tab0 : ∀ m : _root_.Fin 5, ∀ j : _root_.Fin 8, SomeOk m.val j.val := by decide +kernel
theorem some_tab5 : ∀ j : _root_.Fin 8, SomeOk 5 j.val := by decide +kernel
theorem some_tab6 : ∀ j : _root_.Fin 8, SomeOk 6 j.val := by decide +kernel
theorem some_tab {m j : Nat} (hm : m ≤ 6) (hj : j ≤ 7) : SomeOk m j := by
  rcases (show m < 5 ∨ m = 5 ∨ m = 6 by omega) with h | rfl | rfl
  · exact some_tab0 ⟨m, h⟩ ⟨j, by omega⟩
  · exact some_tab5 ⟨j, by omega⟩
  · exact some_tab6 ⟨j, by omega⟩
theorem ones_le : ∀ m : _root_.Fin 7, ∀ v : _root_.Fin 64, v.val < 2 ^ m.val → onesN v.val ≤ m.val := by decide +kernel
/-- The number of true facts below i. -/
def cntN (v i : Nat) : Nat := (List.range i).countP fun j => v.testBit j
theorem cntN_step (v i : Nat) : cntN v (i + 1) = cntN v i + if v.testBit i then 1 else 0 := by
  unfold cntN
  rw [List.range_succ, List.countP_append]
  simp [List.countP_cons]
theorem cntN_le (v i : Nat) : cntN v i ≤ i := by
  unfold cntN
  exact Nat.le_trans List.countP_le_length (by simp)
theorem cntN_ones : ∀ m : _root_.Fin 7, ∀ v : _root_.Fin 64, v.val < 2 ^ m.val → cntN v.val m.val = onesN v.val := by decide +kernel
/-- The bound, cut to what matters. -/
def kCut (n : Nat) (k : Int) : Nat := if k < 0 then 0 else if (n : Int) + 1 < k then n + 1 else k.toNat
theorem kCut_le (n : Nat) (k : Int) : kCut n k ≤ n + 1 := by unfold kCut; split <;> (try split) <;> omega
theorem setTo_congrZ {p q : Nat → Bool} : ∀ n, (∀ k, k < n → p k = q k) → setTo p n = setTo q n
  | 0, _ => rfl
  | n + 1, h => by
    rw [setTo_nextZ, setTo_nextZ, h n (by omega), setTo_congrZ n fun k hk => h k (by omega)]
theorem someT_cut {n : Nat} (hn : n ≤ 6) (k : Int) : someT n k = someT n ((kCut n k : Nat) : Int) := by
  unfold someT
  refine setTo_congrZ _ fun v hv => ?_
  have h64 : 2 ^ n ≤ 2 ^ 6 := Nat.pow_le_pow_right (by omega) hn
  have h := ones_le ⟨n, by omega⟩ ⟨v, by omega⟩ hv
  dsimp only at h
  unfold someP
  rw [decide_eq_decide]
  unfold kCut
  split
  · omega
  · split <;> omega
theorem some_law {n : Nat} (hn : n ≤ 6) (k : Int) : tabErr (decF n (someT n k)) (n : Int) = 0 ∧ tabOf (decF n (someT n k)) (n : Int) = someT n k ∧ fCompact (decF n (someT n k)) = decF n (someT n k) := by
  rw [someT_cut hn k]
  obtain ⟨h1, h2⟩ := some_tab hn (show kCut n k ≤ 7 by have := kCut_le n k; omega)
  refine ⟨h1, h2, ?_⟩
  have h3 := (tabErr_ok h1).1
  obtain ⟨x, os, e⟩ := decF_fB n (someT n ((kCut n k : Nat) : Int))
  rw [e] at h3 ⊢
  exact fB_canonZ h3
end Wt

/- The walk of PuzzlesSome. -/
namespace Wt
open Go Go.RowKit Go.Maps Go.Proofs Fm

theorem wrap_natZ (n : Nat) (h : n < 9223372036854775808) : RowKit.wrap64 (n : Int) = (n : Int) := by unfold RowKit.wrap64; omega
set_option maxRecDepth 20000 in
set_option maxHeartbeats 8000000 in
theorem puzzlesSome_any (n k : Int) (w : World) (hT : Tab w) :
    Calls Tryz.prog 9 #[.int .i64 n, .int .i64 k] w fun e w' => e = .returned (.bool true) ∧ Ext w w' := by
  have HT := Lib.hid hT
  clear hT
  by_cases hn : n < 0 ∨ 6 < n
  · have HS := Lib.hid (fun W => some_bad n k hn W)
    by_cases c : n < 0
    · have d0 : decide (n < 0) = true := decide_eq_true c
      clear c hn
      go_enter Tryz.func9, Tryz.ntmps9
      go_wp2_with fail
      refine (HS.out _).mono ?_
      rintro _ _ ⟨rfl, rfl⟩
      dsimp only
      go_wp2_with fail
      refine (awake32_any _ HT.out).mono ?_
      rintro _ w2 ⟨rfl, hE2⟩
      dsimp only
      go_wp2_with fail
      go_ret
      exact ⟨rfl, hE2⟩
    · have d0 : decide (n < 0) = false := decide_eq_false c
      have d1 : decide ((6 : Int) < n) = true := decide_eq_true (by omega)
      clear c hn
      go_enter Tryz.func9, Tryz.ntmps9
      go_wp2_with fail
      refine (HS.out _).mono ?_
      rintro _ _ ⟨rfl, rfl⟩
      dsimp only
      go_wp2_with fail
      refine (awake32_any _ HT.out).mono ?_
      rintro _ w2 ⟨rfl, hE2⟩
      dsimp only
      go_wp2_with fail
      go_ret
      exact ⟨rfl, hE2⟩
  have d0 : decide (n < 0) = false := decide_eq_false (by omega)
  have d1 : decide ((6 : Int) < n) = false := decide_eq_false (by omega)
  obtain ⟨m, rfl⟩ : ∃ m : Nat, n = (m : Int) := ⟨n.toNat, by omega⟩
  have hm : m ≤ 6 := by omega
  have h63 : m < 63 := by omega
  obtain ⟨h1, h2, h3⟩ := some_law hm k
  have HS := Lib.hid (fun W => some_any m k hm W)
  have hck := (tabErr_ok h1).1
  obtain ⟨F, hF⟩ : ∃ F, F = decF m (someT m k) := ⟨_, rfl⟩
  rw [← hF] at h1 h2 h3 hck HS
  have HTB : Hid (∀ W a c, RN W a F → Calls Tryz.prog 45 #[.slice a F.length c, .int .i64 (m : Int)] W fun e w' => RetP (.int .u64 (un (someT m k))) 0 e W w') := Lib.hid fun W a c h => by
    have h4 := table_any a c F (m : Int) W h
    rw [h1, h2] at h4
    exact h4
  have HCM : Hid (∀ W a c, RN W a F → Calls Tryz.prog 46 #[.slice a F.length c] W fun e w' => RetN F e W w') := Lib.hid fun W a c h => by
    have h4 := (compactF_fresh a c F W h hck).mono fun _ _ h => h.n
    rw [h3] at h4
    exact h4
  obtain ⟨q, hq⟩ : ∃ q : Nat, q = 2 ^ m := ⟨_, rfl⟩
  have hp : p2 m = (q : Int) := by rw [hq]; rfl
  have hq64 : q ≤ 64 := by
    have : 2 ^ m ≤ 2 ^ 6 := Nat.pow_le_pow_right (by omega) hm
    omega
  have HBT : Hid (∀ v, v < q → bt (someT m k) v = decide (k ≤ (cntN v m : Int))) := Lib.hid fun v hv => by
    unfold someT
    rw [← hq, bt_setTo _ (by omega)]
    have h5 := cntN_ones ⟨m, by omega⟩ ⟨v, by omega⟩ (by dsimp only; omega)
    dsimp only at h5
    rw [h5]
    simp [hv, someP]
  clear hF h1 h2 h3 hck hq hn
  generalize someT m k = T at *
  go_enter Tryz.func9, Tryz.ntmps9
  go_wp2_with fail
  refine (HS.out _).mono ?_
  rintro _ w1 ⟨a, c, rfl, hr, hE1⟩
  have HR := Lib.hid hr
  have HE1 := Lib.hid hE1
  clear hr hE1
  dsimp only
  go_wp2_with fail
  refine (HTB.out _ _ _ HR.out).mono ?_
  rintro _ w2 ⟨rfl, hE2⟩
  have HR2 := Lib.hid (HR.out.ext hE2)
  have HE2 := Lib.hid (HE1.out.trans hE2)
  clear hE2 HR HE1
  dsimp only
  go_wp2_with fail
  refine (HCM.out _ _ _ HR2.out).mono ?_
  rintro _ w3 ⟨b, d, rfl, hr3, hE3⟩
  have HR3 := Lib.hid hr3
  have HE3 := Lib.hid (HE2.out.trans hE3)
  have HQ3 := Lib.hid (HR2.out.ext hE3)
  clear hr3 hE3 HR2 HE2
  dsimp only
  go_wp2_with fail
  refine (r5EqualZ_any F _ _ _ _ _ HQ3.out HR3.out).mono ?_
  rintro _ w4 ⟨rfl, hE4⟩
  have HE4 := Lib.hid (HE3.out.trans hE4)
  clear hE4 HQ3 HR3 HE3
  dsimp only
  go_wp2_with fail
  go_loopw [9] (fun v wr => ∃ x : Nat, x ≤ q ∧ v = .int .i64 (x : Int) ∧ wr = w4) (fun v _ => q - (RowKit.intOf v).toNat)
  case atStart => exact ⟨0, Nat.zero_le _, rfl, rfl⟩
  case round =>
    obtain ⟨x, hx, rfl, rfl⟩ := hrel
    by_cases hxq : x < q
    · have HB := Lib.hid (HBT.out x hxq)
      have hx64 : x < 64 := by omega
      go_wp2_with fail
      go_loopw [10, 11] (fun c i wz => ∃ j : Nat, j ≤ m ∧ c = .int .i64 ((cntN x j : Nat) : Int) ∧ i = .int .i64 (j : Int) ∧ wz = wr) (fun _ i _ => m - (RowKit.intOf i).toNat)
      case atStart => exact ⟨0, Nat.zero_le _, rfl, rfl, rfl⟩
      case round =>
        rename World => wz
        obtain ⟨j, hj, rfl, rfl, rfl⟩ := hrel
        by_cases hjm : j < m
        · have hs := cntN_step x j
          have hle := cntN_le x j
          have HCS := Lib.hid hs
          generalize cntN x j = o at *
          clear hs
          cases hb : x.testBit j
          · have HO : Hid (cntN x (j + 1) = o) := Lib.hid (by rw [HCS.out, hb]; rfl)
            have hb1 : b01 x j = 0 := by unfold b01; rw [hb]; rfl
            clear HCS
            go_wp2_with fail
            go_roundw
            case rel => exact ⟨j + 1, hjm, by rw [and_divZ, hb1, HO.out, Int.add_zero, wrap_natZ _ (by omega)], by go_num, trivial⟩
            case measure => simp [RowKit.intOf]; omega
          · have HO : Hid (cntN x (j + 1) = o + 1) := Lib.hid (by rw [HCS.out, hb]; rfl)
            have hb1 : b01 x j = 1 := by unfold b01; rw [hb]; rfl
            clear HCS
            go_wp2_with fail
            go_roundw
            case rel => exact ⟨j + 1, hjm, by rw [and_divZ, hb1, HO.out, show (o : Int) + 1 = ((o + 1 : Nat) : Int) by omega, wrap_natZ _ (by omega)], by go_num, trivial⟩
            case measure => simp [RowKit.intOf]; omega
        · obtain rfl : j = m := by omega
          generalize cntN x j = o at *
          have hbt : (bt T x == decide (k ≤ (o : Int))) = true := by rw [HB.out]; simp
          clear HB
          go_wp2_with fail
          go_roundw
          case rel => exact ⟨x + 1, hxq, by go_num, trivial⟩
          case measure => simp [RowKit.intOf]; omega
    · obtain rfl : x = q := by omega
      go_wp2_with fail
      refine (awake32_any _ (HT.out.ext HE4.out)).mono ?_
      rintro _ w5 ⟨rfl, hE5⟩
      dsimp only
      go_wp2_with fail
      go_ret
      exact ⟨rfl, HE4.out.trans hE5⟩
end Wt

/- The law PuzzlesSome returns true at every input, and its arguments read behind the call as they did before. the tied card: the library's table of TrailingZeros64 lies as the program's text lays it. -/
namespace Go.Proofs.YtoacdccachhjdaaGreatDoor
open Go.ChangeShapes Go.WideShapes Go.ChangeAt Go.WideMaps Go.WideElems Go.RowKit

theorem own : ownKnob Tryz.prog.godebug = none := by kernel_rfl
theorem laidOut : laidOutB Tryz.prog = true := by kernel_rfl
theorem door_met (os : Os) (args : Array Value) : laidMetH Tryz.prog [("math/bits.deBruijn64tab", Rows.laid_math_bits_deBruijn64tab)] ((World.doorLaid Tryz.prog 400 os).forCall (fun _ _ => 0) ⟨#[], args, []⟩).memory := by
  rw [MakeChecks.laidMetH_plain _ _ _ (by kernel_rfl)]
  exact laidMet_of_run' 8 (by kernel_rfl) (by kernel_rfl)
set_option maxRecDepth 100000 in
set_option maxHeartbeats 1000000 in
theorem law_lifted (os : Os) (started : os.Started) (H : Type) (enc : TypeId × Value → H) :
    ReturnsInHanded {} Tryz.checked os 9 .any (fun w args => (Rows.puzzlesSomeSpec.pre enc Tryz.prog Tryz.f9 Rows.puzzlesSomeRow.domain false w args ∧ laidMetH Tryz.prog [("math/bits.deBruijn64tab", Rows.laid_math_bits_deBruijn64tab)] w) ∧ sizedMet enc Tryz.prog Tryz.f9 (OpenSpec.ofChange Rows.puzzlesSomeSpec) false w args)
      (Rows.puzzlesSomeSpec.post enc Tryz.prog Tryz.f9 false true false false) := by
  refine returnsInHanded_of_change_and (C := Tryz.checked) (X := fun w _ => laidMetH Tryz.prog [("math/bits.deBruijn64tab", Rows.laid_math_bits_deBruijn64tab)] w) (fun _ _ _ hh h => h.of_heap hh) own started (by kernel_rfl) Tryz.func9
    (ChangeSpec.witness_shaped (enc := enc) (C := Tryz.checked) (os := os) (X := fun w _ => laidMetH Tryz.prog [("math/bits.deBruijn64tab", Rows.laid_math_bits_deBruijn64tab)] w) false (World.doorLaid Tryz.prog 400 os) #[.int .i64 0, .int .i64 0] 8 rfl (World.shaped_of_RefB (by kernel_rfl) (by kernel_rfl)) (by kernel_rfl) (by kernel_rfl) (by kernel_rfl) (door_met os _)) ?_
  intro W base args ds gs before hval0 hW _ hsz0 hL _
  have hT := of_laid hL
  have hval : ∀ (j : Nat) t v, Tryz.f9.params[j]? = some t → args[j]? = some v → Value.okWide Tryz.prog W .any base t v := hval0
  have hsz : (DataW.weightsEach Tryz.prog (Tryz.f9.params.toList ++ Rows.puzzlesSomeSpec.plain.varTypes Tryz.prog) (ds ++ gs)).all (· ≤ reachBytes) = true := hsz0
  have hW' := hW
  obtain ⟨p, q, hA0, hV, rfl, hfz, hnd⟩ := hW
  have hA : DataW.TrodAll enc Tryz.prog W 0 (fun _ => true) true Tryz.f9.params.toList args.toList ds p := hA0
  rw [Tryz.params9] at hA hval hsz
  obtain ⟨v0, v1, d0, d1, p0, p1, rfl, rfl, rfl, h0, h1⟩ := trodAll_two hA
  obtain ⟨rfl, rfl⟩ := trodVars_none hV
  have hv0 : Rows.puzzlesSomeSpec.plain.varTypes Tryz.prog = [] := rfl
  rw [hv0] at hsz
  have hz : ∀ n ∈ DataW.weightsEach Tryz.prog [3, 3] [d0, d1], n ≤ reachBytes := fun n hn => by
    have := List.all_eq_true.1 hsz n (by simpa using hn)
    simpa using this
  have k0 := h0
  have k1 := h1
  obtain ⟨n, rfl, rfl, rfl, wn⟩ := open_int Tryz.underlying3 (hval 0 3 v0 rfl rfl) h0
  obtain ⟨k, rfl, rfl, rfl, wk⟩ := open_int Tryz.underlying3 (hval 1 3 v1 rfl rfl) h1
  refine (Wt.puzzlesSome_any n k W hT).mono fun e W' he => ?_
  obtain ⟨rfl, hE⟩ := he
  have bel : Below W.heap.size W W' := hE
  refine ⟨_, rfl, ⟨_, _, _, [], [] ++ ([]), [], hW', trodAll_mk1 (shut_bool Tryz.underlying4 true), trodAll_mk2 (shut_int Tryz.underlying3 wn) (shut_int Tryz.underlying3 wk), rfl, bel.frame _, fun h => by cases h⟩⟩
theorem puzzlesSome_holds : Rows.PuzzlesSomeSaid :=
  OpenClaim.holds_of_wide 9 Tryz.f9 rfl rfl rfl rfl rfl rfl rfl ⟨rfl, rfl, rfl, rfl, rfl⟩ rfl rfl rfl rfl rfl (by kernel_rfl) Tryz.func9 (by kernel_rfl)
    (of_decide_eq_true (by kernel_rfl)) (by unfold Func.isWrapper; first | (rw [if_pos (by decide +kernel)]; kernel_rfl) | (rw [if_neg (by decide +kernel)]; exact ⟨rfl, rfl⟩))
    (fun os started H enc _ => law_lifted os started H enc)
theorem puzzlesSome_card_holds : Rows.PuzzlesSomeCardSaid :=
  Claim7.holds_tied_plain_at .later [] [.data] true Rows.puzzlesSomeCard.stood.harness false
    puzzlesSome_holds (fun _ h => by cases h) (by kernel_rfl) (fun _ h => by cases h) puzzlesSome_row_tie rfl ⟨rfl, rfl⟩ (by kernel_rfl) rfl
    (fun f fn hf hfn => by
      obtain rfl : f = 9 := Option.some.inj ((show Tryz.prog.funcNamed "witting/wittinglaw32.PuzzlesSome" = some 9 by kernel_rfl).symm.trans hf) |>.symm
      obtain rfl : fn = Tryz.f9 := (Option.some.inj (Tryz.func9.symm.trans hfn)).symm
      exact ⟨by kernel_rfl, fun j t ht => by
        rw [Tryz.params9] at ht
        have hm : t ∈ [3, 3] := by simpa using Array.mem_of_getElem? ht
        have hall : ([3, 3].all fun u => !Tryz.prog.wantsStandIn u) = true := by kernel_rfl
        exact (show Tryz.prog.wantsStandIn t = false by simpa using List.all_eq_true.1 hall t hm)⟩)
    (by kernel_rfl)
#print axioms puzzlesSome_card_holds
end Go.Proofs.YtoacdccachhjdaaGreatDoor
