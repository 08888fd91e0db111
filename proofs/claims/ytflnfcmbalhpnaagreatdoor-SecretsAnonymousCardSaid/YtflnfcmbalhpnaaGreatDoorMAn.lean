/- The walk of SecretsAnonymous (printed by gen_law44.py). -/
import Derived.Test.YtflnfcmbalhpnaaGreatDoorM4Br
import Derived.Test.YtflnfcmbalhpnaaGreatDoorRows
import Derived.Test.YtflnfcmbalhpnaaGreatDoorCards
import Derived.Test.YtflnfcmbalhpnaaGreatDoorTie
import Derived.Test.YtflnfcmbalhpnaaGreatDoorM4Bp
import Derived.Test.YtflnfcmbalhpnaaGreatDoorM4Bq
import Derived.ProofKit
import Derived.LaidMore
import Derived.SizedLaws
import Derived.SevenTiedAt
import Derived.OpenShut
namespace Wt
open Go Go.RowKit Go.Maps Go.Proofs Fm

set_option maxRecDepth 20000 in
set_option maxHeartbeats 8000000 in
theorem secretsAnonymous_any (sz pt q0 q1 : Nat) (_h1 : sz ≤ 255) (h2 : pt ≤ 255) (h3 : q0 ≤ 255) (h4 : q1 ≤ 255) (w : World) (hT : Tab w) :
    Calls Tryz.prog 6 #[.int .u8 (sz : Int), .int .u8 (pt : Int), .agg #[.int .u8 (q0 : Int), .int .u8 (q1 : Int)]] w fun e w' => e = .returned (.bool true) ∧ Ext w w' := by
  obtain ⟨r, hr⟩ : ∃ r, r = sz % 2 := ⟨_, rfl⟩
  have hr3 : r < 2 := by omega
  have hrI : (sz : Int) % 2 = (r : Int) := by omega
  obtain ⟨n, hnr⟩ : ∃ n, n = 2 + r := ⟨_, rfl⟩
  have hnI : 2 + (r : Int) = (n : Int) := by omega
  have HZ := Lib.hid (Sz.mk' n (by omega) (by omega))
  obtain ⟨a, ha⟩ : ∃ a, a = 2 ^ n - 1 := ⟨_, rfl⟩
  rw [← ha] at HZ
  have hn2 := HZ.out.n2
  have hn4 := HZ.out.n4
  have ha3 := HZ.out.lo
  have ha15 := HZ.out.hi
  have hpa := HZ.out.pw
  have h63 : n < 63 := by omega
  obtain ⟨hq1, hq2⟩ := pw_int hn4
  have haI : p2 n - 1 = (a : Int) := by unfold p2; omega
  have ha0 : ((a : Int) == 0) = false := by simp; omega
  have ha0' : ¬ ((a : Int) = 0) := by omega
  have hn3 : n ≤ 3 := by omega
  obtain ⟨gm, hgm⟩ : ∃ gm, gm = q1 % a := ⟨_, rfl⟩
  have hgmI : (q1 : Int).tmod (a : Int) = (gm : Int) := by rw [hgm]; exact (Int.ofNat_tmod q1 a).symm
  have hgml : gm < a := by rw [hgm]; exact Nat.mod_lt _ (by omega)
  obtain ⟨g, hg⟩ : ∃ g, g = 1 + gm := ⟨_, rfl⟩
  have hgI : 1 + (gm : Int) = (g : Int) := by omega
  have hg1 : 1 ≤ g := by omega
  have hga : g ≤ a := by omega
  obtain ⟨p, hp⟩ : ∃ p, p = pt % (n + 1) := ⟨_, rfl⟩
  have hpI : (pt : Int).tmod ((n : Int) + 1) = (p : Int) := by rw [hp]; exact (Int.ofNat_tmod pt (n + 1)).symm
  have hpn : p ≤ n := by have := Nat.mod_lt pt (show 0 < n + 1 by omega); omega
  have hn10 : ((n : Int) + 1 == 0) = false := by simp; omega
  have hn10' : ¬ ((n : Int) + 1 = 0) := by omega
  obtain ⟨c, hc⟩ : ∃ c, c = q0 % 2 ^ n := ⟨_, rfl⟩
  have hcI : (q0 : Int).tmod (p2 n) = (c : Int) := by rw [hc]; exact (Int.ofNat_tmod q0 (2 ^ n)).symm
  have hcn : c < 2 ^ n := by rw [hc]; exact Nat.mod_lt _ (by omega)
  have hp0 : (p2 n == 0) = false := by simp; omega
  have hp0' : ¬ (p2 n = 0) := by omega
  obtain ⟨z, hz⟩ : ∃ z, z = a ^^^ g := ⟨_, rfl⟩
  obtain ⟨hzn, hz16⟩ := all_not hn4 (show g < 2 ^ n by omega)
  rw [← ha, ← hz] at hzn
  rw [← ha, ← hz] at hz16
  have hzI : bits .andNot .i64 (a : Int) (g : Int) = (z : Int) := by rw [← hzn]; exact andNot_nat a g (by omega) (by omega)
  have HG := Lib.hid (fun i hi W h => traces_is n p c g i ⟨hn2, hn3⟩ hpn hcn hg1 (by omega) hi W h)
  have HW : Hid (∀ i, anonWant n p g i = (g.testBit i || p == 0 || g.testBit (p - 1) || z == 2 ^ i)) := Lib.hid fun i => by rw [hz, ha]; rfl
  by_cases hp1 : p = 0
  · have hpm : (p : Int) - 1 = -1 := by omega
    rw [hpm] at HG
    have HT := Lib.hid hT
    have hg63 : g < 9223372036854775808 := by omega
    have HPZ : Hid ((p == 0) = true) := Lib.hid (by simp [hp1])
    clear hT hc hz hzn hz16 hp hgm hg ha hnr hr hpa HZ
    go_enter Tryz.func6, Tryz.ntmps6
    go_wp2_with fail
    go_quiet (fail)
    go_wp2_with fail
    clear hrI hnI hpI hgmI hgI haI hcI hpm
    go_loopw [44] (fun i wr => ∃ k : Nat, k ≤ n ∧ i = .int .i64 (k : Int) ∧ Ext w wr) (fun i _ => n - (intOf i).toNat)
    case atStart => exact ⟨0, Nat.zero_le _, rfl, ((Ext.refl w).alloc _).drewN _⟩
    case round =>
      obtain ⟨k, hk, rfl, hE⟩ := hrel
      have HE := Lib.hid hE
      clear hE
      by_cases hlt : k < n
      · have HK := Lib.hid (HG.out k hlt wr (HT.out.ext HE.out))
        have HY := Lib.hid (HW.out k)
        generalize anonWant n p g k = y at *
        obtain ⟨tb, htb⟩ : ∃ tb, g.testBit k = tb := ⟨_, rfl⟩
        rw [htb] at HY
        obtain ⟨e1, he1⟩ : ∃ e1, (z == 2 ^ k) = e1 := ⟨_, rfl⟩
        have hk63 : k < 63 := by omega
        have he1I : ((z : Int) == p2 k) = e1 := by
          rw [← he1, Bool.eq_iff_iff]
          simp only [beq_iff_eq]
          exact Int.natCast_inj
        rw [he1, HPZ.out] at HY
        clear he1
        cases tb <;> cases e1
        all_goals
          have hy := HY.out
          simp at hy
          subst hy
          go_wp2_with fail
          refine HK.out.mono ?_
          rintro _ w2 ⟨rfl, hE2⟩
          dsimp only
          go_wp2_with fail
          go_roundw
          case rel => exact ⟨k + 1, hlt, by go_num, HE.out.trans hE2⟩
          case measure => simp [intOf]; omega
      · go_wp2_with fail
        refine (awake44_any _ (HT.out.ext HE.out)).mono ?_
        rintro _ w2 ⟨rfl, hE2⟩
        dsimp only
        go_wp2_with fail
        go_ret
        exact ⟨rfl, HE.out.trans hE2⟩
  · obtain ⟨m, hm⟩ : ∃ m, m = p - 1 := ⟨_, rfl⟩
    have hpm : (p : Int) - 1 = (m : Int) := by omega
    rw [hpm] at HG
    have HT := Lib.hid hT
    have hg63 : g < 9223372036854775808 := by omega
    have HPZ : Hid ((p == 0) = false) := Lib.hid (by simp; omega)
    have HPM : Hid (p - 1 = m) := Lib.hid hm.symm
    obtain ⟨tp, htp⟩ : ∃ tp, g.testBit m = tp := ⟨_, rfl⟩
    have hdm : decide ((m : Int) < 0) = false := decide_eq_false (by omega)
    have hdiv : (g : Int) / 2 ^ m = sr g m := by unfold sr; rw [Nat.shiftRight_eq_div_pow]; simp
    have HTP := Lib.hid htp
    have hm63 : m < 63 := by omega
    clear hm
    clear hT hc hz hzn hz16 hp hgm hg ha hnr hr hpa HZ
    go_enter Tryz.func6, Tryz.ntmps6
    go_wp2_with fail
    go_quiet (fail)
    go_wp2_with fail
    clear hrI hnI hpI hgmI hgI haI hcI hpm
    go_loopw [44] (fun i wr => ∃ k : Nat, k ≤ n ∧ i = .int .i64 (k : Int) ∧ Ext w wr) (fun i _ => n - (intOf i).toNat)
    case atStart => exact ⟨0, Nat.zero_le _, rfl, ((Ext.refl w).alloc _).drewN _⟩
    case round =>
      obtain ⟨k, hk, rfl, hE⟩ := hrel
      have HE := Lib.hid hE
      clear hE
      by_cases hlt : k < n
      · have HK := Lib.hid (HG.out k hlt wr (HT.out.ext HE.out))
        have HY := Lib.hid (HW.out k)
        generalize anonWant n p g k = y at *
        obtain ⟨tb, htb⟩ : ∃ tb, g.testBit k = tb := ⟨_, rfl⟩
        rw [htb] at HY
        obtain ⟨e1, he1⟩ : ∃ e1, (z == 2 ^ k) = e1 := ⟨_, rfl⟩
        have hk63 : k < 63 := by omega
        have he1I : ((z : Int) == p2 k) = e1 := by
          rw [← he1, Bool.eq_iff_iff]
          simp only [beq_iff_eq]
          exact Int.natCast_inj
        rw [he1, HPZ.out, HPM.out, HTP.out] at HY
        clear he1
        have hb0 : m = 0 → bits .and .i64 (g : Int) 1 = b01 g 0 ∧ g.testBit 0 = tp := fun h => ⟨by rw [← sr_and1]; rfl, by rw [← HTP.out, h]⟩
        rcases Nat.eq_zero_or_pos m with hmz | hmp
        rotate_left
        · clear hb0
          cases tb <;> cases e1 <;> cases tp
          all_goals
            have hy := HY.out
            simp at hy
            subst hy
            go_wp2_with fail
            refine HK.out.mono ?_
            rintro _ w2 ⟨rfl, hE2⟩
            dsimp only
            go_wp2_with fail
            go_roundw
            case rel => exact ⟨k + 1, hlt, by go_num, HE.out.trans hE2⟩
            case measure => simp [intOf]; omega
        obtain ⟨hb1, hb2⟩ := hb0 hmz
        have hmn : ¬ 0 < m := by omega
        clear hmz hdiv htp
        cases tb <;> cases e1 <;> cases tp
        all_goals
          have hy := HY.out
          simp at hy
          subst hy
          go_wp2_with fail
          refine HK.out.mono ?_
          rintro _ w2 ⟨rfl, hE2⟩
          dsimp only
          go_wp2_with fail
          go_roundw
          case rel => exact ⟨k + 1, hlt, by go_num, HE.out.trans hE2⟩
          case measure => simp [intOf]; omega
      · go_wp2_with fail
        refine (awake44_any _ (HT.out.ext HE.out)).mono ?_
        rintro _ w2 ⟨rfl, hE2⟩
        dsimp only
        go_wp2_with fail
        go_ret
        exact ⟨rfl, HE.out.trans hE2⟩
theorem secretsAnonymous_int (s v q0 q1 : Int) (bs : 0 ≤ s ∧ s ≤ 255) (bv : 0 ≤ v ∧ v ≤ 255) (bq0 : 0 ≤ q0 ∧ q0 ≤ 255) (bq1 : 0 ≤ q1 ∧ q1 ≤ 255) (w : World) (hT : Tab w) :
    Calls Tryz.prog 6 #[.int .u8 s, .int .u8 v, .agg #[.int .u8 q0, .int .u8 q1]] w fun e w' => e = .returned (.bool true) ∧ Ext w w' := by
  obtain ⟨s, rfl⟩ := Int.eq_ofNat_of_zero_le bs.1
  obtain ⟨v, rfl⟩ := Int.eq_ofNat_of_zero_le bv.1
  obtain ⟨q0, rfl⟩ := Int.eq_ofNat_of_zero_le bq0.1
  obtain ⟨q1, rfl⟩ := Int.eq_ofNat_of_zero_le bq1.1
  exact secretsAnonymous_any s v q0 q1 (by omega) (by omega) (by omega) (by omega) w hT
end Wt

/- The law SecretsAnonymous returns true at every input, and its arguments read behind the call as they did before. the tied card: the library's table of TrailingZeros64 lies as the program's text lays it. -/
namespace Go.Proofs.YtflnfcmbalhpnaaGreatDoor
open Go.ChangeShapes Go.WideShapes Go.ChangeAt Go.WideMaps Go.WideElems Go.RowKit

theorem own : ownKnob Tryz.prog.godebug = none := by kernel_rfl
theorem laidOut : laidOutB Tryz.prog = true := by kernel_rfl
theorem okWide_arr {P : Program} {w : World} {r : Reach} {base : Nat} {t e : TypeId} {n : Nat} {v : Value} (ht : P.underlying t = some (.array n e)) (h : Value.okWide P w r base t v) : ∃ cs, v = .agg cs := by
  unfold Value.okWide at h
  rw [ht] at h
  obtain ⟨cs, h1, _⟩ := h
  exact ⟨cs, h1⟩
set_option maxRecDepth 100000 in
theorem open_uint82 {H : Type} {enc : TypeId × Value → H} {w : World} {v : Value} {d : DataW H} {p : List MemPlace} {r : Reach} {b0 : Nat} (hval : Value.okWide Tryz.prog w r b0 43 v) (h : DataW.Trod enc Tryz.prog w 0 (fun _ => true) true 43 v d p) :
    ∃ z0 z1 : Int, v = .agg #[.int .u8 z0, .int .u8 z1] ∧ (0 ≤ z0 ∧ z0 ≤ 255) ∧ (0 ≤ z1 ∧ z1 ≤ 255) := by
  have hc0 : Tryz.prog.cellsOf 5 = 1 := by kernel_rfl
  have hc3 : Tryz.prog.cellsOf 43 = 2 := by kernel_rfl
  obtain ⟨cs, rfl⟩ := okWide_arr Tryz.underlying43 hval
  obtain ⟨fuel, h⟩ := h
  obtain ⟨xs, m, _, _, hl, hxl, hi⟩ := DataW.trod_array Tryz.underlying43 h
  rw [hc3] at hl
  match xs, hxl with
  | [y0, y1], _ =>
    have u0 := hi 0 (by omega)
    have u1 := hi 1 (by omega)
    simp only [hc0, List.getElem?_cons_zero, List.getElem?_cons_succ] at u0 u1
    obtain ⟨z0, hi0, _, w0⟩ := DataW.trod_int Tryz.underlying5 u0
    obtain ⟨z1, hi1, _, w1⟩ := DataW.trod_int Tryz.underlying5 u1
    have hcl : (Value.agg cs).cells.toList = [.int .u8 z0, .int .u8 z1] := by
      generalize (Value.agg cs).cells.toList = L at hl hi0 hi1
      match L, hl with
      | [c0, c1], _ =>
        simp at hi0 hi1
        rw [hi0, hi1]
    have e2 : cs.toList = [.int .u8 z0, .int .u8 z1] := hcl
    have e3 : cs = #[.int .u8 z0, .int .u8 z1] := by
      apply Array.ext'
      rw [e2]
    have b0 := w0
    have b1 := w1
    simp [Lit.wf, IntKind.min, IntKind.max, IntKind.signed, IntKind.bits] at b0 b1
    exact ⟨z0, z1, by rw [e3], b0, b1⟩
theorem door_met (os : Os) (args : Array Value) : laidMetH Tryz.prog [("math/bits.deBruijn64tab", Rows.laid_math_bits_deBruijn64tab)] ((World.doorLaid Tryz.prog 400 os).forCall (fun _ _ => 0) ⟨#[], args, []⟩).memory := by
  rw [MakeChecks.laidMetH_plain _ _ _ (by kernel_rfl)]
  exact laidMet_of_run' 8 (by kernel_rfl) (by kernel_rfl)
set_option maxRecDepth 100000 in
set_option maxHeartbeats 1000000 in
theorem law_lifted (os : Os) (started : os.Started) (H : Type) (enc : TypeId × Value → H) :
    ReturnsInHanded {} Tryz.checked os 6 .any (fun w args => (Rows.secretsAnonymousSpec.pre enc Tryz.prog Tryz.f6 Rows.secretsAnonymousRow.domain false w args ∧ laidMetH Tryz.prog [("math/bits.deBruijn64tab", Rows.laid_math_bits_deBruijn64tab)] w) ∧ sizedMet enc Tryz.prog Tryz.f6 (OpenSpec.ofChange Rows.secretsAnonymousSpec) false w args)
      (Rows.secretsAnonymousSpec.post enc Tryz.prog Tryz.f6 false true false false) := by
  refine returnsInHanded_of_change_and (C := Tryz.checked) (X := fun w _ => laidMetH Tryz.prog [("math/bits.deBruijn64tab", Rows.laid_math_bits_deBruijn64tab)] w) (fun _ _ _ hh h => h.of_heap hh) own started (by kernel_rfl) Tryz.func6
    (ChangeSpec.witness_shaped (enc := enc) (C := Tryz.checked) (os := os) (X := fun w _ => laidMetH Tryz.prog [("math/bits.deBruijn64tab", Rows.laid_math_bits_deBruijn64tab)] w) false (World.doorLaid Tryz.prog 400 os) #[.int .u8 0, .int .u8 0, .agg #[.int .u8 0, .int .u8 0]] 8 rfl (World.shaped_of_RefB (by kernel_rfl) (by kernel_rfl)) (by kernel_rfl) (by kernel_rfl) (by kernel_rfl) (door_met os _)) ?_
  intro W base args ds gs before hval0 hW _ hsz0 hL _
  have hT := of_laid hL
  have hval : ∀ (j : Nat) t v, Tryz.f6.params[j]? = some t → args[j]? = some v → Value.okWide Tryz.prog W .any base t v := hval0
  have hsz : (DataW.weightsEach Tryz.prog (Tryz.f6.params.toList ++ Rows.secretsAnonymousSpec.plain.varTypes Tryz.prog) (ds ++ gs)).all (· ≤ reachBytes) = true := hsz0
  have hW' := hW
  obtain ⟨p, q, hA0, hV, rfl, hfz, hnd⟩ := hW
  have hA : DataW.TrodAll enc Tryz.prog W 0 (fun _ => true) true Tryz.f6.params.toList args.toList ds p := hA0
  rw [Tryz.params6] at hA hval hsz
  obtain ⟨v0, v1, v2, d0, d1, d2, p0, p1, p2, rfl, rfl, rfl, h0, h1, h2⟩ := trodAll_three hA
  obtain ⟨rfl, rfl⟩ := trodVars_none hV
  have hv0 : Rows.secretsAnonymousSpec.plain.varTypes Tryz.prog = [] := rfl
  rw [hv0] at hsz
  have hz : ∀ n ∈ DataW.weightsEach Tryz.prog [5, 5, 43] [d0, d1, d2], n ≤ reachBytes := fun n hn => by
    have := List.all_eq_true.1 hsz n (by simpa using hn)
    simpa using this
  have k0 := h0
  have k1 := h1
  have k2 := h2
  obtain ⟨s, rfl, rfl, rfl, ws⟩ := open_int Tryz.underlying5 (hval 0 5 v0 rfl rfl) h0
  have bs := ws
  simp [Lit.wf, IntKind.min, IntKind.max, IntKind.signed, IntKind.bits] at bs
  obtain ⟨v, rfl, rfl, rfl, wv⟩ := open_int Tryz.underlying5 (hval 1 5 v1 rfl rfl) h1
  have bv := wv
  simp [Lit.wf, IntKind.min, IntKind.max, IntKind.signed, IntKind.bits] at bv
  obtain ⟨q0, q1, rfl, bq0, bq1⟩ := open_uint82 (hval 2 43 v2 rfl rfl) h2
  have hl2 : ∀ y ∈ p2, y.block < W.heap.size := fun y hy => by simpa using hW'.lt y (by simp [hy])
  refine (Wt.secretsAnonymous_int s v q0 q1 bs bv bq0 bq1 W hT).mono fun e W' he => ?_
  obtain ⟨rfl, hE⟩ := he
  have bel : Below W.heap.size W W' := hE
  refine ⟨_, rfl, ⟨_, _, _, [], [] ++ ([] ++ (p2)), [], hW', trodAll_mk1 (shut_bool Tryz.underlying4 true), trodAll_mk3 (shut_int Tryz.underlying5 ws) (shut_int Tryz.underlying5 wv) (Below.trod laidOut (by kernel_rfl) (of_decide_eq_true (by kernel_rfl)) k2 bel (fun y hy => hl2 y (by simpa using hy))), rfl, bel.frame _, fun h => by cases h⟩⟩
theorem secretsAnonymous_holds : Rows.SecretsAnonymousSaid :=
  OpenClaim.holds_of_wide 6 Tryz.f6 rfl rfl rfl rfl rfl rfl rfl ⟨rfl, rfl, rfl, rfl, rfl⟩ rfl rfl rfl rfl rfl (by kernel_rfl) Tryz.func6 (by kernel_rfl)
    (of_decide_eq_true (by kernel_rfl)) (by unfold Func.isWrapper; first | (rw [if_pos (by decide +kernel)]; kernel_rfl) | (rw [if_neg (by decide +kernel)]; exact ⟨rfl, rfl⟩))
    (fun os started H enc _ => law_lifted os started H enc)
theorem secretsAnonymous_card_holds : Rows.SecretsAnonymousCardSaid :=
  Claim7.holds_tied_plain_at .later [] [.data] true Rows.secretsAnonymousCard.stood.harness false
    secretsAnonymous_holds (fun _ h => by cases h) (by kernel_rfl) (fun _ h => by cases h) secretsAnonymous_row_tie rfl ⟨rfl, rfl⟩ (by kernel_rfl) rfl
    (fun f fn hf hfn => by
      obtain rfl : f = 6 := Option.some.inj ((show Tryz.prog.funcNamed "witting/wittinglaw44.SecretsAnonymous" = some 6 by kernel_rfl).symm.trans hf) |>.symm
      obtain rfl : fn = Tryz.f6 := (Option.some.inj (Tryz.func6.symm.trans hfn)).symm
      exact ⟨by kernel_rfl, fun j t ht => by
        rw [Tryz.params6] at ht
        have hm : t ∈ [5, 5, 43] := by simpa using Array.mem_of_getElem? ht
        have hall : ([5, 5, 43].all fun u => !Tryz.prog.wantsStandIn u) = true := by kernel_rfl
        exact (show Tryz.prog.wantsStandIn t = false by simpa using List.all_eq_true.1 hall t hm)⟩)
    (by kernel_rfl)
#print axioms secretsAnonymous_card_holds
end Go.Proofs.YtflnfcmbalhpnaaGreatDoor
