/- Walks: wittingref13.Few, wittinglaw17.few. -/
import Derived.Test.YtdnpgadkklgjeaaLawA
import Derived.Test.YtdnpgadkklgjeaaR17G
namespace Wt
open Go Go.RowKit Go.Maps Go.Proofs Fm

def RetB (e : Ending) (w w' : World) : Prop := ∃ b, e = .returned (.bool b) ∧ Ext w w'
set_option maxRecDepth 20000 in
set_option maxHeartbeats 2000000 in
theorem r13Few_any (M : Mo) (va ra : Option Addr) (vc rc : Nat) (n : Int) (w : World) (hm : RM w va ra M) :
    Calls Try.prog 39 #[.agg #[.int .i64 M.worlds, .slice va M.val.length vc, .slice ra M.rel.length rc], .int .i64 n] w fun e w' => RetB e w w' := by
  obtain ⟨W, V, R⟩ := M
  have hE0 := (Ext.refl w).alloc (.cells #[.int .i64 W, .slice va V.length vc, .slice ra R.length rc] 25)
  have hR : RR _ ra R := (hm.ext hE0).rel
  obtain ⟨m0, m1, m2⟩ := MoBox.new w W V R va vc ra rc 25
  have hvl := hm.val.len
  have hrl := hm.rel.len
  dsimp only at hvl hrl m0 m1 m2 ⊢
  have HE := Lib.hid hE0
  have HR := Lib.hid hR
  clear hE0 hm hR
  by_cases hc : (n < W ∧ W ≤ 64) ∨ 20 < V.length ∨ 10 < R.length
  · go_enter Try.func39, Try.ntmps39
    go_wp2
    all_goals first
      | (go_ret; exact ⟨_, rfl, HE.out⟩)
      | (exfalso; omega)
  · have e3 : decide ((20 : Int) < (V.length : Int)) = false := by simp; omega
    have e4 : decide ((10 : Int) < (R.length : Int)) = false := by simp; omega
    by_cases h1 : n < W
    · have e1 : decide (n < W) = true := by simpa using h1
      have e2 : decide (W ≤ 64) = false := by simp; omega
      clear hc h1
      go_enter Try.func39, Try.ntmps39
      go_wp2
      go_loop [5] (fun i => ∃ k : Nat, k ≤ R.length ∧ i = .int .i64 k) (fun i => R.length - (intOf i).toNat)
      case atStart => exact ⟨0, Nat.zero_le _, rfl⟩
      case round =>
        obtain ⟨k, hk, rfl⟩ := hrel
        by_cases hlt : k < R.length
        · obtain ⟨b, off, a', c', rfl, hb, hc', hu⟩ := HR.out.get hlt
          have hul := hu.len
          by_cases hq : 70 < (nth R k).length
          · go_wp2
            go_ret
            exact ⟨_, rfl, HE.out⟩
          · go_wp2
            go_round
            case rel => exact ⟨k + 1, hlt, by go_num⟩
            case measure => simp [intOf]; omega
        · go_wp2
          go_ret
          exact ⟨_, rfl, HE.out⟩
    · have e1 : decide (n < W) = false := by simp; omega
      clear hc h1
      go_enter Try.func39, Try.ntmps39
      go_wp2
      go_loop [5] (fun i => ∃ k : Nat, k ≤ R.length ∧ i = .int .i64 k) (fun i => R.length - (intOf i).toNat)
      case atStart => exact ⟨0, Nat.zero_le _, rfl⟩
      case round =>
        obtain ⟨k, hk, rfl⟩ := hrel
        by_cases hlt : k < R.length
        · obtain ⟨b, off, a', c', rfl, hb, hc', hu⟩ := HR.out.get hlt
          have hul := hu.len
          by_cases hq : 70 < (nth R k).length
          · go_wp2
            go_ret
            exact ⟨_, rfl, HE.out⟩
          · go_wp2
            go_round
            case rel => exact ⟨k + 1, hlt, by go_num⟩
            case measure => simp [intOf]; omega
        · go_wp2
          go_ret
          exact ⟨_, rfl, HE.out⟩
/-- Whether the formulas are small, and more. -/
def RetF (os : List (List Nd)) (e : Ending) (w w' : World) : Prop := ∃ b, e = .returned (.bool b) ∧ Ext w w' ∧ (b = true → ∀ j, j < os.length → (nth os j).length ≤ 60)
set_option maxHeartbeats 2000000 in
theorem few_any (M : Mo) (va ra : Option Addr) (vc rc : Nat) (oa : Option Addr) (oc : Nat) (os : List (List Nd)) (w : World) (hm : RM w va ra M) (hos : RNN w oa os) :
    Calls Try.prog 11 #[.agg #[.int .i64 M.worlds, .slice va M.val.length vc, .slice ra M.rel.length rc], .slice oa os.length oc] w fun e w' => RetF os e w w' := by
  have hE0 := (Ext.refl w).alloc (.cells #[.int .i64 M.worlds, .slice va M.val.length vc, .slice ra M.rel.length rc] 25)
  have HF := Lib.hid (r13Few_any M va ra vc rc 16 _ (hm.ext hE0))
  have HO := Lib.hid (hos.ext hE0)
  obtain ⟨m0, m1, m2⟩ := MoBox.new w M.worlds M.val M.rel va vc ra rc 25
  dsimp only at m0 m1 m2
  have HE := Lib.hid hE0
  have hol := hos.len
  clear hE0 hm hos
  go_enter Try.func11, Try.ntmps11
  go_wp2
  go_loop [9] (fun i => ∃ k : Nat, k ≤ os.length ∧ i = .int .i64 k ∧ Hid (∀ j, j < k → (nth os j).length ≤ 60)) (fun i => os.length - (intOf i).toNat)
  case atStart => exact ⟨0, Nat.zero_le _, rfl, fun _ h => absurd h (Nat.not_lt_zero _)⟩
  case round =>
    obtain ⟨k, hk, rfl, hno⟩ := hrel
    by_cases hlt : k < os.length
    · obtain ⟨b, off, a', c', rfl, hb, hc, hu⟩ := HO.out.get k hlt
      have hul := hu.len
      by_cases hq : 60 < (nth os k).length
      · go_wp2
        go_ret
        exact ⟨false, rfl, HE.out, fun h => by cases h⟩
      · go_wp2
        go_round
        case rel => exact ⟨k + 1, hlt, by go_num, fun j hj => by
          rcases Nat.lt_or_ge j k with h | h
          · exact hno.out j h
          · obtain rfl : j = k := by omega
            omega⟩
        case measure => simp [intOf]; omega
    · go_wp2_with (go_at_call 39; refine HF.out.mono ?_; rintro e w1 ⟨b, rfl, hE1⟩)
      go_ret
      exact ⟨b, rfl, HE.out.trans hE1, fun _ j hj => hno.out j (by omega)⟩
end Wt

/- Walks: wittinglaw17.CheckerHolds, CheckerSets (printed by gen_lawd.py). -/
namespace Wt
open Go Go.RowKit Go.Maps Go.Proofs Fm

set_option maxRecDepth 20000 in
set_option maxHeartbeats 4000000 in
theorem checkerHolds_any (M : Mo) (va ra : Option Addr) (vc rc : Nat) (fa : Option Addr) (fc : Nat) (f : List Nd) (x : Int) (w : World) (hm : RM w va ra M) (hf : RN w fa f) :
    Calls Try.prog 3 #[.agg #[.int .i64 M.worlds, .slice va M.val.length vc, .slice ra M.rel.length rc], .slice fa f.length fc, .int .i64 x] w fun e w' => e = .returned (.bool true) ∧ Ext w w' := by
  have hE0 := (Ext.refl w).alloc (.cells #[.int .i64 M.worlds, .slice va M.val.length vc, .slice ra M.rel.length rc] 25)
  have hbx := MoBox.new w M.worlds M.val M.rel va vc ra rc 25
  have HM := Lib.hid (hm.ext hE0)
  have HF := Lib.hid (hf.ext hE0)
  have HE := Lib.hid hE0
  have HBX := Lib.hid hbx
  clear hm hf hE0 hbx
  go_enter Try.func3, Try.ntmps3
  go_wp2_with fail
  refine (awake_any _).mono ?_
  rintro _ w1 ⟨rfl, hX1⟩
  dsimp only
  obtain ⟨m0, m1, m2⟩ := HBX.out.ext hX1
  dsimp only at m0 m1 m2
  go_wp2_with fail
  refine (few_any M va ra vc rc _ 1 [f] _ (HM.out.ext (hX1.alloc _)) (RNN.one _ fa fc f 26 (HF.out.ext hX1))).mono ?_
  rintro _ w2 ⟨b, rfl, hE2, hsm⟩
  dsimp only
  have hX2 := (hX1.alloc (.cells #[.slice fa f.length fc] 26)).trans hE2
  cases b
  · go_wp2_with fail
    refine (awake_any _).mono ?_
    rintro _ w3 ⟨rfl, hE3⟩
    dsimp only
    go_wp2_with fail
    go_ret
    exact ⟨rfl, HE.out.trans (hX2.trans hE3)⟩
  · clear hsm m0 m1 m2
    obtain ⟨m0, m1, m2⟩ := HBX.out.ext hX2
    dsimp only at m0 m1 m2
    go_wp2_with fail
    refine (holds_any M va ra vc rc fa fc f _ (HM.out.ext hX2) (HF.out.ext hX2)).mono ?_
    rintro _ w3 ⟨rfl, hE⟩
    dsimp only
    have hX3 := hX2.trans hE
    clear m0 m1 m2
    obtain ⟨m0, m1, m2⟩ := HBX.out.ext hX3
    dsimp only at m0 m1 m2
    clear hE
    go_wp2_with fail
    refine (r17Holds_any M va ra vc rc fa fc f _ (HM.out.ext hX3) (HF.out.ext hX3)).mono ?_
    rintro _ w4 ⟨rfl, hE⟩
    dsimp only
    have hX4 := hX3.trans hE
    clear m0 m1 m2
    obtain ⟨m0, m1, m2⟩ := HBX.out.ext hX4
    dsimp only at m0 m1 m2
    clear hE
    go_wp2_with fail
    refine (at_any M va ra vc rc x fa fc f _ (HM.out.ext hX4) (HF.out.ext hX4)).mono ?_
    rintro _ w5 ⟨rfl, hE⟩
    dsimp only
    have hX5 := hX4.trans hE
    clear m0 m1 m2
    obtain ⟨m0, m1, m2⟩ := HBX.out.ext hX5
    dsimp only at m0 m1 m2
    clear hE
    go_wp2_with fail
    refine (r17At_any M va ra vc rc x fa fc f _ (HM.out.ext hX5) (HF.out.ext hX5)).mono ?_
    rintro _ w6 ⟨rfl, hE⟩
    dsimp only
    have hX6 := hX5.trans hE
    clear m0 m1 m2
    obtain ⟨m0, m1, m2⟩ := HBX.out.ext hX6
    dsimp only at m0 m1 m2
    clear hE
    go_wp2_with fail
    refine (valid_any M va ra vc rc fa fc f _ (HM.out.ext hX6) (HF.out.ext hX6)).mono ?_
    rintro _ w7 ⟨rfl, hE⟩
    dsimp only
    have hX7 := hX6.trans hE
    clear m0 m1 m2
    obtain ⟨m0, m1, m2⟩ := HBX.out.ext hX7
    dsimp only at m0 m1 m2
    clear hE
    go_wp2_with fail
    refine (r17Valid_any M va ra vc rc fa fc f _ (HM.out.ext hX7) (HF.out.ext hX7)).mono ?_
    rintro _ w8 ⟨rfl, hE⟩
    dsimp only
    have hX8 := hX7.trans hE
    clear m0 m1 m2
    obtain ⟨m0, m1, m2⟩ := HBX.out.ext hX8
    dsimp only at m0 m1 m2
    clear hE
    have g1 : (holdsOf M f == holdsOf M f) = true := by simp
    have g2 : (reqErr M f == reqErr M f) = true := by simp
    have g3 : (atOf M x f == atOf M x f) = true := by simp
    have g4 : (atErr M x f == atErr M x f) = true := by simp
    have g5 : (validOf M f == validOf M f) = true := by simp
    go_wp2_with fail
    go_ret
    exact ⟨rfl, HE.out.trans hX8⟩
set_option maxRecDepth 20000 in
set_option maxHeartbeats 4000000 in
theorem checkerSets_any (M : Mo) (va ra : Option Addr) (vc rc : Nat) (fa : Option Addr) (fc : Nat) (f : List Nd) (w : World) (hm : RM w va ra M) (hf : RN w fa f) :
    Calls Try.prog 4 #[.agg #[.int .i64 M.worlds, .slice va M.val.length vc, .slice ra M.rel.length rc], .slice fa f.length fc] w fun e w' => e = .returned (.bool true) ∧ Ext w w' := by
  have hE0 := (Ext.refl w).alloc (.cells #[.int .i64 M.worlds, .slice va M.val.length vc, .slice ra M.rel.length rc] 25)
  have hbx := MoBox.new w M.worlds M.val M.rel va vc ra rc 25
  have HM := Lib.hid (hm.ext hE0)
  have HF := Lib.hid (hf.ext hE0)
  have HE := Lib.hid hE0
  have HBX := Lib.hid hbx
  clear hm hf hE0 hbx
  go_enter Try.func4, Try.ntmps4
  go_wp2_with fail
  refine (awake_any _).mono ?_
  rintro _ w1 ⟨rfl, hX1⟩
  dsimp only
  obtain ⟨m0, m1, m2⟩ := HBX.out.ext hX1
  dsimp only at m0 m1 m2
  go_wp2_with fail
  refine (few_any M va ra vc rc _ 1 [f] _ (HM.out.ext (hX1.alloc _)) (RNN.one _ fa fc f 26 (HF.out.ext hX1))).mono ?_
  rintro _ w2 ⟨b, rfl, hE2, hsm⟩
  dsimp only
  have hX2 := (hX1.alloc (.cells #[.slice fa f.length fc] 26)).trans hE2
  cases b
  · go_wp2_with fail
    refine (awake_any _).mono ?_
    rintro _ w3 ⟨rfl, hE3⟩
    dsimp only
    go_wp2_with fail
    go_ret
    exact ⟨rfl, HE.out.trans (hX2.trans hE3)⟩
  · clear hsm m0 m1 m2
    obtain ⟨m0, m1, m2⟩ := HBX.out.ext hX2
    dsimp only at m0 m1 m2
    go_wp2_with fail
    refine (sets_any M va ra vc rc fa fc f _ (HM.out.ext hX2) (HF.out.ext hX2)).mono ?_
    rintro _ w3 ⟨s1, t1, rfl, u1, hE⟩
    dsimp only
    have hX3 := hX2.trans hE
    clear m0 m1 m2
    obtain ⟨m0, m1, m2⟩ := HBX.out.ext hX3
    dsimp only at m0 m1 m2
    clear hE
    go_wp2_with fail
    refine (r17Sets_any M va ra vc rc fa fc f _ (HM.out.ext hX3) (HF.out.ext hX3)).mono ?_
    rintro _ w4 ⟨s2, t2, rfl, u2, hE⟩
    dsimp only
    have hX4 := hX3.trans hE
    clear m0 m1 m2
    obtain ⟨m0, m1, m2⟩ := HBX.out.ext hX4
    dsimp only at m0 m1 m2
    have u1b := u1.ext hE
    clear hE
    have g2 : (reqErr M f == reqErr M f) = true := by simp
    go_wp2_with fail
    refine (r13Same_any s1 s2 t1 t2 (setsOf M f) (setsOf M f) _ u1b u2).mono ?_
    rintro _ w9 ⟨rfl, hq⟩
    dsimp only
    go_wp2_with fail
    go_ret
    exact ⟨by simp, HE.out.trans (hX4.trans hq.ext)⟩
end Wt
