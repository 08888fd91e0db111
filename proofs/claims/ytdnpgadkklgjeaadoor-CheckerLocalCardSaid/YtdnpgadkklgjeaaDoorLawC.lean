/- Walks: wittingref13.Few, wittinglaw17.few. -/
import Derived.Test.YtdnpgadkklgjeaaDoorLawA
import Derived.Test.YtdnpgadkklgjeaaDoorR13A
namespace Wt
open Go Go.RowKit Go.Maps Go.Proofs Fm

def RetB (e : Ending) (w w' : World) : Prop := ∃ b, e = .returned (.bool b) ∧ Ext w w'
set_option maxRecDepth 20000 in
set_option maxHeartbeats 2000000 in
theorem r13Few_any (M : Mo) (va ra : Option Addr) (vc rc : Nat) (n : Int) (w : World) (hm : RM w va ra M) :
    Calls Tryd.prog 26 #[.agg #[.int .i64 M.worlds, .slice va M.val.length vc, .slice ra M.rel.length rc], .int .i64 n] w fun e w' => RetB e w w' := by
  obtain ⟨W, V, R⟩ := M
  have hE0 := (Ext.refl w).alloc (.cells #[.int .i64 W, .slice va V.length vc, .slice ra R.length rc] 25)
  have hR : RR _ ra R := (hm.ext hE0).rel
  obtain ⟨m0, m1, m2⟩ := MoBox.new w W V R va vc ra rc 25
  have hvl := hm.val.len
  have hrl := hm.rel.len
  dsimp only at hvl hrl m0 m1 m2 ⊢
  have HE := Lib.hid hE0
  have HR := Lib.hid hR
  clear hE0 hm hR
  by_cases hc : (n < W ∧ W ≤ 64) ∨ 20 < V.length ∨ 10 < R.length
  · go_enter Tryd.func26, Tryd.ntmps26
    go_wp2
    all_goals first
      | (go_ret; exact ⟨_, rfl, HE.out⟩)
      | (exfalso; omega)
  · have e3 : decide ((20 : Int) < (V.length : Int)) = false := by simp; omega
    have e4 : decide ((10 : Int) < (R.length : Int)) = false := by simp; omega
    by_cases h1 : n < W
    · have e1 : decide (n < W) = true := by simpa using h1
      have e2 : decide (W ≤ 64) = false := by simp; omega
      clear hc h1
      go_enter Tryd.func26, Tryd.ntmps26
      go_wp2
      go_loop [5] (fun i => ∃ k : Nat, k ≤ R.length ∧ i = .int .i64 k) (fun i => R.length - (intOf i).toNat)
      case atStart => exact ⟨0, Nat.zero_le _, rfl⟩
      case round =>
        obtain ⟨k, hk, rfl⟩ := hrel
        by_cases hlt : k < R.length
        · obtain ⟨b, off, a', c', rfl, hb, hc', hu⟩ := HR.out.get hlt
          have hul := hu.len
          by_cases hq : 70 < (nth R k).length
          · go_wp2
            go_ret
            exact ⟨_, rfl, HE.out⟩
          · go_wp2
            go_round
            case rel => exact ⟨k + 1, hlt, by go_num⟩
            case measure => simp [intOf]; omega
        · go_wp2
          go_ret
          exact ⟨_, rfl, HE.out⟩
    · have e1 : decide (n < W) = false := by simp; omega
      clear hc h1
      go_enter Tryd.func26, Tryd.ntmps26
      go_wp2
      go_loop [5] (fun i => ∃ k : Nat, k ≤ R.length ∧ i = .int .i64 k) (fun i => R.length - (intOf i).toNat)
      case atStart => exact ⟨0, Nat.zero_le _, rfl⟩
      case round =>
        obtain ⟨k, hk, rfl⟩ := hrel
        by_cases hlt : k < R.length
        · obtain ⟨b, off, a', c', rfl, hb, hc', hu⟩ := HR.out.get hlt
          have hul := hu.len
          by_cases hq : 70 < (nth R k).length
          · go_wp2
            go_ret
            exact ⟨_, rfl, HE.out⟩
          · go_wp2
            go_round
            case rel => exact ⟨k + 1, hlt, by go_num⟩
            case measure => simp [intOf]; omega
        · go_wp2
          go_ret
          exact ⟨_, rfl, HE.out⟩
/-- Whether the formulas are small, and more. -/
def RetF (os : List (List Nd)) (e : Ending) (w w' : World) : Prop := ∃ b, e = .returned (.bool b) ∧ Ext w w' ∧ (b = true → ∀ j, j < os.length → (nth os j).length ≤ 60)
set_option maxHeartbeats 2000000 in
theorem few_any (M : Mo) (va ra : Option Addr) (vc rc : Nat) (oa : Option Addr) (oc : Nat) (os : List (List Nd)) (w : World) (hm : RM w va ra M) (hos : RNN w oa os) :
    Calls Tryd.prog 5 #[.agg #[.int .i64 M.worlds, .slice va M.val.length vc, .slice ra M.rel.length rc], .slice oa os.length oc] w fun e w' => RetF os e w w' := by
  have hE0 := (Ext.refl w).alloc (.cells #[.int .i64 M.worlds, .slice va M.val.length vc, .slice ra M.rel.length rc] 25)
  have HF := Lib.hid (r13Few_any M va ra vc rc 16 _ (hm.ext hE0))
  have HO := Lib.hid (hos.ext hE0)
  obtain ⟨m0, m1, m2⟩ := MoBox.new w M.worlds M.val M.rel va vc ra rc 25
  dsimp only at m0 m1 m2
  have HE := Lib.hid hE0
  have hol := hos.len
  clear hE0 hm hos
  go_enter Tryd.func5, Tryd.ntmps5
  go_wp2
  go_loop [9] (fun i => ∃ k : Nat, k ≤ os.length ∧ i = .int .i64 k ∧ Hid (∀ j, j < k → (nth os j).length ≤ 60)) (fun i => os.length - (intOf i).toNat)
  case atStart => exact ⟨0, Nat.zero_le _, rfl, fun _ h => absurd h (Nat.not_lt_zero _)⟩
  case round =>
    obtain ⟨k, hk, rfl, hno⟩ := hrel
    by_cases hlt : k < os.length
    · obtain ⟨b, off, a', c', rfl, hb, hc, hu⟩ := HO.out.get k hlt
      have hul := hu.len
      by_cases hq : 60 < (nth os k).length
      · go_wp2
        go_ret
        exact ⟨false, rfl, HE.out, fun h => by cases h⟩
      · go_wp2
        go_round
        case rel => exact ⟨k + 1, hlt, by go_num, fun j hj => by
          rcases Nat.lt_or_ge j k with h | h
          · exact hno.out j h
          · obtain rfl : j = k := by omega
            omega⟩
        case measure => simp [intOf]; omega
    · go_wp2_with (go_at_call 26; refine HF.out.mono ?_; rintro e w1 ⟨b, rfl, hE1⟩)
      go_ret
      exact ⟨b, rfl, HE.out.trans hE1, fun _ j hj => hno.out j (by omega)⟩
end Wt
