/- Walks: wittingref13.All, Has, beyond, Check, SameSets, Few. -/
import Derived.Test.YtdnpgadkklgjeaaDoorMo
import Derived.Deep.QuietTactic
import Derived.BigQuiet
namespace Wt
open Go Go.RowKit Go.Proofs

set_option maxHeartbeats 1000000 in
theorem r13All_any (n : Nat) (w : World) :
    Calls Tryd.prog 35 #[.int .i64 (n : Int)] w fun e w' => e = .returned (.int .u64 (un (allW n))) ∧ w = w' := by
  by_cases h : 64 ≤ n
  · go_enter Tryd.func35, Tryd.ntmps35
    go_wp2
    go_ret
    exact ⟨by simp [allW, h, un_max], rfl⟩
  · go_enter Tryd.func35, Tryd.ntmps35
    go_wp2
    go_ret
    exact ⟨by simp [allW, h], rfl⟩
/-- Is a world in a set? -/
def hasW (s : BitVec 64) (w : Int) : Bool := if 0 ≤ w then bt s w.toNat else false
/-- Nothing but draws. -/
def Qu (w w' : World) : Prop := ∃ m, w' = w.drewN m
theorem Qu.refl (w : World) : Qu w w := ⟨0, rfl⟩
theorem Qu.ext {w w' : World} (h : Qu w w') : Ext w w' := by obtain ⟨m, rfl⟩ := h; exact (Ext.refl w).drewN m
theorem Qu.drewN {a w : World} (h : Qu a w) (n : Nat) : Qu a (w.drewN n) := by obtain ⟨m, rfl⟩ := h; exact ⟨m + n, World.drewN_drewN ..⟩
theorem Qu.trans {a b c : World} (h : Qu a b) (k : Qu b c) : Qu a c := by obtain ⟨m, rfl⟩ := k; exact h.drewN m
set_option maxHeartbeats 1000000 in
theorem r13beyond_any (n : Nat) (a : Option Addr) (l : List (BitVec 64)) (cap : Nat) (w : World) (hr : RU w a l) :
    Calls Tryd.prog 27 #[.slice a l.length cap, .int .i64 (n : Int)] w fun e w' => e = .returned (.bool (outL n l)) ∧ Qu w w' := by
  have hl := hr.len
  go_enter Tryd.func27, Tryd.ntmps27
  go_wp2
  go_loopw [5] (fun i wr => ∃ k : Nat, k ≤ l.length ∧ i = .int .i64 k ∧ Qu w wr ∧ Hid (∀ j, j < k → outOne n (nth l j) = false)) (fun i _ => l.length - (intOf i).toNat)
  case atStart => exact ⟨0, Nat.zero_le _, rfl, Qu.refl _, fun _ h => absurd h (Nat.not_lt_zero _)⟩
  case round =>
    obtain ⟨k, hk, rfl, hE, hno⟩ := hrel
    by_cases hlt : k < l.length
    · obtain ⟨b, off, rfl, hb, hc⟩ := (hr.ext hE.ext).get hlt
      go_wp2_with fail
      go_quiet ((go_at_call 35; exact Calls.quiet_of_same ((r13All_any _ _).mono fun _ _ h => ⟨h.1, h.2.symm⟩)))
      go_wp2
      · go_ret
        have : outL n l = true := any_yes hlt (by assumption)
        exact ⟨by rw [this]; rfl, hE.drewN _⟩
      · go_roundw
        case rel => exact ⟨k + 1, hlt, by go_num, hE.drewN _, lt_step hno (by assumption)⟩
        case measure => simp [intOf]; omega
    · go_wp2
      go_ret
      have : outL n l = false := any_no (fun j hj => hno j (by omega))
      exact ⟨by rw [this]; rfl, hE⟩
set_option maxHeartbeats 2000000 in
theorem r13Check_any (M : Mo) (va ra : Option Addr) (vc rc : Nat) (w : World) (hr : RM w va ra M) :
    Calls Tryd.prog 6 #[.agg #[.int .i64 M.worlds, .slice va M.val.length vc, .slice ra M.rel.length rc]] w fun e w' =>
      e = .returned (.int .i64 (moCheck M)) ∧ Ext w w' := by
  obtain ⟨W, V, R⟩ := M
  have hv := hr.val
  have hR := hr.rel
  have hvl := hv.len
  have hrl := hR.len
  clear hr
  dsimp only at *
  by_cases h1 : W < 1
  · have hn : moCheck ⟨W, V, R⟩ = 2 := by unfold moCheck; rw [if_pos (by simp [h1])]
    have HN := Lib.hid hn
    clear hn
    go_enter Tryd.func6, Tryd.ntmps6
    go_wp2
    go_ret
    exact ⟨by rw [HN.out]; rfl, (Ext.refl w).alloc _⟩
  · by_cases h2 : 64 < W
    · have hn : moCheck ⟨W, V, R⟩ = 2 := by unfold moCheck; rw [if_pos (by simp [h2])]
      have HN := Lib.hid hn
      clear hn
      go_enter Tryd.func6, Tryd.ntmps6
      go_wp2
      go_ret
      exact ⟨by rw [HN.out]; rfl, (Ext.refl w).alloc _⟩
    · obtain ⟨n, rfl⟩ := Int.eq_ofNat_of_zero_le (show 0 ≤ W by omega)
      by_cases h3 : 4 < R.length
      · have hn : moCheck ⟨n, V, R⟩ = 8 := by unfold moCheck; rw [if_neg (by simp; omega), if_pos (by simp [h3])]
        have HN := Lib.hid hn
        clear hn
        go_enter Tryd.func6, Tryd.ntmps6
        go_wp2
        go_ret
        exact ⟨by rw [HN.out]; rfl, (Ext.refl w).alloc _⟩
      · by_cases h4 : 8 < V.length
        · have hn : moCheck ⟨n, V, R⟩ = 8 := by unfold moCheck; rw [if_neg (by simp; omega), if_pos (by simp [h4])]
          have HN := Lib.hid hn
          clear hn
          go_enter Tryd.func6, Tryd.ntmps6
          go_wp2
          go_ret
          exact ⟨by rw [HN.out]; rfl, (Ext.refl w).alloc _⟩
        · have hn : moCheck ⟨n, V, R⟩ = if R.any (fun r => (r.length : Int) != n) then 3 else if outL n V || R.any (outL n) then 2 else 0 := by
            unfold moCheck; rw [if_neg (by simp; omega), if_neg (by simp; omega)]; simp
          have HN := Lib.hid hn
          clear hn
          go_enter Tryd.func6, Tryd.ntmps6
          go_wp2
          go_loopw [3] (fun i wr => ∃ k : Nat, k ≤ R.length ∧ i = .int .i64 k ∧ Ext (w.alloc (.cells #[.int .i64 (n : Int), .slice va V.length vc, .slice ra R.length rc] 25)) wr ∧ Hid (∀ j, j < k → (((nth R j).length : Int) != n) = false)) (fun i _ => R.length - (intOf i).toNat)
          case atStart => exact ⟨0, Nat.zero_le _, rfl, Ext.refl _, fun _ h => absurd h (Nat.not_lt_zero _)⟩
          case round =>
            obtain ⟨k, hk, rfl, hE, hno⟩ := hrel
            obtain ⟨hc1, hf1, hs1⟩ := hE.rules
            have hE0 : Ext w wr := ((Ext.refl w).alloc _).trans hE
            by_cases hlt : k < R.length
            · obtain ⟨b, off, a', c', rfl, hb, hc, hu⟩ := hR.get hlt
              have hul := hu.len
              by_cases hq : (((nth R k).length : Int) != n) = true
              · go_wp2
                go_quiet (fail)
                go_wp2
                go_ret
                refine ⟨?_, hE0.drewN _⟩
                rw [HN.out, any_yes hlt hq]; rfl
              · have hq' : (((nth R k).length : Int) != n) = false := by simpa using hq
                clear hq
                go_wp2
                go_quiet (fail)
                go_wp2
                go_roundw
                case rel => exact ⟨k + 1, hlt, by go_num, hE.drewN _, lt_step hno hq'⟩
                case measure => simp [intOf]; omega
            · have hno2 : R.any (fun r => (r.length : Int) != n) = false := any_no (fun j hj => hno j (by omega))
              have HN2 := Lib.hid hno2
              clear hno2 hno
              have hv0 := hv.ext hE0
              have HE0 := Lib.hid hE0
              clear hE0
              go_wp2_with (go_at_call 27; refine (r13beyond_any _ _ _ _ _ hv0).mono ?_; rintro e w1 ⟨rfl, hE1q⟩; have hE1 := hE1q.ext; clear hE1q; obtain ⟨hc2, hf2, hs2⟩ := hE1.rules; cases hq : outL n V)
              · have HQ := Lib.hid hq
                clear hq
                go_loopw [4] (fun i wq => ∃ k : Nat, k ≤ R.length ∧ i = .int .i64 k ∧ Ext w1 wq ∧ Hid (∀ j, j < k → outL n (nth R j) = false)) (fun i _ => R.length - (intOf i).toNat)
                case atStart => exact ⟨0, Nat.zero_le _, rfl, Ext.refl _, fun _ h => absurd h (Nat.not_lt_zero _)⟩
                case round =>
                  obtain ⟨k2, hk2, rfl, hE2, hno2⟩ := hrel
                  clear hc1 hf1 hs1 hc2 hf2 hs2
                  obtain ⟨m0, m1, m2⟩ := (MoBox.new w n V R va vc ra rc 25).ext ((hE.trans hE1).trans hE2)
                  have HE3 := Lib.hid ((HE0.out.trans hE1).trans hE2)
                  by_cases hlt2 : k2 < R.length
                  · obtain ⟨b, off, a', c', rfl, hb, hc, hu2⟩ := (hR.ext HE3.out).get hlt2
                    have hul := hu2.len
                    go_wp2_with fail
                    go_quiet ((go_at_call 27; exact Calls.quiet_of (r13beyond_any _ _ _ _ _ (hu2.ext ((Ext.refl _).drewN _)))))
                    cases hq : outL n (nth R k2)
                    · have HQ2 := Lib.hid hq
                      clear hq
                      go_wp2
                      go_roundw
                      case rel => exact ⟨k2 + 1, hlt2, by go_num, hE2.drewN _, lt_step hno2 HQ2.out⟩
                      case measure => simp [intOf]; omega
                    · have HQ2 := Lib.hid hq
                      clear hq
                      go_wp2
                      go_ret
                      exact ⟨by rw [HN.out, HN2.out, any_yes hlt2 HQ2.out]; simp, HE3.out.drewN _⟩
                  · have hno3 : R.any (outL n) = false := any_no (fun j hj => hno2 j (by omega))
                    have HN3 := Lib.hid hno3
                    clear hno2 hno3
                    go_wp2
                    go_ret
                    exact ⟨by rw [HN.out, HN2.out, HN3.out, HQ.out]; simp, HE3.out⟩
              · go_ret
                exact ⟨by rw [HN.out, HN2.out]; simp [*], HE0.out.trans hE1⟩
end Wt
