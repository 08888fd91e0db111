/- wittingref05.node: all patterns (printed by gen_rfb.py). -/
import Derived.Test.YtdnpgadkklgjeaaRfB1
import Derived.Test.YtdnpgadkklgjeaaRfB2
import Derived.Test.YtdnpgadkklgjeaaRfB3
namespace Wt
open Go Go.RowKit Go.Maps Go.Proofs Fm

set_option maxHeartbeats 1000000 in
theorem r5node_any (n : Nd) (a : Int) (w : World) :
    Calls Try.prog 74 #[.agg #[.int .i64 n.op, .int .i64 n.i, .int .i64 n.e, .int .i64 n.g, .int .i64 n.x, .int .i64 n.y], .int .i64 a] w fun e w' => e = .returned (.int .i64 (nodeErr n a)) ∧ Ext w w' := by
  obtain ⟨op, i, ev, g, x, y⟩ := n
  dsimp only
  by_cases h : (useOf op).2 = true
  · have h0 : 1 ≤ op ∧ op ≤ 21 := by rw [r5ok_eq] at h; simpa using h
    obtain ⟨fr, h' | h' | h' | h' | h' | h' | h' | h' | h'⟩ := useOf_pat op h
    · exact r5node_0 op i ev g x y a fr w h0.1 h0.2 h'
    · exact r5node_1 op i ev g x y a fr w h0.1 h0.2 h'
    · exact r5node_2 op i ev g x y a fr w h0.1 h0.2 h'
    · exact r5node_3 op i ev g x y a fr w h0.1 h0.2 h'
    · exact r5node_4 op i ev g x y a fr w h0.1 h0.2 h'
    · exact r5node_5 op i ev g x y a fr w h0.1 h0.2 h'
    · exact r5node_6 op i ev g x y a fr w h0.1 h0.2 h'
    · exact r5node_7 op i ev g x y a fr w h0.1 h0.2 h'
    · exact r5node_8 op i ev g x y a fr w h0.1 h0.2 h'
  · exact r5node_low op i ev g x y a w (by rw [r5ok_eq] at h; simp at h; omega)
end Wt

/- Walks: wittingref05.Check. -/
namespace Wt
open Go Go.RowKit Go.Maps Go.Proofs Fm

set_option maxHeartbeats 1000000 in
theorem r5Check_any (fa : Option Addr) (fc : Nat) (l : List Nd) (w : World) (hr : RN w fa l) :
    Calls Try.prog 52 #[.slice fa l.length fc] w fun e w' => e = .returned (.int .i64 (fCheck l)) ∧ Ext w w' := by
  have hl := hr.len
  by_cases h1 : l.length = 0
  · have hn : fCheck l = 3 := by unfold fCheck; rw [if_pos h1]
    have HN := Lib.hid hn
    have H1 : ((l.length : Int) == 0) = true := by simp [h1]
    clear hn h1
    go_enter Try.func52, Try.ntmps52
    go_wp2
    go_ret
    exact ⟨by rw [HN.out]; rfl, Ext.refl w⟩
  · by_cases h2 : 200 < l.length
    · have hn : fCheck l = 8 := by unfold fCheck; rw [if_neg h1, if_pos h2]
      have HN := Lib.hid hn
      have H1 : ((l.length : Int) == 0) = false := by simp [h1]
      clear hn h1
      go_enter Try.func52, Try.ntmps52
      go_wp2
      go_ret
      exact ⟨by rw [HN.out]; rfl, Ext.refl w⟩
    · have hn : fCheck l = errFrom l l.length 0 := by unfold fCheck; rw [if_neg h1, if_neg h2]
      have HN := Lib.hid hn
      have H1 : ((l.length : Int) == 0) = false := by simp [h1]
      clear hn h1
      go_enter Try.func52, Try.ntmps52
      go_wp2
      go_loopw [3] (fun i wr => ∃ k : Nat, k ≤ l.length ∧ i = .int .i64 k ∧ Ext w wr ∧ Hid (∀ j, 0 ≤ j → j < k → nodeErr (nth l j) j = 0)) (fun i _ => l.length - (intOf i).toNat)
      case atStart => exact ⟨0, Nat.zero_le _, rfl, Ext.refl _, fun _ _ h => absurd h (Nat.not_lt_zero _)⟩
      case round =>
        obtain ⟨k, hk, rfl, hE, hno⟩ := hrel
        by_cases hlt : k < l.length
        · obtain ⟨b, off, rfl, hb, n0, n1, n2, n3, n4, n5⟩ := (hr.ext hE).get hlt
          by_cases hq : nodeErr (nth l k) k = 0
          · have HQ := Lib.hid hq
            clear hq
            go_wp2_with (go_at_call 74; refine (r5node_any (nth l k) _ _).mono ?_; rintro e w1 ⟨rfl, hE1⟩; rw [HQ.out])
            go_roundw
            case rel => exact ⟨k + 1, hlt, by go_num, hE.trans hE1, fun j h0 hj => by
              rcases Nat.lt_or_ge j k with h | h
              · exact hno j h0 h
              · obtain rfl : j = k := by omega
                exact HQ.out⟩
            case measure => simp [intOf]; omega
          · have HQ := Lib.hid hq
            have hq2 : (nodeErr (nth l k) k != 0) = true := by simp [hq]
            clear hq
            go_wp2_with (go_at_call 74; refine (r5node_any (nth l k) _ _).mono ?_; rintro e w1 ⟨rfl, hE1⟩)
            go_ret
            exact ⟨by rw [HN.out, errFrom_first l k _ 0 (Nat.zero_le _) (by omega) hno HQ.out]; rfl, hE.trans hE1⟩
        · go_wp2
          go_ret
          exact ⟨by rw [HN.out, errFrom_none l _ 0 (fun j h0 hj => hno j h0 (by omega))]; rfl, hE⟩

end Wt
