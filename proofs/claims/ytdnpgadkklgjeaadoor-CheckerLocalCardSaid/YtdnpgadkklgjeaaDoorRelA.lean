/- Walks: relation.all, Check, Box, Diamond. -/
import Derived.Test.YtdnpgadkklgjeaaDoorMo
namespace Wt
open Go Go.RowKit Go.Proofs

theorem not_un (s : BitVec 64) : IntKind.u64.wrap (((~~~ BitVec.ofInt 64 (un s)).toNat : Nat) : Int) = un (~~~ s) := by rw [ofInt_un, wrap_un]
/-- The points all of whose successors are in a set. -/
def boxTo (r : List (BitVec 64)) (s : BitVec 64) : Nat → BitVec 64
  | 0 => 0#64
  | k + 1 => if (nth r k &&& ~~~ s) = 0#64 then boxTo r s k ||| 1#64 <<< k else boxTo r s k
/-- The error of a relation. -/
def relBad (r : List (BitVec 64)) : Bool := outL r.length r
def relCheck (r : List (BitVec 64)) : Int := if 64 < r.length then 2 else if relBad r then 1 else 0
def relBox (r : List (BitVec 64)) (s : BitVec 64) : BitVec 64 := if relCheck r = 0 then boxTo r s r.length else 0#64
def relDia (r : List (BitVec 64)) (s : BitVec 64) : BitVec 64 := if relCheck r = 0 then allW r.length &&& ~~~ boxTo r (~~~ s) r.length else 0#64

set_option maxHeartbeats 1000000 in
theorem relAll_any (n : Nat) (w : World) :
    Calls Tryd.prog 68 #[.int .i64 (n : Int)] w fun e w' => e = .returned (.int .u64 (un (allW n))) ∧ w = w' := by
  by_cases h : 64 ≤ n
  · go_enter Tryd.func68, Tryd.ntmps68
    go_wp2
    go_ret
    exact ⟨by simp [allW, h, un_max], rfl⟩
  · go_enter Tryd.func68, Tryd.ntmps68
    go_wp2
    go_ret
    exact ⟨by simp [allW, h], rfl⟩
set_option maxHeartbeats 1000000 in
theorem relCheck_any (a : Option Addr) (r : List (BitVec 64)) (c : Nat) (w : World) (hr : RU w a r) :
    Calls Tryd.prog 67 #[.int .i64 (r.length : Int), .slice a r.length c] w fun e w' => e = .returned (.int .i64 (relCheck r)) ∧ w = w' := by
  have hl := hr.len
  by_cases h : 64 < r.length
  · have hn : relCheck r = 2 := if_pos h
    have HN := Lib.hid hn
    clear hn
    go_enter Tryd.func67, Tryd.ntmps67
    go_wp2
    go_ret
    exact ⟨by rw [HN.out]; rfl, rfl⟩
  · have hn : relCheck r = if relBad r then 1 else 0 := if_neg h
    have HN := Lib.hid hn
    clear hn
    have hne : ((r.length : Int) != (r.length : Int)) = false := by simp
    go_enter Tryd.func67, Tryd.ntmps67
    go_wp2
    go_loop [19] (fun i => ∃ k : Nat, k ≤ r.length ∧ i = .int .i64 k ∧ Hid (∀ j, j < k → outOne r.length (nth r j) = false)) (fun i => r.length - (intOf i).toNat)
    case atStart => exact ⟨0, Nat.zero_le _, rfl, fun _ h => absurd h (Nat.not_lt_zero _)⟩
    case round =>
      obtain ⟨k, hk, rfl, hno⟩ := hrel
      by_cases hlt : k < r.length
      · obtain ⟨b, off, rfl, hb, hc⟩ := hr.get hlt
        go_wp2_with (go_at_call 68; refine (relAll_any _ _).mono ?_; rintro e w1 ⟨rfl, rfl⟩)
        · go_ret
          have : relBad r = true := any_yes hlt (by assumption)
          exact ⟨by rw [HN.out, this]; rfl, rfl⟩
        · go_round
          case rel => exact ⟨k + 1, hlt, by go_num, lt_step hno (by assumption)⟩
          case measure => simp [intOf]; omega
      · have hno2 : relBad r = false := any_no (fun j hj => hno j (by omega))
        have HN2 := Lib.hid hno2
        clear hno2 hno
        go_wp2
        go_ret
        exact ⟨by rw [HN.out, HN2.out]; rfl, rfl⟩
set_option maxHeartbeats 1000000 in
theorem relBox_any (a : Option Addr) (r : List (BitVec 64)) (c : Nat) (s : BitVec 64) (w : World) (hr : RU w a r) :
    Calls Tryd.prog 56 #[.slice a r.length c, .int .u64 (un s)] w fun e w' => e = .returned (.int .u64 (un (relBox r s))) ∧ w = w' := by
  have hl := hr.len
  by_cases h : relCheck r = 0
  · have hn : relBox r s = boxTo r s r.length := if_pos h
    have HN := Lib.hid hn
    have H1 := Lib.hid h
    have h64 : r.length ≤ 64 := by
      unfold relCheck at h
      by_cases h2 : 64 < r.length
      · rw [if_pos h2] at h; omega
      · omega
    clear hn h
    go_enter Tryd.func56, Tryd.ntmps56
    go_wp2_with (go_at_call 67; refine (relCheck_any _ _ _ _ hr).mono ?_; rintro e w1 ⟨rfl, rfl⟩; rw [H1.out])
    go_loop [5, 14] (fun o i => ∃ k : Nat, k ≤ r.length ∧ i = .int .i64 k ∧ o = .int .u64 (un (boxTo r s k))) (fun _ i => r.length - (intOf i).toNat)
    case atStart => exact ⟨0, Nat.zero_le _, rfl, rfl⟩
    case round =>
      obtain ⟨k, hk, rfl, rfl⟩ := hrel
      by_cases hlt : k < r.length
      · obtain ⟨b, off, rfl, hb, hc⟩ := hr.get hlt
        by_cases hq : (nth r k &&& ~~~ s) = 0#64
        · have hs : boxTo r s (k + 1) = boxTo r s k ||| 1#64 <<< k := if_pos hq
          have HS := Lib.hid hs
          have hq2 : ((nth r k &&& ~~~ s) == 0#64) = true := by simp [hq]
          clear hq hs
          go_wp2
          go_round
          case rel => exact ⟨k + 1, hlt, by go_num, by rw [HS.out]⟩
          case measure => simp [intOf]; omega
        · have hs : boxTo r s (k + 1) = boxTo r s k := if_neg hq
          have HS := Lib.hid hs
          have hq2 : ((nth r k &&& ~~~ s) == 0#64) = false := by simp [hq]
          clear hq hs
          go_wp2
          go_round
          case rel => exact ⟨k + 1, hlt, by go_num, by rw [HS.out]⟩
          case measure => simp [intOf]; omega
      · obtain rfl : k = r.length := by omega
        go_wp2
        go_ret
        exact ⟨by rw [HN.out]; rfl, rfl⟩
  · have hn : relBox r s = 0#64 := if_neg h
    have HN := Lib.hid hn
    have hq2 : (relCheck r != 0) = true := by simp [h]
    clear hn h
    go_enter Tryd.func56, Tryd.ntmps56
    go_wp2_with (go_at_call 67; refine (relCheck_any _ _ _ _ hr).mono ?_; rintro e w1 ⟨rfl, rfl⟩)
    go_ret
    exact ⟨by rw [HN.out]; rfl, rfl⟩
set_option maxHeartbeats 1000000 in
theorem relDia_any (a : Option Addr) (r : List (BitVec 64)) (c : Nat) (s : BitVec 64) (w : World) (hr : RU w a r) :
    Calls Tryd.prog 57 #[.slice a r.length c, .int .u64 (un s)] w fun e w' => e = .returned (.int .u64 (un (relDia r s))) ∧ w = w' := by
  have hl := hr.len
  by_cases h : relCheck r = 0
  · have hn : relDia r s = allW r.length &&& ~~~ relBox r (~~~ s) := by unfold relDia relBox; rw [if_pos h, if_pos h]
    have HN := Lib.hid hn
    have H1 := Lib.hid h
    clear hn h
    go_enter Tryd.func57, Tryd.ntmps57
    go_wp2_with (first | (go_at_call 67; refine (relCheck_any _ _ _ _ hr).mono ?_; rintro e w1 ⟨rfl, rfl⟩; rw [H1.out]) | (go_at_call 68; refine (relAll_any _ _).mono ?_; rintro e w1 ⟨rfl, rfl⟩) | (go_at_call 56; refine (relBox_any _ _ _ (~~~ s) _ hr).mono ?_; rintro e w1 ⟨rfl, rfl⟩))
    go_ret
    exact ⟨by rw [HN.out]; rfl, rfl⟩
  · have hn : relDia r s = 0#64 := if_neg h
    have HN := Lib.hid hn
    have hq2 : (relCheck r != 0) = true := by simp [h]
    clear hn h
    go_enter Tryd.func57, Tryd.ntmps57
    go_wp2_with (go_at_call 67; refine (relCheck_any _ _ _ _ hr).mono ?_; rintro e w1 ⟨rfl, rfl⟩)
    go_ret
    exact ⟨by rw [HN.out]; rfl, rfl⟩
end Wt
