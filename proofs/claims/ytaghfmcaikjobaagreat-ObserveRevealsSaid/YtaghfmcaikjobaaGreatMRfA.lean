/- Walks: wittingref05: UsesX, UsesY, agent, group, node, Check. -/
import Derived.Test.YtaghfmcaikjobaaGreatMFmJ
namespace Wt
open Go Go.RowKit Go.Maps Go.Proofs Fm

theorem use_low (op : Int) (h : op < 1 ∨ 21 < op) : useOf op = (⟨false,false,false,false,false,false,0⟩, false) := by
  refine useOf_no op fun h2 => ?_
  rcases useOf_cases op h2 with h | h | h | h | h | h | h | h | h | h | h | h | h | h | h | h | h | h | h | h | h <;> omega
theorem op_cases (op : Int) : (op < 1 ∨ 21 < op) ∨ op = 1 ∨ op = 2 ∨ op = 3 ∨ op = 4 ∨ op = 5 ∨ op = 6 ∨ op = 7 ∨ op = 8 ∨ op = 9 ∨ op = 10 ∨ op = 11 ∨ op = 12 ∨ op = 13 ∨ op = 14 ∨ op = 15 ∨ op = 16 ∨ op = 17 ∨ op = 18 ∨ op = 19 ∨ op = 20 ∨ op = 21 := by omega
theorem r5x_eq (op : Int) : (useOf op).1.x = (decide (4 ≤ op) && decide (op ≤ 21)) := by
  rcases op_cases op with h | h | h | h | h | h | h | h | h | h | h | h | h | h | h | h | h | h | h | h | h | h
  · rw [use_low op h]; simp; omega
  all_goals (subst h; rfl)
theorem r5y_eq (op : Int) : (useOf op).1.y = (decide (5 ≤ op ∧ op ≤ 8) || op == 13 || op == 14 || op == 16 || op == 19 || op == 21) := by
  rcases op_cases op with h | h | h | h | h | h | h | h | h | h | h | h | h | h | h | h | h | h | h | h | h | h
  · rw [use_low op h]; simp; omega
  all_goals (subst h; rfl)
theorem r5a_eq (op : Int) : (useOf op).1.agent = (op == 9 || op == 10 || op == 14 || op == 15) := by
  rcases op_cases op with h | h | h | h | h | h | h | h | h | h | h | h | h | h | h | h | h | h | h | h | h | h
  · rw [use_low op h]; simp; omega
  all_goals (subst h; rfl)
theorem r5g_eq (op : Int) : (useOf op).1.group = (decide (11 ≤ op) && decide (op ≤ 13)) := by
  rcases op_cases op with h | h | h | h | h | h | h | h | h | h | h | h | h | h | h | h | h | h | h | h | h | h
  · rw [use_low op h]; simp; omega
  all_goals (subst h; rfl)
theorem r5f_eq (op : Int) : (useOf op).1.fact = (op == 3) := by
  rcases op_cases op with h | h | h | h | h | h | h | h | h | h | h | h | h | h | h | h | h | h | h | h | h | h
  · rw [use_low op h]; simp; omega
  all_goals (subst h; rfl)
theorem r5e_eq (op : Int) : (useOf op).1.event = (op == 17) := by
  rcases op_cases op with h | h | h | h | h | h | h | h | h | h | h | h | h | h | h | h | h | h | h | h | h | h
  · rw [use_low op h]; simp; omega
  all_goals (subst h; rfl)
theorem r5ok_eq (op : Int) : (useOf op).2 = (decide (1 ≤ op) && decide (op ≤ 21)) := by
  rcases op_cases op with h | h | h | h | h | h | h | h | h | h | h | h | h | h | h | h | h | h | h | h | h | h
  · rw [use_low op h]; simp; omega
  all_goals (subst h; rfl)
set_option maxHeartbeats 1000000 in
theorem r5X_any (op : Int) (w : World) :
    Calls Tryz.prog 56 #[.int .i64 op] w fun e w' => e = .returned (.bool (useOf op).1.x) ∧ w = w' := by
  have H := Lib.hid (r5x_eq op)
  by_cases h1 : 4 ≤ op <;> by_cases h2 : op ≤ 21
  all_goals
    go_enter Tryz.func56, Tryz.ntmps56
    go_wp2
    go_ret
    exact ⟨by rw [H.out]; simp [h1, h2], rfl⟩
set_option maxHeartbeats 1000000 in
theorem r5G_any (op : Int) (w : World) :
    Calls Tryz.prog 104 #[.int .i64 op] w fun e w' => e = .returned (.bool (useOf op).1.group) ∧ w = w' := by
  have H := Lib.hid (r5g_eq op)
  by_cases h1 : 11 ≤ op <;> by_cases h2 : op ≤ 13
  all_goals
    go_enter Tryz.func104, Tryz.ntmps104
    go_wp2
    go_ret
    exact ⟨by rw [H.out]; simp [h1, h2], rfl⟩
set_option maxHeartbeats 1000000 in
theorem r5A_any (op : Int) (w : World) :
    Calls Tryz.prog 103 #[.int .i64 op] w fun e w' => e = .returned (.bool (useOf op).1.agent) ∧ w = w' := by
  by_cases h : op = 9 ∨ op = 10 ∨ op = 14 ∨ op = 15
  · rcases h with rfl | rfl | rfl | rfl
    all_goals
      go_enter Tryz.func103, Tryz.ntmps103
      go_wp2
      go_ret
      exact ⟨rfl, rfl⟩
  · have H := Lib.hid (r5a_eq op)
    have e9 : (op == 9) = false := by simp; omega
    have e10 : (op == 10) = false := by simp; omega
    have e14 : (op == 14) = false := by simp; omega
    have e15 : (op == 15) = false := by simp; omega
    clear h
    go_enter Tryz.func103, Tryz.ntmps103
    go_wp2
    go_ret
    exact ⟨by rw [H.out]; simp [e9, e10, e14, e15], rfl⟩
set_option maxHeartbeats 1000000 in
theorem r5Y_any (op : Int) (w : World) :
    Calls Tryz.prog 57 #[.int .i64 op] w fun e w' => e = .returned (.bool (useOf op).1.y) ∧ w = w' := by
  by_cases h : op = 5 ∨ op = 6 ∨ op = 7 ∨ op = 8 ∨ op = 13 ∨ op = 14 ∨ op = 16 ∨ op = 19 ∨ op = 21
  · rcases h with rfl | rfl | rfl | rfl | rfl | rfl | rfl | rfl | rfl
    all_goals
      go_enter Tryz.func57, Tryz.ntmps57
      go_wp2
      go_ret
      exact ⟨rfl, rfl⟩
  · have H := Lib.hid (r5y_eq op)
    have e13 : (op == 13) = false := by simp; omega
    have e14 : (op == 14) = false := by simp; omega
    have e16 : (op == 16) = false := by simp; omega
    have e19 : (op == 19) = false := by simp; omega
    have e21 : (op == 21) = false := by simp; omega
    have e58 : decide (5 ≤ op ∧ op ≤ 8) = false := by simp; omega
    by_cases h5 : 5 ≤ op
    · have d8 : decide (op ≤ 8) = false := by simp; omega
      clear h
      go_enter Tryz.func57, Tryz.ntmps57
      go_wp2
      go_ret
      exact ⟨by rw [H.out, e58, e13, e14, e16, e19, e21]; rfl, rfl⟩
    · clear h
      go_enter Tryz.func57, Tryz.ntmps57
      go_wp2
      go_ret
      exact ⟨by rw [H.out, e58, e13, e14, e16, e19, e21]; rfl, rfl⟩

set_option maxRecDepth 20000 in
set_option maxHeartbeats 1000000 in
theorem r5node_low (op i ev g x y a : Int) (w : World) (h : op < 1 ∨ 21 < op) :
    Calls Tryz.prog 88 #[.agg #[.int .i64 op, .int .i64 i, .int .i64 ev, .int .i64 g, .int .i64 x, .int .i64 y], .int .i64 a] w fun e w' => e = .returned (.int .i64 (nodeErr ⟨op, i, ev, g, x, y⟩ a)) ∧ Ext w w' := by
  have hn : nodeErr ⟨op, i, ev, g, x, y⟩ a = 10 := nodeErr_no _ _ (by rw [use_low op h])
  have HN := Lib.hid hn
  clear hn
  rcases h with h | h
  · go_enter Tryz.func88, Tryz.ntmps88
    go_wp2
    go_ret
    exact ⟨by rw [HN.out]; rfl, (Ext.refl w).alloc _⟩
  · go_enter Tryz.func88, Tryz.ntmps88
    go_wp2
    go_ret
    exact ⟨by rw [HN.out]; rfl, (Ext.refl w).alloc _⟩
end Wt
