/- Walks: formula.uses, operand, nodeError, Check. -/
import Derived.Test.YtaghfmcaikjobaaGreatMBase
import Derived.Test.YtaghfmcaikjobaaGreatProg
namespace Wt
open Go Go.RowKit Go.Proofs

set_option maxHeartbeats 1000000 in
theorem uses_any (op : Int) (u : Use) (ok : Bool) (h : useOf op = (u, ok)) (w : World) :
    Calls Tryz.prog 93 #[.int .i64 op] w fun e w' =>
      e = .returned (.tuple #[.agg #[.bool u.x, .bool u.y, .bool u.fact, .bool u.agent, .bool u.group, .bool u.event, .int .i64 u.frag], .bool ok]) ∧ Ext w w' := by
  have H := Lib.hid h
  clear h
  go_enter Tryz.func93, Tryz.ntmps93
  go_wp2
  all_goals
    have h := H.out
    simp only [beq_iff_eq, beq_eq_false_iff_ne] at *
    (try subst op)
    first
      | (simp [useOf] at h; obtain ⟨rfl, rfl⟩ := h
         refine bodyPost_ret (v := .tuple #[.agg #[.bool _, .bool _, .bool _, .bool _, .bool _, .bool _, .int .i64 _], .bool _]) (by simp [results, Tryz.results93, go_sem]) rfl ⟨rfl, (Ext.refl _).alloc _⟩)
      | (simp [useOf, *] at h; obtain ⟨rfl, rfl⟩ := h
         refine bodyPost_ret (v := .tuple #[.agg #[.bool _, .bool _, .bool _, .bool _, .bool _, .bool _, .int .i64 _], .bool _]) (by simp [results, Tryz.results93, go_sem]) rfl ⟨rfl, (Ext.refl _).alloc _⟩)

set_option maxHeartbeats 1000000 in
theorem operand_any (u : Bool) (f a : Int) (w : World) :
    Calls Tryz.prog 94 #[.bool u, .int .i64 f, .int .i64 a] w fun e w' => e = .returned (.bool (opnd u f a)) ∧ w = w' := by
  cases u
  · by_cases h : f = 0
    · go_enter Tryz.func94, Tryz.ntmps94
      go_wp2
      all_goals (go_ret; exact ⟨by simp [opnd, *] <;> omega, rfl⟩)
    · go_enter Tryz.func94, Tryz.ntmps94
      go_wp2
      all_goals (go_ret; exact ⟨by simp [opnd, *] <;> omega, rfl⟩)
  · by_cases h : 0 ≤ f
    · by_cases h2 : f < a
      · go_enter Tryz.func94, Tryz.ntmps94
        go_wp2
        all_goals (go_ret; exact ⟨by simp [opnd, *] <;> omega, rfl⟩)
      · go_enter Tryz.func94, Tryz.ntmps94
        go_wp2
        all_goals (go_ret; exact ⟨by simp [opnd, *] <;> omega, rfl⟩)
    · go_enter Tryz.func94, Tryz.ntmps94
      go_wp2
      all_goals (go_ret; exact ⟨by simp [opnd, *] <;> omega, rfl⟩)

set_option maxHeartbeats 1000000 in
theorem outs_any (u : Bool) (v lo hi : Int) (w : World) :
    Calls Tryz.prog 95 #[.bool u, .int .i64 v, .int .i64 lo, .int .i64 hi] w fun e w' => e = .returned (.bool (outs u v lo hi)) ∧ w = w' := by
  cases u
  · go_enter Tryz.func95, Tryz.ntmps95
    go_wp2
    all_goals (go_ret; exact ⟨by simp [outs, *] <;> omega, rfl⟩)
  · by_cases h : v < lo
    · go_enter Tryz.func95, Tryz.ntmps95
      go_wp2
      all_goals (go_ret; exact ⟨by simp [outs, *] <;> omega, rfl⟩)
    · go_enter Tryz.func95, Tryz.ntmps95
      go_wp2
      all_goals (go_ret; exact ⟨by simp [outs, *] <;> omega, rfl⟩)
end Wt
