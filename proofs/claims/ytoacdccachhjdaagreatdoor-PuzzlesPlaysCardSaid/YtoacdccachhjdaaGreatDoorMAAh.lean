/- Walks: formula.nodeError, Check. -/
import Derived.Test.YtoacdccachhjdaaGreatDoorMAAc
namespace Wt
open Go Go.RowKit Go.Proofs

set_option maxHeartbeats 8000000 in
theorem nodeError_any (n : Nd) (a : Int) (w : World) :
    Calls Tryz.prog 124 #[.agg #[.int .i64 n.op, .int .i64 n.i, .int .i64 n.e, .int .i64 n.g, .int .i64 n.x, .int .i64 n.y], .int .i64 a] w fun e w' =>
      e = .returned (.int .i64 (nodeErr n a)) ∧ Ext w w' := by
  obtain ⟨op, i, e, g, x, y⟩ := n
  by_cases ho : (useOf op).2 = true
  · obtain ⟨fr, h | h | h | h | h | h | h | h | h⟩ := useOf_pat op ho
    all_goals
      clear ho
      have hn := nodeErr_of ⟨op, i, e, g, x, y⟩ a _ h
      simp only [opnd_f, opnd_t, needless, wide, outs_f, outs_t] at hn
      have H := Lib.hid h
      have HN := Lib.hid hn
      clear h hn
      go_enter Tryz.func124, Tryz.ntmps124
      go_wp2_with (first | (go_at_call 123; refine (uses_any _ _ _ H.out _).mono ?_; rintro e w1 ⟨rfl, hE⟩; obtain ⟨hc, hf, hs⟩ := hE.rules) | (go_at_call 160; refine (operand_any _ _ _ _).mono ?_; rintro e w' ⟨rfl, rfl⟩; simp only [opnd_f, opnd_t]) | (go_at_call 161; refine (outs_any _ _ _ _ _).mono ?_; rintro e w' ⟨rfl, rfl⟩; simp only [outs_f, outs_t]))
      all_goals
        go_ret
        refine ⟨?_, (((Ext.refl w).alloc _).trans hE).alloc _⟩
        rw [HN.out]
        clear hE hc hf hs HN H
        go_tidy
        simp_all <;> (try omega) <;> (try (split <;> omega))
  · have hn := nodeErr_no ⟨op, i, e, g, x, y⟩ a (by simpa using ho)
    have h := useOf_no op ho
    have H := Lib.hid h
    have HN := Lib.hid hn
    clear h hn ho
    go_enter Tryz.func124, Tryz.ntmps124
    go_wp2_with (go_at_call 123; refine (uses_any _ _ _ H.out _).mono ?_; rintro e w1 ⟨rfl, hE⟩; obtain ⟨hc, hf, hs⟩ := hE.rules)
    go_ret
    refine ⟨?_, (((Ext.refl w).alloc _).trans hE).alloc _⟩
    rw [HN.out]
    rfl
end Wt
