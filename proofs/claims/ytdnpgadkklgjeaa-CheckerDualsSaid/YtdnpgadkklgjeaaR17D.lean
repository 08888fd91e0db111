/- wittingref17.One at all operators (printed by gen_r17c.py). -/
import Derived.Test.YtdnpgadkklgjeaaR17C1
import Derived.Test.YtdnpgadkklgjeaaR17C2
import Derived.Test.YtdnpgadkklgjeaaR17C3
import Derived.Test.YtdnpgadkklgjeaaOwn
namespace Wt
open Go Go.RowKit Go.Maps Go.Proofs Fm

/-- The set of a node of a model that it fits. -/
theorem r17One_any (M : Mo) (va ra : Option Addr) (vc rc : Nat) (n : Nd) (x y : BitVec 64) (w : World) (hm : RM w va ra M) (N : Nat) (ok : MoOk M N) (hn : NdOk n) (hfit : (valN M n.op n.i n.g x y).2 = true) :
    Calls Try.prog 48 #[.agg #[.int .i64 M.worlds, .slice va M.val.length vc, .slice ra M.rel.length rc], .agg #[.int .i64 n.op, .int .i64 n.i, .int .i64 n.e, .int .i64 n.g, .int .i64 n.x, .int .i64 n.y], .int .u64 (un x), .int .u64 (un y)] w fun en w' => Ret1 (valN M n.op n.i n.g x y).1 en w w' := by
  obtain ⟨o, i, e, g, px, py⟩ := n
  have h1 := hn.fact
  have h2 := hn.agent
  have h3 := hn.group
  dsimp only at hfit h1 h2 h3 ⊢
  by_cases ho : o < 1 ∨ 13 < o
  · rw [valN_no M i g x y ho] at hfit; cases hfit
  · rcases (show o = 1 ∨ o = 2 ∨ o = 3 ∨ o = 4 ∨ o = 5 ∨ o = 6 ∨ o = 7 ∨ o = 8 ∨ o = 9 ∨ o = 10 ∨ o = 11 ∨ o = 12 ∨ o = 13 by omega) with rfl | rfl | rfl | rfl | rfl | rfl | rfl | rfl | rfl | rfl | rfl | rfl | rfl
    · exact r17One_1 M va ra vc rc i e g px py x y w hm N ok
    · exact r17One_2 M va ra vc rc i e g px py x y w hm N ok
    · exact r17One_3 M va ra vc rc i e g px py x y w hm N ok (h1 rfl).1 (Int.not_le.1 fun hc => by simp [valN, hc] at hfit)
    · exact r17One_4 M va ra vc rc i e g px py x y w hm N ok
    · exact r17One_5 M va ra vc rc i e g px py x y w hm N ok
    · exact r17One_6 M va ra vc rc i e g px py x y w hm N ok
    · exact r17One_7 M va ra vc rc i e g px py x y w hm N ok
    · exact r17One_8 M va ra vc rc i e g px py x y w hm N ok
    · exact r17One_9 M va ra vc rc i e g px py x y w hm N ok (h2 rfl).1 (Int.not_le.1 fun hc => by simp [valN, hc] at hfit)
    · exact r17One_10 M va ra vc rc i e g px py x y w hm N ok (h2 rfl).1 (Int.not_le.1 fun hc => by simp [valN, hc] at hfit)
    · exact r17One_11 M va ra vc rc i e g px py x y w hm N ok (h3 rfl).1 (Int.not_le.1 fun hc => by simp [valN, hc] at hfit)
    · exact r17One_12 M va ra vc rc i e g px py x y w hm N ok (h3 rfl).1 (Int.not_le.1 fun hc => by simp [valN, hc] at hfit)
    · exact r17One_13 M va ra vc rc i e g px py x y w hm N ok (h3 rfl).1 (Int.not_le.1 fun hc => by simp [valN, hc] at hfit)
end Wt
