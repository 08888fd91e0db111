/- Plain laws of ObserveTogether: the fact's formula and what the two models say of it. -/
import Derived.Test.YtaghfmcaikjobaaMOfF
import Derived.Test.YtaghfmcaikjobaaMOfB
namespace Wt
open Go Go.RowKit Go.Maps Go.Proofs Fm

theorem fok_fact {i : Nat} (h : i < 8) : fok (.leaf 3 (i : Int) 0 0) := ⟨rfl, rfl, by simp [needless, useOf], by simp [wide, useOf, outs]; omega⟩
theorem f22_isF {i : Nat} (h : i < 8) : IsF (f22 (i : Int)) (.leaf 3 (i : Int) 0 0) := by
  have h2 := IsF.mk' (t := .leaf 3 (i : Int) 0 0) (fok_fact h) (by have : fsize (.leaf 3 (i : Int) 0 0) = 1 := rfl; omega)
  exact h2
theorem fact_sem {M : Mo} {i : Nat} (h : i < M.val.length) : semT M (.leaf 3 (i : Int) 0 0) = (nth M.val i, true) := by
  have h2 : ¬ ((M.val.length : Int) ≤ (i : Int)) := by omega
  simp [semT, valN, h2]
/-- What the law asks: both models answer, and alike. -/
theorem tg_ok {n : Int} {law : List Nd} {seen : List (List (List Nd))} (h : obErr n law seen = 0) {G : Nat} (h1 : 1 ≤ G) (h15 : G ≤ 15) (h2 : (G : Int) < p2 seen.length) (h16 : (poolTo seen G seen.length).length ≤ 16) {i : Nat} (hi : i < n.toNat) :
    reqErr (obM n law seen) (fB ⟨12, 0, 0, (G : Int), 0, 0⟩ [f22 (i : Int)]) = 0 ∧ reqErr (obM n law [poolTo seen G seen.length]) (fB ⟨9, 0, 0, 0, 0, 0⟩ [f22 (i : Int)]) = 0 ∧
    holdsOf (obM n law seen) (fB ⟨12, 0, 0, (G : Int), 0, 0⟩ [f22 (i : Int)]) = holdsOf (obM n law [poolTo seen G seen.length]) (fB ⟨9, 0, 0, 0, 0, 0⟩ [f22 (i : Int)]) := by
  have h' := pool_ob h h16
  obtain ⟨_, _, n0, n6, _⟩ := tabErr_ok (obErr_ok h).lw
  have hi8 : i < 8 := by omega
  have v1 : (obM n law seen).val = valR n.toNat (obS n law seen) := by rw [ob_eq h]
  have v2 : (obM n law [poolTo seen G seen.length]).val = valR n.toNat (obS n law seen) := by rw [ob_eq h', ob_obS h h']
  have s1 := fact_sem (M := obM n law seen) (i := i) (by rw [v1, valR_len]; exact hi)
  have s2 := fact_sem (M := obM n law [poolTo seen G seen.length]) (i := i) (by rw [v2, valR_len]; exact hi)
  rw [v1] at s1
  rw [v2] at s2
  obtain ⟨t1, t2⟩ := together_law h h1 h2 h16 s1 s2
  have F := f22_isF hi8
  have z := fsize_un (a := .leaf 3 (i : Int) 0 0) 12 0 0 (G : Int)
  have z2 := fsize_un (a := .leaf 3 (i : Int) 0 0) 9 0 0 0
  have z3 := F.sz
  have z4 : (f22 (i : Int)).length = 1 := rfl
  have I1 := isF_un (o := 12) (i := 0) (e := 0) (q := (G : Int)) F (fok_dist (G : Int) (by omega) F.fk) (by omega)
  have I2 := isF_un (o := 9) (i := 0) (e := 0) (q := 0) F (fok_know 0 (by omega) F.fk) (by omega)
  obtain ⟨r1, q1⟩ := set_sem (ob_ok h).check I1
  obtain ⟨r2, q2⟩ := set_sem (ob_ok h').check I2
  rw [t2] at r1
  rw [← t1, t2] at r2
  exact ⟨by simpa using r1, by simpa using r2, by rw [q1, q2, t1]⟩
theorem grp22 {R : Nat} (h : 1 ≤ R) (h4 : R ≤ 4) : ∃ G : Nat, 1 ≤ G ∧ G ≤ 15 ∧ (G : Int) < p2 R ∧ IntKind.i64.wrap (p2 R - 1) = (G : Int) := by
  obtain ⟨G, ⟨g1, g2⟩, g3, _, g4⟩ := full_group h h4
  refine ⟨G, g1, g2, g3, ?_⟩
  rw [g4, IntWalk.i64_in _ (by omega)]
theorem pool_err {seen : List (List (List Nd))} {G : Nat} (h4 : seen.length ≤ 4) (h1 : 1 ≤ G) (h2 : (G : Int) < p2 seen.length) : poolErr seen (G : Int) = 0 ∧ poolOf seen (G : Int) = poolTo seen G seen.length := by
  have e : poolErr seen (G : Int) = 0 := if_neg (by omega)
  exact ⟨e, by unfold poolOf; rw [if_pos e, Int.toNat_natCast]⟩
end Wt
