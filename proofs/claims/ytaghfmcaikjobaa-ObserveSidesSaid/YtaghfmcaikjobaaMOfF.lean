/- Plain laws of chapter 22's statements: the formula "the agent knows whether", the equivalences of the built model. -/
import Derived.Test.YtaghfmcaikjobaaMObQ
namespace Wt
open Go Go.RowKit Go.Maps Go.Proofs Fm

theorem fewS_few {seen : List (List (List Nd))} (h : fewS seen = true) : FewS seen := by
  unfold fewS at h
  simp only [Bool.and_eq_true, decide_eq_true_eq, List.all_eq_true] at h
  exact ⟨h.1, fun l hl => h.2 l hl⟩
theorem few22_few {n : Int} {f : List Nd} {seen : List (List (List Nd))} (h : few22 n f seen = true) : n ≤ 5 ∧ f.length ≤ 30 ∧ FewS seen := by
  unfold few22 at h
  simp only [Bool.and_eq_true, decide_eq_true_eq] at h
  exact ⟨h.1, h.2.1, fewS_few h.2.2⟩
/-- The agent knows whether a formula holds. -/
def kwF (a : Nat) (f : List Nd) : List Nd := fB ⟨6, 0, 0, 0, 0, 0⟩ [fB ⟨9, a, 0, 0, 0, 0⟩ [f], fB ⟨9, a, 0, 0, 0, 0⟩ [fB ⟨4, 0, 0, 0, 0, 0⟩ [f]]]
theorem kw_isF {f : List Nd} {t : Fm} (h : IsF f t) {a : Nat} (ha : a < 4) (hl : f.length ≤ 40) : IsF (kwF a f) (.bin 6 0 0 0 (.un 9 (a : Int) 0 0 t) (.un 9 (a : Int) 0 0 (.un 4 0 0 0 t))) := by
  have s0 := h.sz
  have s1 := fsize_un (a := t) 9 (a : Int) 0 0
  have s2 := fsize_un (a := t) 4 0 0 0
  have s3 := fsize_un (a := .un 4 0 0 0 t) 9 (a : Int) 0 0
  have s4 := fsize_bin (a := .un 9 (a : Int) 0 0 t) (b := .un 9 (a : Int) 0 0 (.un 4 0 0 0 t)) 6 0 0 0
  exact isF_bin (isF_un h (fok_know a ha h.fk) (by omega)) (isF_un (isF_un h (fok_not h.fk) (by omega)) (fok_know a ha (fok_not h.fk)) (by omega)) (fok_or (fok_know a ha h.fk) (fok_know a ha (fok_not h.fk))) (by omega) rfl
theorem kw_ok {M : Mo} {N : Nat} (ok : MoOk M N) {f : List Nd} {t : Fm} (h : IsF f t) {a : Nat} (ha : a < 4) (hl : f.length ≤ 40)
    (hs : semT M (.bin 6 0 0 0 (.un 9 (a : Int) 0 0 t) (.un 9 (a : Int) 0 0 (.un 4 0 0 0 t))) = (allW N, true)) : reqErr M (kwF a f) = 0 ∧ validOf M (kwF a f) = true := by
  obtain ⟨s1, s2⟩ := set_sem ok.check (kw_isF h ha hl)
  rw [hs] at s1 s2
  have s3 : reqErr M (kwF a f) = 0 := by simpa using s1
  refine ⟨s3, ?_⟩
  unfold validOf
  rw [s2, s3, ok.worlds]
  simp
/-- What the law asks of the model of a law and of observations. -/
structure KnOk (M : Mo) (N : Nat) (seen : List (List (List Nd))) : Prop where
  w : M.worlds = (N : Int)
  r : M.rel.length = seen.length
  m : N ≤ 64
  len : ∀ a, a < seen.length → (nth M.rel a).length = N
  refl : ∀ a, a < seen.length → ∀ x, x < N → bt (nth (nth M.rel a) x) x = true
  same : ∀ a, a < seen.length → ∀ x, x < N → ∀ y, y < N → bt (nth (nth M.rel a) x) y = true → nth (nth M.rel a) x = nth (nth M.rel a) y
  kw : ∀ a, a < seen.length → ∀ j, j < (nth seen a).length → reqErr M (kwF a (nth (nth seen a) j)) = 0 ∧ validOf M (kwF a (nth (nth seen a) j)) = true
theorem ob_kn {n : Int} {law : List Nd} {seen : List (List (List Nd))} (h : obErr n law seen = 0) (hf : ∀ l ∈ seen, ∀ f ∈ l, f.length ≤ 40) : KnOk (obM n law seen) (obS n law seen).length seen := by
  have ok := ob_ok h
  have o2 := obErr_ok h
  refine ⟨ok.worlds, ob_rel h, (ob_len h).1, fun a ha => ?_, fun a ha x hx => ?_, fun a ha x hx y hy hb => ?_, fun a ha j hj => ?_⟩
  · rw [ob_row h ha, cellR_len]
  · rw [ob_row h ha, bt_cell _ (ob_len h).1 hx hx]; exact alikeT_refl _ _
  · rw [ob_row h ha] at hb ⊢
    rw [bt_cell _ (ob_len h).1 hx hy] at hb
    exact cell_same _ hx hy hb
  · have hm := nth_mem hj
    have hms := nth_mem ha
    have hfe := o2.sn _ hms _ hm
    exact kw_ok ok (IsF.of (tabErr_ok hfe).1) (by have := o2.agents; omega) (hf _ hms _ hm) (ob_knows h ha hm)
end Wt
