/- Plain laws: the canonical list of a tree is right, and its last node is the tree. -/
import Derived.Test.YtdnpgadkklgjeaaDoorFmJ
namespace Wt
open Fm

theorem mem_put {s t : Fm} {L : List Fm} : s ∈ put t L ↔ s ∈ L ∨ s = t := by
  unfold put; split
  · rename_i h
    exact ⟨.inl, fun h2 => h2.elim id (fun e => e ▸ h)⟩
  · simp
/-- A formula that a tree contains. -/
def sbt (s : Fm) : Fm → Prop
  | .leaf o i e g => s = .leaf o i e g
  | .un o i e g x => s = .un o i e g x ∨ sbt s x
  | .bin o i e g x y => s = .bin o i e g x y ∨ sbt s x ∨ sbt s y
theorem mem_addT {s : Fm} : ∀ (t : Fm) (L : List Fm), s ∈ addT t L ↔ s ∈ L ∨ sbt s t
  | .leaf .., L => mem_put
  | .un o i e g x, L => by
    show s ∈ put _ _ ↔ _
    rw [mem_put, mem_addT x L]
    simp only [sbt]
    constructor
    · rintro ((h | h) | h)
      · exact .inl h
      · exact .inr (.inr h)
      · exact .inr (.inl h)
    · rintro (h | h | h)
      · exact .inl (.inl h)
      · exact .inr h
      · exact .inl (.inr h)
  | .bin o i e g x y, L => by
    show s ∈ put _ _ ↔ _
    rw [mem_put, mem_addT y, mem_addT x]
    simp only [sbt]
    constructor
    · rintro (((h | h) | h) | h)
      · exact .inl h
      · exact .inr (.inr (.inl h))
      · exact .inr (.inr (.inr h))
      · exact .inr (.inl h)
    · rintro (h | h | h | h)
      · exact .inl (.inl (.inl h))
      · exact .inr h
      · exact .inl (.inl (.inr h))
      · exact .inl (.inr h)
theorem sbt_size {s : Fm} : ∀ (t : Fm), sbt s t → s.size ≤ t.size
  | .leaf .., h => by rw [show s = _ from h]; exact Nat.le_refl _
  | .un o i e g x, h => by
    rcases h with rfl | h
    · exact Nat.le_refl _
    · have := sbt_size x h; simp [size]; omega
  | .bin o i e g x y, h => by
    rcases h with rfl | h | h
    · exact Nat.le_refl _
    · have := sbt_size x h; simp [size]; omega
    · have := sbt_size y h; simp [size]; omega
theorem sbt_refl (t : Fm) : sbt t t := by cases t <;> simp [sbt]
/-- The tree itself comes last. -/
theorem addT_last (t : Fm) : ∃ M, addT t [] = M ++ [t] := by
  cases t with
  | leaf o i e g => exact ⟨[], by simp [addT, put]⟩
  | un o i e g x =>
    refine ⟨addT x [], ?_⟩
    have hn : Fm.un o i e g x ∉ addT x [] := fun h => by
      have := sbt_size x (((mem_addT x []).1 h).elim (fun h => by simp at h) id)
      simp [size] at this; omega
    show put _ _ = _
    unfold put; rw [if_neg hn]
  | bin o i e g x y =>
    refine ⟨addT y (addT x []), ?_⟩
    have hn : Fm.bin o i e g x y ∉ addT y (addT x []) := fun h => by
      rcases (mem_addT y _).1 h with h | h
      · have := sbt_size x (((mem_addT x []).1 h).elim (fun h => by simp at h) id)
        simp [size] at this; omega
      · have := sbt_size y h
        simp [size] at this; omega
    show put _ _ = _
    unfold put; rw [if_neg hn]
theorem fsize_pos (t : Fm) : 0 < fsize t := by
  obtain ⟨M, h⟩ := addT_last t
  unfold fsize; rw [h]; simp
theorem canon_root (t : Fm) : (addT t [])[fsize t - 1]'(by have := fsize_pos t; unfold fsize at *; omega) = t := by
  obtain ⟨M, h⟩ := addT_last t
  have e : fsize t - 1 = M.length := by unfold fsize; rw [h]; simp
  simp only [h, e]
  simp
section
variable {L : List Fm} (hn : L.Nodup) (hc : Cl L) (ho : AllOk L)
include hn hc
theorem idx_kid {k : Nat} (hk : k < L.length) {c : Fm} (h : kid c L[k]) : idx L c < k ∧ c ∈ L := by
  obtain ⟨j, hj, e⟩ := hc k hk c h
  have hjl : j < L.length := by omega
  have : idx L c = j := by rw [← e]; exact idx_getElem hn hjl
  exact ⟨by omega, e ▸ List.getElem_mem hjl⟩
include ho
theorem encL_wf : Wf (encL L) := by
  intro k hk
  have hkl : k < L.length := by simpa using hk
  rw [nth_eq _ _ hk, encL_get hkl]
  have hok := ho _ (List.getElem_mem hkl)
  have hki := @idx_kid L hn hc k hkl
  generalize L[k] = t at hok hki
  cases t with
  | leaf o i e g =>
    refine nodeErr_zero (n := ⟨o, i, e, g, 0, 0⟩) hok.1 ?_ ?_ hok.2.2.1 hok.2.2.2
    · show opnd (useOf o).1.x 0 k = true
      rw [hok.2.1]; rfl
    · show opnd (useOf o).1.y 0 k = true
      have hy : (useOf o).1.y = false := by
        cases hy : (useOf o).1.y
        · rfl
        · have := useOf_yx o hy; rw [hok.2.1] at this; cases this
      rw [hy]; rfl
  | un o i e g x =>
    have h1 := (hki (c := x) rfl).1
    refine nodeErr_zero (n := ⟨o, i, e, g, idx L x, 0⟩) hok.1 ?_ ?_ hok.2.2.2.1 hok.2.2.2.2.1
    · show opnd (useOf o).1.x _ k = true
      rw [hok.2.1]; simp [opnd]; omega
    · show opnd (useOf o).1.y 0 k = true
      rw [hok.2.2.1]; rfl
  | bin o i e g x y =>
    have h1 := (hki (c := x) (.inl rfl)).1
    have h2 := (hki (c := y) (.inr rfl)).1
    refine nodeErr_zero (n := ⟨o, i, e, g, idx L x, idx L y⟩) hok.1 ?_ ?_ hok.2.2.1 hok.2.2.2.1
    · show opnd (useOf o).1.x _ k = true
      rw [useOf_yx o hok.2.1]; simp [opnd]; omega
    · show opnd (useOf o).1.y _ k = true
      rw [hok.2.1]; simp [opnd]; omega
theorem trAt_encL : ∀ (n k : Nat) (hk : k < L.length), k < n → trAt (encL L) k = L[k]
  | 0, _, _, h => absurd h (Nat.not_lt_zero _)
  | n + 1, k, hk, hkn => by
    have hw := encL_wf hn hc ho
    have hkl : k < (encL L).length := by simpa using hk
    have hnd : nth (encL L) k = ndOf L L[k] := by rw [nth_eq _ _ hkl]; exact encL_get hk
    have hok := ho _ (List.getElem_mem hk)
    have hki := @idx_kid L hn hc k hk
    rcases hL : L[k] with ⟨o, i, e, g⟩ | ⟨o, i, e, g, x⟩ | ⟨o, i, e, g, x, y⟩
    · rw [hL] at hnd hok
      rw [trAt_leaf hkl (by rw [hnd]; exact hok.2.1), hnd]; rfl
    · rw [hL] at hnd hok hki
      obtain ⟨h1, hm⟩ := hki (c := x) rfl
      rw [trAt_un hw hkl (by rw [hnd]; exact hok.2.1) (by rw [hnd]; exact hok.2.2.1), hnd]
      show Fm.un o i e g (trAt (encL L) ((idx L x : Int).toNat)) = _
      rw [Int.toNat_natCast, trAt_encL n (idx L x) (idx_lt hm) (by omega), getElem_idx hm]
    · rw [hL] at hnd hok hki
      obtain ⟨h1, hm1⟩ := hki (c := x) (.inl rfl)
      obtain ⟨h2, hm2⟩ := hki (c := y) (.inr rfl)
      rw [trAt_bin hw hkl (by rw [hnd]; exact hok.2.1), hnd]
      show Fm.bin o i e g (trAt (encL L) ((idx L x : Int).toNat)) (trAt (encL L) ((idx L y : Int).toNat)) = _
      rw [Int.toNat_natCast, Int.toNat_natCast, trAt_encL n (idx L x) (idx_lt hm1) (by omega), getElem_idx hm1, trAt_encL n (idx L y) (idx_lt hm2) (by omega), getElem_idx hm2]
end
theorem addT_ok (t : Fm) (ht : fok t) : (addT t []).Nodup ∧ Cl (addT t []) ∧ AllOk (addT t []) :=
  ⟨addT_nodup t List.nodup_nil, Cl.addT t Cl.nil, AllOk.addT t (fun _ h => by simp at h) ht⟩
theorem canon_wf (t : Fm) (ht : fok t) : Wf (canon t) := by
  obtain ⟨h1, h2, h3⟩ := addT_ok t ht
  exact encL_wf h1 h2 h3
theorem trAt_canon (t : Fm) (ht : fok t) : trAt (canon t) ((canon t).length - 1) = t := by
  obtain ⟨h1, h2, h3⟩ := addT_ok t ht
  have hp := fsize_pos t
  rw [canon_length]
  show trAt (encL (addT t [])) _ = t
  rw [trAt_encL h1 h2 h3 (fsize t) (fsize t - 1) (by unfold fsize at *; omega) (by omega)]
  exact canon_root t
theorem canon_check (t : Fm) (ht : fok t) (h : fsize t ≤ 200) : fCheck (canon t) = 0 :=
  fCheck_ok.2 ⟨by rw [canon_length]; exact fsize_pos t, by rw [canon_length]; exact h, canon_wf t ht⟩
theorem compact_canon (t : Fm) (ht : fok t) (h : fsize t ≤ 200) : fCompact (canon t) = canon t := by
  rw [(fCompact_of (canon_check t ht h)).1, trAt_canon t ht]
end Wt
