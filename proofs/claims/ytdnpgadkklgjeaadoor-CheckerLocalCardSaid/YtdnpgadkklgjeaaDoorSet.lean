/- Plain laws: the tree of a formula that a constructor builds, and the set of a formula in a right model. -/
import Derived.Test.YtdnpgadkklgjeaaDoorBld
import Derived.Test.YtdnpgadkklgjeaaDoorCkD
import Derived.Test.YtdnpgadkklgjeaaDoorPl
namespace Wt
open Go Go.RowKit Go.Proofs Fm

/-- The tree of a whole formula. -/
def rt (l : List Nd) : Fm := trAt l (l.length - 1)
/-- A right formula with this tree. -/
structure IsF (l : List Nd) (t : Fm) : Prop where
  ok : fCheck l = 0
  tree : rt l = t
section
variable {l f g : List Nd} {t a b : Fm}
theorem IsF.of (h : fCheck l = 0) : IsF l (rt l) := ⟨h, rfl⟩
theorem IsF.fk (h : IsF l t) : fok t := by
  obtain ⟨h0, _, hw⟩ := fCheck_ok.1 h.ok
  rw [← h.tree]; exact fok_trAt hw _ _ (Nat.lt_succ_self _) (by omega)
theorem IsF.compact (h : IsF l t) : fCompact l = canon t := by
  rw [(fCompact_of h.ok).1, ← h.tree]; rfl
theorem IsF.mk' (h : fok t) (hs : fsize t ≤ 200) : IsF (canon t) t := ⟨canon_check t h hs, trAt_canon t h⟩
theorem IsF.sz (h : IsF l t) : fsize t ≤ l.length := by
  obtain ⟨h0, _, hw⟩ := fCheck_ok.1 h.ok
  rw [← h.tree]; exact fsize_le hw (by omega)
theorem fsize_sub {L : List Fm} (hL : ∀ s, sbt s t → s ∈ L) : fsize t ≤ L.length := by
  have := nodup_sub_len (L := addT t []) (M := L) (addT_nodup _ List.nodup_nil) (fun s hs => by
    rcases (mem_addT t []).1 hs with h | h
    · simp at h
    · exact hL s h)
  simpa [fsize] using this
theorem sbt_mem {s : Fm} (h : sbt s t) : s ∈ addT t [] := (mem_addT t []).2 (.inr h)
theorem fsize_un (o i e q : Int) : fsize (.un o i e q a) ≤ fsize a + 1 := by
  have := fsize_sub (t := .un o i e q a) (L := addT a [] ++ [.un o i e q a]) (fun s hs => by
    rcases hs with rfl | h
    · simp
    · simp [sbt_mem h])
  simpa [fsize] using this
theorem fsize_bin (o i e q : Int) : fsize (.bin o i e q a b) ≤ fsize a + fsize b + 1 := by
  have := fsize_sub (t := .bin o i e q a b) (L := addT a [] ++ (addT b [] ++ [.bin o i e q a b])) (fun s hs => by
    rcases hs with rfl | h | h
    · simp
    · simp [sbt_mem h]
    · simp [sbt_mem h])
  simp only [List.length_append, List.length_singleton] at this
  show (addT _ []).length ≤ _
  simp only [fsize] at *
  omega
theorem nth_mapN {α β : Type} [Inhabited α] [Inhabited β] (F : α → β) (m : List α) {k : Nat} (h : k < m.length) : nth (m.map F) k = F (nth m k) := by
  rw [nth_eq _ _ (by simpa using h), nth_eq _ _ h]; simp
theorem tr_sh {C : List Nd} {s : Nat} (hC : Wf C) (h : ∀ j, j < C.length → nth l (s + j) = shN s (nth C j)) : ∀ (n k : Nat), k < C.length → tr n l (s + k) = tr n C k
  | 0, _, _ => rfl
  | n + 1, k, hk => by
    unfold tr
    rw [h k hk]
    simp only [shN]
    by_cases hx : (useOf (nth C k).op).1.x = true
    · obtain ⟨h1, h2⟩ := hC.x_lt hk hx
      have ex : ((nth C k).x + (s : Int)).toNat = s + (nth C k).x.toNat := by omega
      have r1 := tr_sh hC h n (nth C k).x.toNat (by omega)
      by_cases hy : (useOf (nth C k).op).1.y = true
      · obtain ⟨h3, h4⟩ := hC.y_lt hk hy
        have ey : ((nth C k).y + (s : Int)).toNat = s + (nth C k).y.toNat := by omega
        have r2 := tr_sh hC h n (nth C k).y.toNat (by omega)
        simp [hx, hy, ex, r1, ey, r2]
      · simp [hx, hy, ex, r1]
    · simp [hx]
theorem trAt_sh {C : List Nd} {s : Nat} (hC : Wf C) (h : ∀ j, j < C.length → nth l (s + j) = shN s (nth C j)) {k : Nat} (hk : k < C.length) : trAt l (s + k) = trAt C k := by
  unfold trAt; rw [tr_sh hC h _ k hk]; exact tr_fuel hC _ _ k hk (by omega) (by omega)
theorem isF_un {o i e q : Int} (h : IsF f a) (hk : fok (.un o i e q a)) (hs : fsize (.un o i e q a) ≤ 200) : IsF (fB ⟨o, i, e, q, 0, 0⟩ [f]) (.un o i e q a) := by
  have hk0 := hk
  obtain ⟨k1, k2, k3, k4, k5, k6⟩ := hk
  have hm : (canon a).length = fsize a := canon_length a
  have hp := fsize_pos a
  have e1 : bF [f] 1 = (canon a).map (shN 0) := by rw [← h.compact]; rfl
  have l1 : (bF [f] 1).length = fsize a := by rw [e1]; simp
  have e2 : bX ⟨o, i, e, q, 0, 0⟩ [f] 1 = ⟨o, i, e, q, (fsize a : Int) - 1, 0⟩ := by
    show Nd.mk o i e q (((bF [f] 1).length : Int) - 1) 0 = _
    rw [l1]
  have hn : nodeErr ⟨o, i, e, q, (fsize a : Int) - 1, 0⟩ (bF [f] 1).length = 0 := by
    refine nodeErr_zero k1 ?_ ?_ k4 k5
    · show opnd (useOf o).1.x ((fsize a : Int) - 1) _ = true
      rw [k2, l1]; simp [opnd]; omega
    · show opnd (useOf o).1.y 0 _ = true
      rw [k3]; simp [opnd]
  have hw : Wf (bF [f] 1 ++ [⟨o, i, e, q, (fsize a : Int) - 1, 0⟩]) := (bF_wf [f] 1).snoc hn
  have ht : bT ⟨o, i, e, q, 0, 0⟩ [f] = .un o i e q a := by
    show trAt (bF [f] 1 ++ [bX _ [f] 1]) (bF [f] 1).length = _
    rw [e2]
    have hl : (bF [f] 1).length < (bF [f] 1 ++ [Nd.mk o i e q ((fsize a : Int) - 1) 0]).length := by simp
    have en : nth (bF [f] 1 ++ [Nd.mk o i e q ((fsize a : Int) - 1) 0]) (bF [f] 1).length = ⟨o, i, e, q, (fsize a : Int) - 1, 0⟩ := by
      have := nth_appR (bF [f] 1) [Nd.mk o i e q ((fsize a : Int) - 1) 0] (k := 0) (by simp)
      rw [Nat.add_zero] at this; rw [this]; rfl
    rw [trAt_un hw hl (by rw [en]; exact k2) (by rw [en]; exact k3), en]
    show Fm.un o i e q (trAt _ ((fsize a : Int) - 1).toNat) = _
    congr 1
    have hs := trAt_sh (l := bF [f] 1 ++ [Nd.mk o i e q ((fsize a : Int) - 1) 0]) (C := canon a) (s := 0) (canon_wf a k6) (fun j hj => by
      rw [Nat.zero_add, nth_appL _ _ (by rw [l1]; omega), e1, nth_mapN _ _ hj]) (k := fsize a - 1) (by omega)
    rw [show ((fsize a : Int) - 1).toNat = 0 + (fsize a - 1) by omega, hs]
    have := trAt_canon a k6; rwa [hm] at this
  have hB : fB ⟨o, i, e, q, 0, 0⟩ [f] = canon (.un o i e q a) := by
    unfold fB
    rw [ht]
    have c1 : nodeErr (bX ⟨o, i, e, q, 0, 0⟩ [f] [f].length) (bF [f] [f].length).length = 0 := by
      show nodeErr (bX _ [f] 1) (bF [f] 1).length = 0
      rw [e2]; exact hn
    rw [c1]
    simp [h.ok]
    omega
  rw [hB]; exact IsF.mk' hk0 hs
theorem isF_bin {o i e q : Int} (h : IsF f a) (h2 : IsF g b) (hk : fok (.bin o i e q a b)) (hs : fsize (.bin o i e q a b) ≤ 200) (hx : (useOf o).1.x = true) : IsF (fB ⟨o, i, e, q, 0, 0⟩ [f, g]) (.bin o i e q a b) := by
  have hk0 := hk
  obtain ⟨k1, k3, k4, k5, k6, k7⟩ := hk
  have hm : (canon a).length = fsize a := canon_length a
  have hm2 : (canon b).length = fsize b := canon_length b
  have hp := fsize_pos a
  have hp2 := fsize_pos b
  have e1 : bF [f, g] 1 = (canon a).map (shN 0) := by rw [← h.compact]; rfl
  have l1 : (bF [f, g] 1).length = fsize a := by rw [e1]; simp
  have e3 : bF [f, g] 2 = bF [f, g] 1 ++ (canon b).map (shN (fsize a)) := by rw [← h2.compact, ← l1]; rfl
  have l2 : (bF [f, g] 2).length = fsize a + fsize b := by rw [e3]; simp [l1]
  have e2 : bX ⟨o, i, e, q, 0, 0⟩ [f, g] 2 = ⟨o, i, e, q, (fsize a : Int) - 1, (fsize a : Int) + fsize b - 1⟩ := by
    show Nd.mk o i e q (((bF [f, g] 1).length : Int) - 1) (((bF [f, g] 2).length : Int) - 1) = _
    rw [l1, l2]; simp
  have hn : nodeErr ⟨o, i, e, q, (fsize a : Int) - 1, (fsize a : Int) + fsize b - 1⟩ (bF [f, g] 2).length = 0 := by
    refine nodeErr_zero k1 ?_ ?_ k4 k5
    · show opnd (useOf o).1.x ((fsize a : Int) - 1) _ = true
      rw [hx, l2]; simp [opnd]; omega
    · show opnd (useOf o).1.y ((fsize a : Int) + fsize b - 1) _ = true
      rw [k3, l2]; simp [opnd]; omega
  have hw : Wf (bF [f, g] 2 ++ [⟨o, i, e, q, (fsize a : Int) - 1, (fsize a : Int) + fsize b - 1⟩]) := (bF_wf [f, g] 2).snoc hn
  have ht : bT ⟨o, i, e, q, 0, 0⟩ [f, g] = .bin o i e q a b := by
    show trAt (bF [f, g] 2 ++ [bX _ [f, g] 2]) (bF [f, g] 2).length = _
    rw [e2]
    generalize hn' : Nd.mk o i e q ((fsize a : Int) - 1) ((fsize a : Int) + fsize b - 1) = nd at *
    have hl : (bF [f, g] 2).length < (bF [f, g] 2 ++ [nd]).length := by simp
    have en : nth (bF [f, g] 2 ++ [nd]) (bF [f, g] 2).length = nd := by
      have := nth_appR (bF [f, g] 2) [nd] (k := 0) (by simp)
      rw [Nat.add_zero] at this; rw [this]; rfl
    rw [trAt_bin hw hl (by rw [en, ← hn']; exact k3), en, ← hn']
    show Fm.bin o i e q (trAt _ ((fsize a : Int) - 1).toNat) (trAt _ ((fsize a : Int) + fsize b - 1).toNat) = _
    have hs1 := trAt_sh (l := bF [f, g] 2 ++ [Nd.mk o i e q ((fsize a : Int) - 1) ((fsize a : Int) + fsize b - 1)]) (C := canon a) (s := 0) (canon_wf a k6) (fun j hj => by
      rw [Nat.zero_add, nth_appL _ _ (by rw [l2]; omega), e3, nth_appL _ _ (by rw [l1]; omega), e1, nth_mapN _ _ hj]) (k := fsize a - 1) (by omega)
    have hs2 := trAt_sh (l := bF [f, g] 2 ++ [Nd.mk o i e q ((fsize a : Int) - 1) ((fsize a : Int) + fsize b - 1)]) (C := canon b) (s := fsize a) (canon_wf b k7) (fun j hj => by
      have := nth_appR (bF [f, g] 1) ((canon b).map (shN (fsize a))) (k := j) (by simpa using hj)
      rw [l1] at this
      rw [nth_appL _ _ (by rw [l2]; omega), e3, this, nth_mapN _ _ hj]) (k := fsize b - 1) (by omega)
    rw [show ((fsize a : Int) - 1).toNat = 0 + (fsize a - 1) by omega, hs1, show ((fsize a : Int) + fsize b - 1).toNat = fsize a + (fsize b - 1) by omega, hs2]
    have r1 := trAt_canon a k6
    have r2 := trAt_canon b k7
    rw [hm] at r1; rw [hm2] at r2
    rw [r1, r2]
  have hB : fB ⟨o, i, e, q, 0, 0⟩ [f, g] = canon (.bin o i e q a b) := by
    unfold fB
    rw [ht]
    have c1 : nodeErr (bX ⟨o, i, e, q, 0, 0⟩ [f, g] [f, g].length) (bF [f, g] [f, g].length).length = 0 := by
      show nodeErr (bX _ [f, g] 2) (bF [f, g] 2).length = 0
      rw [e2]; exact hn
    rw [c1]
    simp [h.ok, h2.ok]
    omega
  rw [hB]; exact IsF.mk' hk0 hs
/-- A right formula in a right model: whether it has a set, and the set. -/
theorem set_sem {M : Mo} (hM : moCheck M = 0) (h : IsF f a) : (reqErr M f == 0) = (semT M a).2 ∧ holdsOf M f = (semT M a).1 := by
  obtain ⟨n, ok⟩ := moCheck_ok hM
  have e := semT_fits M ok.rel ok.val a h.fk
  have hr : (reqErr M f == 0) = (semT M a).2 := by
    rw [e]
    unfold reqErr fFits fFrags fAgents fFacts
    rw [h.compact, h.ok, hM]
    by_cases h1 : unionL fragN (canon a) < 16
    · have h1' : ¬ 16 ≤ unionL fragN (canon a) := by omega
      cases h2 : below (unionL agentN (canon a)) M.rel.length <;> cases h3 : below (unionL factN (canon a)) M.val.length <;> simp [h1, h1']
    · have h1' : 16 ≤ unionL fragN (canon a) := by omega
      simp [h1, h1']
  refine ⟨hr, ?_⟩
  unfold holdsOf
  by_cases hq : reqErr M f = 0
  · rw [if_pos hq]; unfold lastSet; rw [← h.tree]; rfl
  · rw [if_neg hq, semT_false M a (by rw [← hr]; simp [hq])]
theorem semT_un {M : Mo} (o i e q : Int) (h : (semT M a).2 = true) : semT M (.un o i e q a) = valN M o i q (semT M a).1 0#64 := by simp [semT, h]
theorem semT_bin {M : Mo} (o i e q : Int) (h : (semT M a).2 = true) (h2 : (semT M b).2 = true) : semT M (.bin o i e q a b) = valN M o i q (semT M a).1 (semT M b).1 := by simp [semT, h, h2]
theorem fok_not (h : fok a) : fok (.un 4 0 0 0 a) := ⟨rfl, rfl, rfl, rfl, rfl, h⟩
theorem fok_know (k : Nat) (hk : k < 4) (h : fok a) : fok (.un 9 k 0 0 a) := ⟨rfl, rfl, rfl, by simp [needless, useOf], by simp [wide, useOf, outs]; omega, h⟩
theorem fok_poss (k : Nat) (hk : k < 4) (h : fok a) : fok (.un 10 k 0 0 a) := ⟨rfl, rfl, rfl, by simp [needless, useOf], by simp [wide, useOf, outs]; omega, h⟩
theorem fok_every (k : Int) (hk : 1 ≤ k ∧ k ≤ 15) (h : fok a) : fok (.un 11 0 0 k a) := ⟨rfl, rfl, rfl, by simp [needless, useOf], by simp [wide, useOf, outs]; omega, h⟩
theorem fok_dist (k : Int) (hk : 1 ≤ k ∧ k ≤ 15) (h : fok a) : fok (.un 12 0 0 k a) := ⟨rfl, rfl, rfl, by simp [needless, useOf], by simp [wide, useOf, outs]; omega, h⟩
theorem fok_common (k : Int) (hk : 1 ≤ k ∧ k ≤ 15) (h : fok a) (h2 : fok b) : fok (.bin 13 0 0 k a b) := ⟨rfl, rfl, by simp [needless, useOf], by simp [wide, useOf, outs]; omega, h, h2⟩
theorem fok_and (h : fok a) (h2 : fok b) : fok (.bin 5 0 0 0 a b) := ⟨rfl, rfl, rfl, rfl, h, h2⟩
theorem fok_or (h : fok a) (h2 : fok b) : fok (.bin 6 0 0 0 a b) := ⟨rfl, rfl, rfl, rfl, h, h2⟩
theorem fok_imp (h : fok a) (h2 : fok b) : fok (.bin 7 0 0 0 a b) := ⟨rfl, rfl, rfl, rfl, h, h2⟩
theorem fok_iff (h : fok a) (h2 : fok b) : fok (.bin 8 0 0 0 a b) := ⟨rfl, rfl, rfl, rfl, h, h2⟩
end
theorem p2_small {R : Nat} (h1 : 1 ≤ R) (h4 : R ≤ 4) : 2 ≤ p2 R ∧ p2 R ≤ 16 := by
  have : R = 1 ∨ R = 2 ∨ R = 3 ∨ R = 4 := by omega
  rcases this with rfl | rfl | rfl | rfl <;> decide
theorem p2_sh {R : Nat} (h4 : R ≤ 4) : wrap64 ((2 : Int) ^ R) = p2 R := by
  have : R = 0 ∨ R = 1 ∨ R = 2 ∨ R = 3 ∨ R = 4 := by omega
  rcases this with rfl | rfl | rfl | rfl | rfl <;> (rw [← IntWalk.i64_left]; decide +kernel)
theorem full_group {R : Nat} (h1 : 1 ≤ R) (h4 : R ≤ 4) : ∃ G : Nat, (1 ≤ G ∧ G ≤ 15) ∧ (G : Int) < p2 R ∧ (∀ q, q < R → G.testBit q = true) ∧ p2 R - 1 = (G : Int) := by
  have : R = 1 ∨ R = 2 ∨ R = 3 ∨ R = 4 := by omega
  rcases this with rfl | rfl | rfl | rfl
  · exact ⟨1, by decide, by decide, by decide, by decide⟩
  · exact ⟨3, by decide, by decide, by decide, by decide⟩
  · exact ⟨7, by decide, by decide, by decide, by decide⟩
  · exact ⟨15, by decide, by decide, by decide, by decide⟩
theorem last_group {R : Nat} (h1 : 1 ≤ R) (h4 : R ≤ 4) : ∃ G : Nat, (1 ≤ G ∧ G ≤ 15) ∧ (G : Int) < p2 R ∧ (∀ q, q < R → G.testBit q = decide (q + 1 = R)) ∧ p2 (R - 1) = (G : Int) := by
  have : R = 1 ∨ R = 2 ∨ R = 3 ∨ R = 4 := by omega
  rcases this with rfl | rfl | rfl | rfl
  · exact ⟨1, by decide, by decide, by decide, by decide⟩
  · exact ⟨2, by decide, by decide, by decide, by decide⟩
  · exact ⟨4, by decide, by decide, by decide, by decide⟩
  · exact ⟨8, by decide, by decide, by decide, by decide⟩
theorem nth_mem {α : Type} [Inhabited α] {l : List α} {k : Nat} (h : k < l.length) : nth l k ∈ l := by rw [nth_eq _ _ h]; exact List.getElem_mem h
theorem nth_or {α : Type} [Inhabited α] (l : List α) (k : Nat) : nth l k ∈ l ∨ nth l k = default := by
  by_cases h : k < l.length
  · exact .inl (nth_mem h)
  · right; unfold nth; simp [List.getD, h]
theorem Sub.and1 {s t u : BitVec 64} (h : Sub s u) : Sub (s &&& t) u := fun k hk hb => by
  rw [bt_and, Bool.and_eq_true] at hb; exact h k hk hb.1
theorem box_in {r : List (BitVec 64)} {s : BitVec 64} {N : Nat} (h : r.length ≤ N) : Sub (relBox r s) (allW N) := fun k hk hb => by
  rw [bt_relBox r s k hk] at hb
  simp only [Bool.and_eq_true, decide_eq_true_eq] at hb
  rw [bt_allW]; simp; omega
theorem zero_in (s : BitVec 64) : Sub 0#64 s := fun k hk hb => by simp [bt_zero] at hb
theorem cmn_in {r : List (BitVec 64)} {N : Nat} (h : r.length ≤ N) (c s : BitVec 64) : Sub (cmn r N c s) (allW N) := by
  unfold cmn
  have hI : ∀ k, Sub (cmnI r N c s k) (allW N) := by
    intro k
    cases k with
    | zero => exact Sub.refl _
    | succ k => exact box_in h
  exact hI N
theorem semT_in {M : Mo} {N : Nat} (ok : MoOk M N) : ∀ t, Sub (semT M t).1 (allW N) := by
  have hN : M.worlds.toNat = N := by rw [ok.worlds]; exact Int.toNat_natCast N
  have hv : ∀ o i g x y, Sub x (allW N) → Sub y (allW N) → Sub (valN M o i g x y).1 (allW N) := by
    intro o i g x y hx hy
    have I : ∀ {c : Prop} [Decidable c] {a b : BitVec 64 × Bool}, (c → Sub a.1 (allW N)) → (¬c → Sub b.1 (allW N)) → Sub (if c then a else b).1 (allW N) := by
      intro c _ a b ha hb
      by_cases hc : c
      · rw [if_pos hc]; exact ha hc
      · rw [if_neg hc]; exact hb hc
    have hg : (groupOf M g).length ≤ N := gather_le _ M g ok
    have hg2 : (meetOf M g).length ≤ N := gather_le _ M g ok
    have hrl : (nth M.rel i.toNat).length ≤ N := by
      rcases nth_or M.rel i.toNat with h2 | h2
      · rw [ok.row _ h2]; exact Nat.le_refl _
      · rw [h2]; exact Nat.zero_le _
    have Z : Sub ((0#64, false) : BitVec 64 × Bool).1 (allW N) := zero_in _
    have A : Sub (allW M.worlds.toNat) (allW N) := by rw [hN]; exact Sub.refl _
    unfold valN
    refine I (fun _ => A) fun _ => I (fun _ => zero_in _) fun _ => I (fun _ => I (fun _ => Z) fun h => ?_) fun _ => I (fun _ => A.and1) fun _ => I (fun _ => hx.and1) fun _ => I (fun _ => hx.or hy) fun _ => I (fun _ => A.and1.or hy) fun _ => I (fun _ => A.and1) fun _ => I (fun _ => I (fun _ => Z) fun h => ?_) fun _ => I (fun _ => I (fun _ => Z) fun h => ?_) fun _ => I (fun _ => I (fun _ => Z) fun h => box_in hg) fun _ => I (fun _ => I (fun _ => Z) fun h => box_in hg2) fun _ => I (fun _ => I (fun _ => Z) fun h => ?_) fun _ => Z
    · show Sub (nth M.val i.toNat) _
      rcases nth_or M.val i.toNat with h2 | h2
      · exact andNot_zero.1 (ok.valIn _ h2)
      · rw [h2]; exact zero_in _
    · exact box_in hrl
    · show Sub (relDia _ _) _
      unfold relDia
      split
      · exact Sub.and1 (fun k hk hb => by rw [bt_allW] at hb ⊢; simp at hb ⊢; omega)
      · exact zero_in _
    · show Sub (cmn _ _ _ _) _
      rw [hN]; exact cmn_in hg _ _
  intro t
  induction t with
  | leaf o i e g => exact hv _ _ _ _ _ (zero_in _) (zero_in _)
  | un o i e g x ih =>
    unfold semT
    split
    · exact hv _ _ _ _ _ ih (zero_in _)
    · exact zero_in _
  | bin o i e g x y ih1 ih2 =>
    unfold semT
    split
    · exact hv _ _ _ _ _ ih1 ih2
    · exact zero_in _
end Wt
