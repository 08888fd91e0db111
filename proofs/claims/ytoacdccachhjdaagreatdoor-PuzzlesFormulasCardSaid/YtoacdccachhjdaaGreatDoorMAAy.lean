/- Plain: properties that filtrations keep; how many classes there are, and their numbers. -/
import Derived.Test.YtoacdccachhjdaaGreatDoorMAAx
import Derived.Test.YtoacdccachhjdaaGreatDoorMAAj
import Derived.Shelf.Abstract
import Derived.Shelf.RegionOpen
import Derived.WalkKit
import Derived.OwnWalkIn
import Derived.TacticsInMore
import Derived.LoopNIn
import Derived.LoopIn
import Derived.Laws.BytesArg
import Derived.Test.YtoacdccachhjdaaGreatDoorMAAv
import Derived.Deep.RegionHeld3
namespace Wt
open Go Go.RowKit Go.Proofs Fm

/-! Properties of relations, as package relation decides them. -/
def serB (r : List (BitVec 64)) : Bool := r.all fun s => s != 0#64
def refB (r : List (BitVec 64)) : Bool := (List.range r.length).all fun w => bt (nth r w) w
def revL (r : List (BitVec 64)) : List (BitVec 64) := (List.range r.length).map fun v => setTo (fun w => bt (nth r w) v) r.length
def traB (r : List (BitVec 64)) : Bool := (List.range r.length).all fun w => (List.range r.length).all fun u => !bt (nth r w) u || nth r u &&& ~~~ nth r w == 0#64
def eucB (r : List (BitVec 64)) : Bool := (List.range r.length).all fun w => (List.range r.length).all fun u => !bt (nth r w) u || nth r w &&& ~~~ nth r u == 0#64
def hasB (r : List (BitVec 64)) (p : Int) : Bool := relCheck r == 0 && (if p = 1 then serB r else if p = 2 then refB r else if p = 3 then decide (r = revL r) else if p = 4 then traB r else if p = 5 then eucB r else false)
section
variable {r : List (BitVec 64)} {N : Nat} (hl : r.length = N) (h64 : N ≤ 64) (hin : ∀ w, w < N → Sub (nth r w) (allW N))
include hl h64 hin
omit h64 in
theorem serB_iff : serB r = true ↔ ∀ w, w < N → ∃ u, u < N ∧ bt (nth r w) u = true := by
  unfold serB
  rw [List.all_eq_true]
  constructor
  · intro h w hw
    have h1 := h (nth r w) (nth_mem (by omega))
    have h2 : nth r w ≠ 0#64 := by simpa using h1
    have h3 : ¬ Sub (nth r w) 0#64 := fun hs => h2 (by
      refine bt_ext fun k hk => ?_
      rw [bt_zero]
      cases hc : bt (nth r w) k
      · rfl
      · have := hs k hk hc; rw [bt_zero] at this; cases this)
    by_cases hex : ∃ u, u < N ∧ bt (nth r w) u = true
    · exact hex
    · exfalso
      refine h3 fun k hk hb => ?_
      have := hin w hw k hk hb
      rw [bt_allW] at this
      exact absurd ⟨k, by simp at this; omega, hb⟩ hex
  · intro h s hs
    obtain ⟨w, hw, rfl⟩ := List.getElem_of_mem hs
    obtain ⟨u, hu, hb⟩ := h w (by omega)
    rw [nth_eq _ _ hw] at hb
    have : r[w] ≠ 0#64 := fun e => by rw [e, bt_zero] at hb; cases hb
    simpa using this
omit h64 hin in
theorem refB_iff : refB r = true ↔ ∀ w, w < N → bt (nth r w) w = true := by
  unfold refB
  simp only [List.all_eq_true, List.mem_range, hl]
theorem revL_iff : r = revL r ↔ ∀ w u, w < N → u < N → (bt (nth r w) u = true ↔ bt (nth r u) w = true) := by
  have hb : ∀ v u, v < N → u < N → bt (nth (revL r) v) u = bt (nth r u) v := fun v u hv hu => by
    unfold revL
    rw [nth_mapX _ (by omega), bt_setTo _ (by omega), hl]
    simp [hu]
  constructor
  · intro e w u hw hu
    have := hb w u hw hu
    rw [← e] at this
    rw [this]
  · intro h
    refine nth_ext (by simp [revL]) fun w hw => ?_
    refine bt_ext fun k hk => ?_
    by_cases hkN : k < N
    · rw [hb w k (by omega) hkN, Bool.eq_iff_iff]
      exact h w k (by omega) hkN
    · have h1 : bt (nth r w) k = false := by
        cases hc : bt (nth r w) k
        · rfl
        · have := hin w (by omega) k hk hc
          rw [bt_allW] at this; simp [hkN] at this
      have h2 : bt (nth (revL r) w) k = false := by
        unfold revL
        rw [nth_mapX _ (by omega), bt_setTo _ hk, hl]; simp [hkN]
      rw [h1, h2]
theorem traB_iff : traB r = true ↔ ∀ w u z, w < N → u < N → z < N → bt (nth r w) u = true → bt (nth r u) z = true → bt (nth r w) z = true := by
  unfold traB
  simp only [List.all_eq_true, List.mem_range, hl]
  constructor
  · intro h w u z hw hu hz h1 h2
    have := h w hw u hu
    rw [h1] at this
    simp only [Bool.not_true, Bool.false_or, beq_iff_eq] at this
    exact andNot_zero.1 this z (by omega) h2
  · intro h w hw u hu
    cases hb : bt (nth r w) u
    · rfl
    · simp only [Bool.not_true, Bool.false_or, beq_iff_eq]
      refine andNot_zero.2 fun z hz h2 => ?_
      have := hin u hu z hz h2
      rw [bt_allW] at this
      exact h w u z hw hu (by simp at this; omega) hb h2
end
section
variable {M : Mo} {t : Fm} {N : Nat} (v : Vw M t N) {R : Nat → Nat → Nat → Bool} (h : FilR M t N R) {a : Nat} (ha : a < M.rel.length)
include v
theorem fil_row (R : Nat → Nat → Nat → Bool) {a : Nat} (ha : a < M.rel.length) (facts : Nat) : (nth (filM M facts (repL (subL M t) N) R).rel a).length = (repL (subL M t) N).length ∧ ∀ w, w < (repL (subL M t) N).length → Sub (nth (nth (filM M facts (repL (subL M t) N) R).rel a) w) (allW (repL (subL M t) N).length) := by
  have ok := filM_ok (facts := facts) (R := R) v.ok (repL_pos (subL M t) v.ok.one) (Nat.le_trans (repL_len _ _) v.ok.most)
  exact row_in ok (by simpa [filM, filR] using ha)
include h ha
omit h in
theorem fil_bit (facts : Nat) {w u : Nat} (hw : w < N) (hu : u < N) : bt (nth (nth (filM M facts (repL (subL M t) N) R).rel a) (clsOf (subL M t) N w)) (clsOf (subL M t) N u) = R a (lowOf (subL M t) w) (lowOf (subL M t) u) := by
  have hl : (repL (subL M t) N).length ≤ 64 := Nat.le_trans (repL_len _ _) v.ok.most
  rw [filM_rel hl ha (clsOf_lt _ hw) (clsOf_lt _ hu), clsOf_nth _ hw, clsOf_nth _ hu]
theorem fil_ref (facts : Nat) (hr : refB (nth M.rel a) = true) : refB (nth (filM M facts (repL (subL M t) N) R).rel a) = true := by
  obtain ⟨hl, hin⟩ := row_in v.ok ha
  rw [refB_iff hl] at hr
  rw [refB_iff (fil_row v R ha facts).1]
  intro c hc
  have hw := rep_lt hc
  have := fil_bit (R := R) v ha facts hw hw
  rw [clsOf_rep hc] at this
  rw [this]
  exact h.fwd a ha _ _ hw hw (hr _ hw)
theorem fil_ser (facts : Nat) (hr : serB (nth M.rel a) = true) : serB (nth (filM M facts (repL (subL M t) N) R).rel a) = true := by
  obtain ⟨hl, hin⟩ := row_in v.ok ha
  have hK : (repL (subL M t) N).length ≤ 64 := Nat.le_trans (repL_len _ _) v.ok.most
  rw [serB_iff hl hin] at hr
  rw [serB_iff (fil_row v R ha facts).1 (fil_row v R ha facts).2]
  intro c hc
  have hw := rep_lt hc
  obtain ⟨u, hu, hb⟩ := hr _ hw
  have := fil_bit (R := R) v ha facts hw hu
  rw [clsOf_rep hc] at this
  exact ⟨_, clsOf_lt _ hu, by rw [this]; exact h.fwd a ha _ _ hw hu hb⟩
end
section
variable {M : Mo} {t : Fm} {N : Nat} (v : Vw M t N) {a : Nat} (ha : a < M.rel.length)
include v ha
theorem filS_sym (facts : Nat) (hr : nth M.rel a = revL (nth M.rel a)) : nth (filM M facts (repL (subL M t) N) (relS M (subL M t) N)).rel a = revL (nth (filM M facts (repL (subL M t) N) (relS M (subL M t) N)).rel a) := by
  obtain ⟨hl, hin⟩ := row_in v.ok ha
  have hK : (repL (subL M t) N).length ≤ 64 := Nat.le_trans (repL_len _ _) v.ok.most
  obtain ⟨hl2, hin2⟩ := fil_row v (relS M (subL M t) N) ha facts
  rw [revL_iff hl v.ok.most hin] at hr
  rw [revL_iff hl2 hK hin2]
  have hS : ∀ x y, relS M (subL M t) N a x y = true → relS M (subL M t) N a y x = true := fun x y hS => by
    obtain ⟨w, u, hw, hu, h1, h2, hb⟩ := relS_iff.1 hS
    exact relS_iff.2 ⟨u, w, hu, hw, h2, h1, (hr w u hw hu).1 hb⟩
  intro c d hc hd
  rw [filM_rel hK ha hc hd, filM_rel hK ha hd hc]
  exact ⟨hS _ _, hS _ _⟩
/-- The relations of one filtration lie in those of another. -/
theorem fil_in {R Q : Nat → Nat → Nat → Bool} (facts : Nat) (hRQ : ∀ x y, R a x y = true → Q a x y = true) {c : Nat} (hc : c < (repL (subL M t) N).length) : Sub (nth (nth (filM M facts (repL (subL M t) N) R).rel a) c) (nth (nth (filM M facts (repL (subL M t) N) Q).rel a) c) := by
  have hK : (repL (subL M t) N).length ≤ 64 := Nat.le_trans (repL_len _ _) v.ok.most
  intro k hk hb
  have := (fil_row v R ha facts).2 c hc k hk hb
  rw [bt_allW] at this
  have hkl : k < (repL (subL M t) N).length := by simp at this; omega
  rw [filM_rel hK ha hc hkl] at hb ⊢
  exact hRQ _ _ hb
theorem fil_tra (facts : Nat) : traB (nth (filM M facts (repL (subL M t) N) (permL (subL M t) (canon t) true)).rel a) = true := by
  have hK : (repL (subL M t) N).length ≤ 64 := Nat.le_trans (repL_len _ _) v.ok.most
  obtain ⟨hl2, hin2⟩ := fil_row v (permL (subL M t) (canon t) true) ha facts
  rw [traB_iff hl2 hK hin2]
  intro w u z hw hu hz h1 h2
  rw [filM_rel hK ha hw hu] at h1
  rw [filM_rel hK ha hu hz] at h2
  rw [filM_rel hK ha hw hz]
  exact perm_trans h1 h2
omit v ha in
theorem TransR.of (v : Vw M t N) {a : Nat} (ha : a < M.rel.length) (hr : traB (nth M.rel a) = true) : TransR M N a := by
  obtain ⟨hl, hin⟩ := row_in v.ok ha
  rw [traB_iff hl v.ok.most hin] at hr
  exact hr
end
/-! Numbers of the classes. -/
section
variable {L : List (BitVec 64)} {N : Nat}
theorem repL_succ (L : List (BitVec 64)) (w : Nat) : repL L (w + 1) = repL L w ++ (if lowOf L w = w then [w] else []) := by
  unfold repL
  rw [List.range_succ, List.filter_append]
  congr 1
  by_cases h : lowOf L w = w
  · simp [h]
  · simp [h]
theorem repL_prefix (L : List (BitVec 64)) (w : Nat) : ∀ d, ∃ m, repL L (w + d) = repL L w ++ m
  | 0 => ⟨[], by simp⟩
  | d + 1 => by
    obtain ⟨m, h⟩ := repL_prefix L w d
    exact ⟨m ++ (if lowOf L (w + d) = w + d then [w + d] else []), by rw [← Nat.add_assoc, repL_succ, h, List.append_assoc]⟩
/-- The class of a world is one that began ahead of it, or the next one. -/
theorem cls_next {w : Nat} (hw : w < N) : (lowOf L w = w → clsOf L N w = (repL L w).length) ∧ (lowOf L w ≠ w → clsOf L N w < (repL L w).length) := by
  obtain ⟨m, hm⟩ := repL_prefix L (w + 1) (N - (w + 1))
  rw [show w + 1 + (N - (w + 1)) = N by omega] at hm
  unfold clsOf
  constructor
  · intro h
    have hn : w ∉ repL L w := fun hc => by have := (repL_mem.1 hc).1; omega
    rw [hm, h, repL_succ, if_pos h, List.append_assoc, List.idxOf_append, if_neg hn]
    simp
  · intro h
    have hlt : lowOf L w < w := by have := lowOf_le L w; omega
    have hin : lowOf L w ∈ repL L w := repL_low' hlt
    rw [hm, repL_succ, List.append_assoc, List.idxOf_append, if_pos hin]
    exact List.idxOf_lt_length_of_mem hin
where
  repL_low' {w : Nat} (hlt : lowOf L w < w) : lowOf L w ∈ repL L w := repL_mem.2 ⟨hlt, lowOf_idem L w⟩
/-- A world's sets as a number. -/
def keyN (L : List (BitVec 64)) (w : Nat) : Nat := L.foldl (fun n s => 2 * n + (if bt s w then 1 else 0)) 0
theorem keyN_aux (w v : Nat) : ∀ (L : List (BitVec 64)) (a b : Nat), L.foldl (fun n s => 2 * n + (if bt s w then 1 else 0)) a = L.foldl (fun n s => 2 * n + (if bt s v then 1 else 0)) b → a = b ∧ agr L w v = true
  | [], a, b, h => ⟨h, rfl⟩
  | s :: L, a, b, h => by
    simp only [List.foldl_cons] at h
    obtain ⟨h1, h2⟩ := keyN_aux w v L _ _ h
    rw [agr_iff] at h2 ⊢
    cases hc : bt s w <;> cases hd : bt s v <;> rw [hc, hd] at h1 <;> simp at h1
    all_goals first | omega | skip
    all_goals
      refine ⟨by omega, fun x hx => ?_⟩
      rcases List.mem_cons.1 hx with rfl | hx
      · rw [hc, hd]
      · exact h2 x hx
theorem keyN_lt (w : Nat) : ∀ (L : List (BitVec 64)) (a : Nat), L.foldl (fun n s => 2 * n + (if bt s w then 1 else 0)) a < (a + 1) * 2 ^ L.length
  | [], a => by simp
  | s :: L, a => by
    simp only [List.foldl_cons, List.length_cons]
    refine Nat.lt_of_lt_of_le (keyN_lt w L _) ?_
    rw [Nat.pow_succ, Nat.mul_comm _ 2, ← Nat.mul_assoc]
    exact Nat.mul_le_mul_right _ (by split <;> omega)
/-- There are at most as many classes as sets of subformulas. -/
theorem classes_le (L : List (BitVec 64)) (N : Nat) : (repL L N).length ≤ 2 ^ L.length := by
  have hnd : ((repL L N).map (keyN L)).Nodup := by
    refine List.pairwise_map.2 (List.Pairwise.imp_of_mem (fun {x y} hx hy hne e => hne ?_) (repL_nodup L N))
    obtain ⟨-, h⟩ := keyN_aux x y L 0 0 e
    have := lowOf_eq h
    rw [(repL_mem.1 hx).2, (repL_mem.1 hy).2] at this
    exact this
  have := nodup_sub_len (L := (repL L N).map (keyN L)) (M := List.range (2 ^ L.length)) hnd (fun s hs => by
    obtain ⟨w, -, rfl⟩ := List.mem_map.1 hs
    have := keyN_lt w L 0
    rw [List.mem_range]
    unfold keyN; omega)
  simpa using this
end
end Wt

/- Plain: the points of a set one by one; what a set of points comes to under a relation; closures of relations. -/
namespace Wt
open Go Go.RowKit Go.Proofs Fm

/-- A set without its first k points. -/
def dropK (s : BitVec 64) : Nat → BitVec 64
  | 0 => s
  | k + 1 => dropK s k &&& (dropK s k - 1#64)
theorem memL_dropK (s : BitVec 64) : ∀ k, memL (dropK s k) = (memL s).drop k
  | 0 => rfl
  | k + 1 => by
    have h := memL_dropK s k
    by_cases hz : dropK s k = 0#64
    · rw [hz, memL_zero] at h
      have hl : (memL s).length ≤ k := List.drop_eq_nil_iff.1 h.symm
      show memL (dropK s k &&& (dropK s k - 1#64)) = _
      rw [hz, List.drop_eq_nil_of_le (by omega)]
      exact memL_zero
    · have h2 := memL_step hz
      rw [h] at h2
      show memL (dropK s k &&& (dropK s k - 1#64)) = _
      have h3 := congrArg List.tail h2
      rw [List.tail_drop] at h3
      exact h3.symm
theorem dropK_ne {s : BitVec 64} {k : Nat} (hk : k < (memL s).length) : dropK s k ≠ 0#64 := fun h => by
  have h2 := memL_dropK s k
  rw [h, memL_zero] at h2
  have := List.drop_eq_nil_iff.1 h2.symm
  omega
theorem dropK_tz {s : BitVec 64} {k : Nat} (hk : k < (memL s).length) : tz (dropK s k) = nth (memL s) k := by
  have h := memL_step (dropK_ne hk)
  rw [memL_dropK, List.drop_eq_getElem_cons hk] at h
  rw [nth_eq _ _ hk]
  exact (List.cons.inj h).1.symm
theorem dropK_end (s : BitVec 64) : dropK s (memL s).length = 0#64 := by
  by_cases h : dropK s (memL s).length = 0#64
  · exact h
  · have h2 := memL_step h
    rw [memL_dropK, List.drop_length] at h2
    cases h2
theorem memL_at {s : BitVec 64} {k : Nat} (hk : k < (memL s).length) : nth (memL s) k < 64 ∧ bt s (nth (memL s) k) = true := mem_memL.1 (nth_mem hk)
theorem memL_ltN {s : BitVec 64} {N k : Nat} (h : Sub s (allW N)) (hk : k < (memL s).length) : nth (memL s) k < N := by
  obtain ⟨h1, h2⟩ := memL_at hk
  have := h _ h1 h2
  rw [bt_allW] at this
  simp at this
  omega
/-- The union of the successors of the first k points of a list. -/
def mapK (r : List (BitVec 64)) (l : List Nat) : Nat → BitVec 64
  | 0 => 0#64
  | k + 1 => mapK r l k ||| nth r (nth l k)
def mapS (r : List (BitVec 64)) (s : BitVec 64) : BitVec 64 := mapK r (memL s) (memL s).length
theorem mapK_sub {r : List (BitVec 64)} {l : List Nat} {t : BitVec 64} : ∀ k, Sub (mapK r l k) t ↔ ∀ j, j < k → Sub (nth r (nth l j)) t
  | 0 => ⟨fun _ j hj => absurd hj (Nat.not_lt_zero _), fun _ k _ hb => by rw [show mapK r l 0 = 0#64 from rfl, bt_zero] at hb; cases hb⟩
  | k + 1 => by
    have ih := mapK_sub (r := r) (l := l) (t := t) k
    constructor
    · intro h j hj
      by_cases hjk : j = k
      · subst hjk; exact (Sub.orR _ _).trans h
      · exact ih.1 ((Sub.orL _ _).trans h) j (by omega)
    · intro h
      exact Sub.or (ih.2 fun j hj => h j (by omega)) (h k (by omega))
theorem mapS_sub {r : List (BitVec 64)} {s t : BitVec 64} : Sub (mapS r s) t ↔ ∀ u, u < 64 → bt s u = true → Sub (nth r u) t := by
  unfold mapS
  rw [mapK_sub]
  constructor
  · intro h u hu hb
    obtain ⟨j, hj, rfl⟩ := mem_nth (mem_memL.2 ⟨hu, hb⟩)
    exact h j hj
  · intro h j hj
    exact h _ (memL_at hj).1 (memL_at hj).2
section
variable {r : List (BitVec 64)} {N : Nat} (hl : r.length = N) (hin : ∀ w, w < N → Sub (nth r w) (allW N))
include hl hin
theorem traB_map : traB r = true ↔ ∀ w, w < N → mapS r (nth r w) &&& ~~~ nth r w = 0#64 := by
  unfold traB
  simp only [List.all_eq_true, List.mem_range, hl, Bool.or_eq_true, Bool.not_eq_true', beq_iff_eq]
  constructor
  · intro h w hw
    rw [andNot_zero, mapS_sub]
    intro u hu hb
    have hun : u < N := by
      have := hin w hw u hu hb
      rw [bt_allW] at this
      simp at this
      omega
    rcases h w hw u hun with h1 | h1
    · rw [hb] at h1; cases h1
    · exact andNot_zero.1 h1
  · intro h w hw u hu
    cases hb : bt (nth r w) u
    · exact .inl rfl
    · refine .inr ?_
      have h1 := h w hw
      rw [andNot_zero, mapS_sub] at h1
      exact andNot_zero.2 (h1 u (bt_lt64 hb) hb)
end

/-! The reference's closures. -/
def sumT : List (BitVec 64) → Nat
  | [] => 0
  | x :: l => x.toNat + sumT l
theorem sumT_le : ∀ l : List (BitVec 64), sumT l ≤ l.length * 2 ^ 64
  | [] => Nat.le_refl _
  | x :: l => by
    have h1 := sumT_le l
    have h2 := x.isLt
    simp only [sumT, List.length_cons, Nat.add_mul]
    omega
theorem sumT_set : ∀ (l : List (BitVec 64)) (i : Nat) (x : BitVec 64), i < l.length → sumT (l.set i x) + (nth l i).toNat = sumT l + x.toNat
  | [], _, _, h => absurd h (Nat.not_lt_zero _)
  | y :: l, 0, x, _ => by simp only [List.set_cons_zero, sumT]; simp [nth]; omega
  | y :: l, i + 1, x, h => by
    have := sumT_set l i x (by simpa using h)
    have e : nth (y :: l) (i + 1) = nth l i := by simp [nth]
    rw [e]
    simp only [List.set_cons_succ, sumT]
    omega
theorem or_lt {x a : BitVec 64} (h : x ||| a ≠ x) : x.toNat < (x ||| a).toNat := by
  have h1 : x.toNat ≤ (x ||| a).toNat := by rw [BitVec.toNat_or]; exact Nat.left_le_or
  have h2 : x.toNat ≠ (x ||| a).toNat := fun e => h (BitVec.eq_of_toNat_eq e.symm)
  omega
theorem or_eq {x a : BitVec 64} : x ||| a = x ↔ Sub a x := by
  constructor
  · intro h
    rw [← h]
    exact Sub.orR _ _
  · intro h
    refine bt_ext fun k hk => ?_
    rw [bt_or]
    cases h1 : bt x k
    · cases h2 : bt a k
      · rfl
      · have := h k hk h2; rw [h1] at this; cases this
    · rfl
theorem or_lt_sum {l : List (BitVec 64)} {i : Nat} {a : BitVec 64} (hi : i < l.length) (h : nth l i ||| a ≠ nth l i) : sumT l < sumT (l.set i (nth l i ||| a)) := by
  have h1 := sumT_set l i (nth l i ||| a) hi
  have h2 := or_lt h
  omega
/-- Where a step of grow adds, and what. -/
def atE (e : Bool) (w u : Nat) : Nat := if e then u else w
def addE (e : Bool) (l : List (BitVec 64)) (w u : Nat) : BitVec 64 := if e then nth l w else nth l u
/-- A step from w to u is closed. -/
def CloP (e : Bool) (l : List (BitVec 64)) (w u : Nat) : Prop := bt (nth l w) u = true → nth l (atE e w u) ||| addE e l w u = nth l (atE e w u)
def Clo (e : Bool) (l : List (BitVec 64)) : Prop := ∀ w u, w < l.length → u < l.length → CloP e l w u
/-- The list that grows. -/
structure Gro (e : Bool) (r l : List (BitVec 64)) : Prop where
  len : l.length = r.length
  same : Clo e r → l = r
theorem Gro.start (e : Bool) (r : List (BitVec 64)) : Gro e r r := ⟨rfl, fun _ => rfl⟩
theorem Gro.step {e : Bool} {r l : List (BitVec 64)} (h : Gro e r l) {w u : Nat} (hw : w < r.length) (hu : u < r.length) (hb : bt (nth l w) u = true) (hne : nth l (atE e w u) ||| addE e l w u ≠ nth l (atE e w u)) : Gro e r (l.set (atE e w u) (nth l (atE e w u) ||| addE e l w u)) :=
  ⟨by rw [List.length_set]; exact h.len, fun hc => by
    have hlr := h.same hc
    subst hlr
    exact absurd (hc w u hw hu hb) hne⟩
theorem clo_tra {r : List (BitVec 64)} : Clo false r ↔ traB r = true := by
  unfold traB Clo CloP
  simp only [List.all_eq_true, List.mem_range, Bool.or_eq_true, Bool.not_eq_true', beq_iff_eq, atE, addE]
  constructor
  · intro h w hw u hu
    cases hb : bt (nth r w) u
    · exact .inl rfl
    · exact .inr (andNot_zero.2 (or_eq.1 (by simpa using h w u hw hu hb)))
  · intro h w u hw hu hb
    rcases h w hw u hu with h1 | h1
    · rw [hb] at h1; cases h1
    · simpa using or_eq.2 (andNot_zero.1 h1)
theorem clo_euc {r : List (BitVec 64)} : Clo true r ↔ eucB r = true := by
  unfold eucB Clo CloP
  simp only [List.all_eq_true, List.mem_range, Bool.or_eq_true, Bool.not_eq_true', beq_iff_eq, atE, addE]
  constructor
  · intro h w hw u hu
    cases hb : bt (nth r w) u
    · exact .inl rfl
    · exact .inr (andNot_zero.2 (or_eq.1 (by simpa using h w u hw hu hb)))
  · intro h w u hw hu hb
    rcases h w hw u hu with h1 | h1
    · rw [hb] at h1; cases h1
    · simpa using or_eq.2 (andNot_zero.1 h1)
theorem gro_end {e : Bool} {r l : List (BitVec 64)} (h : Gro e r l) (hc : Clo e l) : l = r ↔ Clo e r :=
  ⟨fun hl => hl ▸ hc, h.same⟩
end Wt

/- Walks: relation.points, its iterator, mapped. -/
namespace Wt
open Go Go.RowKit Go.Maps Go.Proofs Fm
attribute [local go_sem] Oper.semAt_some

/-- What the iterator keeps in its cell. -/
def ptsSt (s : BitVec 64) (k : Nat) : Value := .int .u64 (un (dropK s k))
/-- How many points are still to come. -/
def ptsMu (b : Nat) (w : World) : Nat := match w.cell? ⟨b, 0, none⟩ with
  | some (.int _ x) => (memL (BitVec.ofInt 64 x)).length
  | _ => 0
theorem ptsMu_at {b k : Nat} {s : BitVec 64} {w : World} (h : w.cell? ⟨b, 0, none⟩ = some (ptsSt s k)) : ptsMu b w = (memL s).length - k := by
  unfold ptsMu
  rw [h]
  show (memL (BitVec.ofInt 64 (un (dropK s k)))).length = _
  rw [ofInt_un, memL_dropK, List.length_drop]
theorem points_any (s : BitVec 64) (w : World) : Calls Tryz.prog 173 #[.int .u64 (un s)] w fun e w' => e = .returned (.func (.func 192) #[] #[.pointer (some ⟨w.heap.size, 0, none⟩)]) ∧ w' = w.alloc (.cells #[.int .u64 (un s)] 63) := by
  go_enter Tryz.func173, Tryz.ntmps173
  go_wp2
  go_ret
  exact ⟨rfl, rfl⟩
set_option maxRecDepth 20000 in
set_option maxHeartbeats 4000000 in
theorem points1_pts (n : Nat) (hn : 1 ≤ n) (b : Nat) (s : BitVec 64) : PtsAt Fence.wide n Tryz.prog 192 b (memL s) (ptsSt s) := by
  intro l J W hJs hJd hJT hY h0 hc hf
  have HS := Lib.hid hJs
  have HT := Lib.hid hJT
  have HY := Lib.hid hY
  clear hJs hJd hJT hY
  refine callsIn_of_wp Tryz.func192 rfl trivial ?_ rfl
  simp only [Tryz.ntmps192, List.size_toArray, List.length_cons, List.length_nil, Nat.reduceAdd, Nat.reduceSub, Array.replicate_succ, Array.replicate_zero, List.push_toArray, List.append_toArray, List.nil_append, List.cons_append]
  gi_wp2
  gi_loopw [] (fun wr => ∃ k, k ≤ (memL s).length ∧ Hid (J k wr) ∧ wr.cell? ⟨b, 0, none⟩ = some (ptsSt s k) ∧ wr.frozen? ⟨b, 0, none⟩ = false) (fun wr => ptsMu b wr)
  case atStart => exact ⟨0, Nat.zero_le _, Lib.hid h0, hc, hf⟩
  case round =>
    clear h0 hc hf
    obtain ⟨k, hk, HJ, hc, hf⟩ := hrel
    have hmu := Lib.hid (ptsMu_at hc)
    by_cases hkl : k < (memL s).length
    · have hne := dropK_ne hkl
      have htz := tz_any (dropK s k) hne wr (HT.out _ _ HJ.out)
      rw [dropK_tz hkl] at htz
      have HZ : Hid (CallsIn Fence.wide (n - 1) Tryz.prog 180 #[.int .u64 (un (dropK s k))] wr fun e w' => e = .returned (.int .i64 ((nth (memL s) k : Nat) : Int)) ∧ wr = w') := Lib.hid (callsIn_wide.2 htz)
      obtain ⟨fn, tmps, assign, body, hy, hR⟩ := HY.out k wr hkl HJ.out hc hf
      have hne2 : (un (dropK s k) != 0) = true := by
        have h1 : un (dropK s k) ≠ un 0#64 := fun h => hne (un_inj.1 h)
        rw [un_zero] at h1
        simpa using h1
      have HD : Hid (dropK s (k + 1) = dropK s k &&& (dropK s k - 1#64)) := Lib.hid rfl
      clear htz hne
      change wr.cell? ⟨b, 0, none⟩ = some (.int .u64 (un (dropK s k))) at hc
      generalize dropK s k = S at *
      have hbl := World.block_lt_of_cell? _ _ hc
      gi_wp2_with (refine ⟨trivial, ?_⟩; gi_at_call 180; refine HZ.out.mono ?_; rintro _ _ ⟨rfl, rfl⟩)
      refine hR.mono ?_
      rintro _ w2 ⟨rfl, hJ2, hc2, hf2⟩
      rw [hc] at hc2
      rw [hf] at hf2
      have hbl2 := World.block_lt_of_cell? _ _ hc2
      have HJ2 := Lib.hid hJ2
      clear hy hR hJ2
      have HC3 : Hid ((w2.setCell ⟨b, 0, none⟩ (.int .u64 (un (S &&& (S - 1#64))))).cell? ⟨b, 0, none⟩ = some (ptsSt s (k + 1))) := Lib.hid (by
        rw [ptsSt, HD.out]
        exact World.cell?_setCell_same' _ _ _ (by rw [hc2]; rfl))
      gi_wp2
      go_roundw
      case rel => exact ⟨k + 1, hkl, Lib.hid (HS.out _ _ _ HJ2.out), HC3.out, by rw [World.frozen?_setCell]; exact hf2⟩
      case measure =>
        have h1 := hmu.out
        have h2 := ptsMu_at HC3.out
        omega
    · obtain rfl : k = (memL s).length := by omega
      have hz : ptsSt s (memL s).length = .int .u64 0 := by unfold ptsSt; rw [dropK_end, un_zero]
      rw [hz] at hc
      gi_wp2
      go_end0
      exact ⟨⟨_, rfl⟩, HJ.out⟩
/-- A variable in a block of its own. -/
structure Bx1 (W : World) (b : Nat) (v : Value) : Prop where
  c : W.cell? ⟨b, 0, none⟩ = some v
  f : W.frozen? ⟨b, 0, none⟩ = false
theorem Bx1.lt {W : World} {b : Nat} {v : Value} (h : Bx1 W b v) : b < W.heap.size := World.block_lt_of_cell? _ _ h.c
theorem Bx1.new (W : World) (v : Value) (T : TypeId) : Bx1 (W.alloc (.cells #[v] T)) W.heap.size v := by
  have h := World.alloc_heap_new W (.cells #[v] T)
  exact ⟨by unfold World.cell?; rw [h]; rfl, by unfold World.frozen?; rw [h]; rfl⟩
theorem Bx1.ext {W W' : World} {b : Nat} {v : Value} (h : Bx1 W b v) (e : Ext W W') : Bx1 W' b v :=
  ⟨e.cell h.c, (World.frozen?_of_block (e.block _ h.lt)).trans h.f⟩
theorem Bx1.at {W : World} {b b' : Nat} {v : Value} (h : Bx1 W b v) (e : b = b') : Bx1 W b' v := e ▸ h
/-- What lies between two rounds of mapped. -/
def MpI (w : World) (a : Option Addr) (r : List (BitVec 64)) (c : Nat) (l : List Nat) (k : Nat) (W : World) : Prop :=
  (W.cell? ⟨w.heap.size + 1, 0, none⟩ = some (.int .u64 (un (mapK r l k))) ∧ W.frozen? ⟨w.heap.size + 1, 0, none⟩ = false ∧ W.cell? ⟨w.heap.size, 0, none⟩ = some (.slice a r.length c)) ∧ Below w.heap.size w W
theorem MpI.own {w : World} {a : Option Addr} {r : List (BitVec 64)} {c n : Nat} {l : List Nat} (h : w.heap.size ≤ n) : OwnFrom n (MpI w a r c l) :=
  OwnFrom.and (Own.from (fun _ _ _ _ hs hg hr => ⟨cell_kept hs.1 hg hr, (frozen_kept hs.1 hg hr).trans hs.2.1, cell_kept hs.2.2 hg hr⟩) _) (ownFrom_below (Nat.le_refl _) h)
theorem MpI.set {w W : World} {a : Option Addr} {r : List (BitVec 64)} {c k : Nat} {l : List Nat} (h : MpI w a r c l k W) (v : Value) : MpI w a r c l k (W.setCell ⟨w.heap.size + 2, 0, none⟩ v) :=
  ⟨⟨(World.cell?_setCell_other _ _ _ _ (by simp)).trans h.1.1, by rw [World.frozen?_setCell]; exact h.1.2.1, (World.cell?_setCell_other _ _ _ _ (by simp)).trans h.1.2.2⟩, h.2.setCell (by simp) _⟩
theorem MpI.put {w W : World} {a : Option Addr} {r : List (BitVec 64)} {c k : Nat} {l : List Nat} {x : Act} (h : MpI w a r c l k W) :
    ptsPost (MpI w a r c l) (w.heap.size + 1 + 1) k W Exit.normal x (W.setCell ⟨w.heap.size + 1, 0, none⟩ (.int .u64 (un (mapK r l k ||| nth r (nth l k))))).drew :=
  ⟨(KeepsOthers.setCell _ _ _).trans (KeepsOthers.drew _), ⟨⟨World.cell?_setCell_same' _ _ _ (by rw [h.1.1]; rfl), by rw [frozen_drew_own, World.frozen?_setCell]; exact h.1.2.1, (World.cell?_setCell_other _ _ _ _ (by simp)).trans h.1.2.2⟩, (h.2.setCell (by simp) _).drew⟩,
    World.cell?_setCell_other _ _ _ _ (by simp), by rw [frozen_drew_own, World.frozen?_setCell]⟩
set_option maxRecDepth 20000 in
set_option maxHeartbeats 4000000 in
theorem mapped_any (r : List (BitVec 64)) (s : BitVec 64) (a : Option Addr) (c : Nat) (w : World) (hT : Tab w) (hr : RU w a r) (hs : ∀ k, k < (memL s).length → nth (memL s) k < r.length) :
    Calls Tryz.prog 172 #[.slice a r.length c, .int .u64 (un s)] w fun e w' => e = .returned (.int .u64 (un (mapS r s))) ∧ Ext w w' := by
  refine (callsIn_wide (n := 9)).1 ?_
  refine callsIn_of_wp_marks Tryz.func172 rfl trivial ?_ rfl
  simp only [Tryz.ntmps172, List.size_toArray, List.length_cons, List.length_nil, Nat.reduceAdd, Nat.reduceSub, Array.replicate_succ, Array.replicate_zero, List.push_toArray, List.append_toArray, List.nil_append, List.cons_append]
  gi_wp2_with (refine ⟨trivial, ?_⟩; gi_at_call 173; refine (callsIn_wide.2 (points_any s _)).mono ?_; rintro _ _ ⟨rfl, rfl⟩)
  have hE3 : Ext w (((w.alloc (.cells #[.slice a r.length c] 25)).alloc (.cells #[.int .u64 0] 63)).alloc (.cells #[.int .u64 (un s)] 63)) := (((Ext.refl w).alloc _).alloc _).alloc _
  have hE1 : Ext (w.alloc (.cells #[.slice a r.length c] 25)) (((w.alloc (.cells #[.slice a r.length c] 25)).alloc (.cells #[.int .u64 0] 63)).alloc (.cells #[.int .u64 (un s)] 63)) := ((Ext.refl _).alloc _).alloc _
  have b0 := (Bx1.new w (.slice a r.length c) 25).ext hE1
  have b1 := ((Bx1.new (w.alloc (.cells #[.slice a r.length c] 25)) (.int .u64 0) 63).ext ((Ext.refl _).alloc (.cells #[.int .u64 (un s)] 63))).at (b' := w.heap.size + 1) (by simp)
  have b2 := (Bx1.new ((w.alloc (.cells #[.slice a r.length c] 25)).alloc (.cells #[.int .u64 0] 63)) (.int .u64 (un s)) 63).at (b' := w.heap.size + 1 + 1) (by simp)
  have hI0 : MpI w a r c (memL s) 0 (((w.alloc (.cells #[.slice a r.length c] 25)).alloc (.cells #[.int .u64 0] 63)).alloc (.cells #[.int .u64 (un s)] 63)) := ⟨⟨b1.c, b1.f, b0.c⟩, hE3⟩
  have hc3 : (((w.alloc (.cells #[.slice a r.length c] 25)).alloc (.cells #[.int .u64 0] 63)).alloc (.cells #[.int .u64 (un s)] 63)).cell? ⟨w.heap.size + 1 + 1, 0, none⟩ = some (ptsSt s 0) := b2.c
  have hf3 := b2.f
  clear b0 b1 b2 hE1
  have hs3 : (((w.alloc (.cells #[.slice a r.length c] 25)).alloc (.cells #[.int .u64 0] 63)).alloc (.cells #[.int .u64 (un s)] 63)).heap.size = w.heap.size + 3 := by simp
  generalize ((w.alloc (.cells #[.slice a r.length c] 25)).alloc (.cells #[.int .u64 0] 63)).alloc (.cells #[.int .u64 (un s)] 63) = w3 at *
  refine wpIn_rangeFunc_pts rfl (by decide) (gf := 192) (b := w.heap.size + 1 + 1) rfl trivial (enters_of Tryz.func192 (by kernel_rfl) rfl) (points1_pts _ (by decide) _ s) rfl hc3 hf3
    (MpI w a r c (memL s)) (MpI.own (by omega)) (fun k A v h => h.set v) (fun k A h => ⟨h.1, h.2.drew⟩) (fun k A h => hT.ext h.2) hI0
    (fun x => { tmps := #[.slice a r.length c, .int .u64 (un s), .pointer (some ⟨w.heap.size, 0, none⟩), undef, .int .u64 0, .pointer (some ⟨w.heap.size + 1, 0, none⟩), .int .i64 ((x : Nat) : Int), .int .u64 (un s), .func (.func 192) #[] #[.pointer (some ⟨w.heap.size + 1 + 1, 0, none⟩)], .int .i64 ((x : Nat) : Int), undef, undef, undef, undef, undef, undef, undef], defers := [] }) ?assign ?body ?done
  case assign =>
    intro l k W K hK
    gi_wp2
    exact hK
  case body =>
    intro l k W hk hI
    have HII := Lib.hid hI
    obtain ⟨⟨i0, i1, i2⟩, i3⟩ := hI
    obtain ⟨b1, o1, rfl, hb1, hc1⟩ := (hr.ext i3).get (hs k hk)
    have hmx : Tryz.prog.follows .mixedOrders = true := by kernel_rfl
    gi_wp2
    gi_region_with_o (fail)
    all_goals gi_wp2
    all_goals (try go_bits)
    all_goals exact HII.out.put
  case done =>
    intro D W hD hI hK
    obtain ⟨⟨i0, i1, i2⟩, i3⟩ := hI
    gi_wp2
    refine ⟨by simp, .inl ⟨_, _, rfl, run_takeDeferred hK, ?_⟩⟩
    refine ⟨_, results_tmp rfl _ _ _, ?_⟩
    exact ⟨rfl, i3.trans (belowK_b (w := w) (Nat.le_refl _) W D _ _ (by omega) hK rfl rfl)⟩
end Wt

/- Plain: the map from sets of subformulas to lowest worlds; the error of a request. -/
namespace Wt
open Go Go.RowKit Go.Maps Go.Proofs Fm

/-- In which sets a world lies. -/
def bitsL (L : List (BitVec 64)) (w : Nat) : List Bool := L.map fun s => bt s w
theorem bitsL_len (L : List (BitVec 64)) (w : Nat) : (bitsL L w).length = L.length := by simp [bitsL]
theorem bitsL_iff {L : List (BitVec 64)} {v w : Nat} : bitsL L v = bitsL L w ↔ agr L v w = true := by
  rw [agr_iff]; unfold bitsL
  exact List.map_inj_left
/-- A byte for each. -/
def b01I (b : Bool) : Int := if b then 1 else 0
def strK (l : List Bool) : ByteArray := strOfNums (l.map b01I)
def encK (l : List Bool) : Value := .string (strK l)
theorem strK_size (l : List Bool) : (strK l).size = l.length := by unfold strK; rw [strOfNums_size]; simp
theorem strK_inj {l m : List Bool} (h : strK l = strK m) : l = m := by
  have h2 : ((l.map b01I).map fun n => UInt8.ofNat n.toNat) = (m.map b01I).map fun n => UInt8.ofNat n.toNat := by
    unfold strK at h
    rw [← strOfNums_data, ← strOfNums_data, h]
  have h3 : l.map b01I = m.map b01I := by
    rw [List.map_map, List.map_map] at h2
    have h4 := (List.map_inj_right (f := (fun n : Int => UInt8.ofNat n.toNat) ∘ b01I) fun a b hab => by cases a <;> cases b <;> first | rfl | (exfalso; revert hab; decide)).1 h2
    rw [h4]
  exact (List.map_inj_right fun a b hab => by cases a <;> cases b <;> first | rfl | (exfalso; revert hab; decide)).1 h3
theorem encK_inj (l m : List Bool) (h : encK l = encK m) : l = m := by
  unfold encK at h
  injection h with h
  exact strK_inj h
def goodK (l : List Bool) : Prop := l.length ≤ 200
/-- The lowest world ahead of k with these bits. -/
def clsF (L : List (BitVec 64)) (k : Nat) (l : List Bool) : Option Int := ((List.range k).find? fun v => bitsL L v == l).map fun v : Nat => (v : Int)
theorem clsF_zero (L : List (BitVec 64)) : clsF L 0 = fun _ => none := by funext l; simp [clsF]
theorem clsF_step (L : List (BitVec 64)) (k : Nat) (l : List Bool) : clsF L (k + 1) l = if clsF L k l = none ∧ bitsL L k = l then some (k : Int) else clsF L k l := by
  unfold clsF
  rw [List.range_succ, List.find?_append]
  cases h : (List.range k).find? fun v => bitsL L v == l with
  | none => by_cases e : bitsL L k = l <;> simp [e]
  | some v => simp
theorem clsF_new {L : List (BitVec 64)} {k : Nat} (h : clsF L k (bitsL L k) = none) : (fun x => if x = bitsL L k then some (k : Int) else clsF L k x) = clsF L (k + 1) := by
  funext l
  rw [clsF_step]
  by_cases e : l = bitsL L k
  · subst e; simp [h]
  · rw [if_neg e, if_neg (fun hc => e hc.2.symm)]
theorem clsF_old {L : List (BitVec 64)} {k : Nat} (h : clsF L k (bitsL L k) ≠ none) : clsF L k = clsF L (k + 1) := by
  funext l
  rw [clsF_step]
  by_cases e : bitsL L k = l
  · subst e; rw [if_neg (fun hc => h hc.1)]
  · rw [if_neg (fun hc => e hc.2)]
theorem clsF_low (L : List (BitVec 64)) (k : Nat) : clsF L (k + 1) (bitsL L k) = some ((lowOf L k : Nat) : Int) := by
  have h : (List.range (k + 1)).find? (fun v => bitsL L v == bitsL L k) = some (lowOf L k) := by
    rw [List.find?_range_eq_some]
    refine ⟨?_, ?_, ?_⟩
    · simpa using bitsL_iff.2 (lowOf_agr L k)
    · have := lowOf_le L k; exact List.mem_range.2 (by omega)
    · intro j hj
      have : ¬ bitsL L j = bitsL L k := fun e => by
        have := lowOf_min (bitsL_iff.1 e)
        omega
      simpa using this
  unfold clsF
  rw [h]; rfl
/-- The error of a model and a formula about knowledge. -/
def lookErr (M : Mo) (f : List Nd) : Int := if moCheck M ≠ 0 then moCheck M else if fCheck f ≠ 0 then fCheck f else if 2 ≤ fFrags f then 10 else if fFits f M.rel.length M.val.length = false then 2 else 0
theorem lookErr_ok {M : Mo} {f : List Nd} (h : lookErr M f = 0) : moCheck M = 0 ∧ fCheck f = 0 ∧ fFrags f < 2 ∧ reqErr M f = 0 := by
  unfold lookErr at h
  split at h
  · rename_i h1; exact absurd h h1
  split at h
  · rename_i h1; exact absurd h h1
  split at h
  · exact absurd h (by decide)
  split at h
  · exact absurd h (by decide)
  rename_i h1 h2 h3 h4
  have h1' : moCheck M = 0 := by simpa using h1
  have h2' : fCheck f = 0 := by simpa using h2
  refine ⟨h1', h2', by omega, ?_⟩
  unfold reqErr
  rw [if_neg h1, if_neg h2, if_neg (by omega), if_neg h4]
theorem compact_twice {f : List Nd} (h : fCheck f = 0) : fCheck (fCompact f) = 0 ∧ fCompact (fCompact f) = fCompact f := by
  have hF := IsF.of h
  rw [hF.compact]
  have hs : fsize (rt f) ≤ 200 := by
    have := hF.sz
    have := (fCheck_ok.1 h).2.1
    omega
  exact ⟨canon_check _ hF.fk hs, compact_canon _ hF.fk hs⟩
theorem req_compact {M : Mo} {f : List Nd} (h1 : moCheck M = 0) (h : fCheck f = 0) (h2 : fFrags f < 2) : reqErr M (fCompact f) = (if fFits f M.rel.length M.val.length = false then 2 else 0) := by
  obtain ⟨c1, c2⟩ := compact_twice h
  have e1 : fFrags (fCompact f) = fFrags f := by unfold fFrags; rw [c2]
  have e2 : fAgents (fCompact f) = fAgents f := by unfold fAgents; rw [c2]
  have e3 : fFacts (fCompact f) = fFacts f := by unfold fFacts; rw [c2]
  have e4 : ∀ a b, fFits (fCompact f) a b = fFits f a b := fun a b => by unfold fFits; rw [e2, e3, c1, h]
  unfold reqErr
  rw [if_neg (by simp [h1]), if_neg (by simp [c1]), if_neg (by omega), e4]
theorem look_req {M : Mo} {f : List Nd} (h1 : moCheck M = 0) (h : fCheck f = 0) (h2 : fFrags f < 2) : lookErr M f = reqErr M (fCompact f) := by
  rw [req_compact h1 h h2]
  unfold lookErr
  rw [if_neg (by simp [h1]), if_neg (by simp [h]), if_neg (by omega)]
theorem look_sets {M : Mo} {f : List Nd} (h : lookErr M f = 0) : setsOf M (fCompact f) = subL M (rt f) ∧ fCompact f = canon (rt f) ∧ (fCompact f).length ≤ 200 ∧ ∃ N, Vw M (rt f) N := by
  obtain ⟨h1, h2, h3, h4⟩ := lookErr_ok h
  have hF := IsF.of h2
  refine ⟨?_, hF.compact, (fCompact_ok f).2, vw_of h1 h2 h3 h4⟩
  have hr := look_req h1 h2 h3
  rw [h] at hr
  unfold setsOf subL
  rw [if_pos hr.symm, hF.compact]
end Wt

/- Walks: relation.Has at seriality, reflexivity and transitivity (printed by gen_has.py). -/
namespace Wt
open Go Go.RowKit Go.Maps Go.Proofs Fm

theorem relCheck_ok {r : List (BitVec 64)} (h : relCheck r = 0) : r.length ≤ 64 ∧ ∀ w, w < r.length → Sub (nth r w) (allW r.length) := by
  unfold relCheck at h
  split at h
  · cases h
  · refine ⟨by omega, fun w hw => ?_⟩
    split at h
    · cases h
    · next hb =>
      have h2 : relBad r = false := by simpa using hb
      unfold relBad outL at h2
      rw [List.any_eq_false] at h2
      have h3 := h2 _ (nth_mem hw)
      unfold outOne at h3
      exact andNot_zero.1 (by simpa using h3)
theorem has4_eq {r : List (BitVec 64)} (h : relCheck r = 0) : hasB r 4 = traB r := by unfold hasB; rw [h]; rfl
theorem has1_eq {r : List (BitVec 64)} (h : relCheck r = 0) : hasB r 1 = serB r := by unfold hasB; rw [h]; rfl
theorem has2_eq {r : List (BitVec 64)} (h : relCheck r = 0) : hasB r 2 = refB r := by unfold hasB; rw [h]; rfl
theorem has_bad {r : List (BitVec 64)} {p : Int} (h : relCheck r ≠ 0) : hasB r p = false := by
  unfold hasB
  rw [show (relCheck r == 0) = false by simpa using h]
  rfl
theorem sub_bit (S : BitVec 64) (k : Nat) (_hk : k < 64) : ∀ x y, un ((S >>> k) &&& 1#64) = x → (if bt S k then (1 : Int) else 0) = y → x = y := fun x y hx hy => by
  rw [← hx, ← hy]
  cases hb : bt S k
  · have : (S >>> k) &&& 1#64 = 0#64 := by
      refine bt_ext fun j hj => ?_
      rw [bt_and, bt_zero]
      by_cases h0 : j = 0
      · subst h0
        have e : bt (S >>> k) 0 = bt S k := by simp [bt]
        rw [e, hb]; rfl
      · have e : bt 1#64 j = false := by have := bt_shl1 (k := j) 0; simp only [BitVec.shiftLeft_zero] at this; rw [this]; simp [h0]
        rw [e]; simp
    rw [this]; rfl
  · have : (S >>> k) &&& 1#64 = 1#64 := by
      refine bt_ext fun j hj => ?_
      rw [bt_and]
      by_cases h0 : j = 0
      · subst h0
        have e : bt (S >>> k) 0 = bt S k := by simp [bt]
        rw [e, hb]; rfl
      · have e : bt 1#64 j = false := by have := bt_shl1 (k := j) 0; simp only [BitVec.shiftLeft_zero] at this; rw [this]; simp [h0]
        rw [e]; simp
    rw [this]; rfl
set_option maxRecDepth 20000 in
set_option maxHeartbeats 4000000 in
theorem has4_any (r : List (BitVec 64)) (a : Option Addr) (c : Nat) (w : World) (hT : Tab w) (hr : RU w a r) :
    Calls Tryz.prog 142 #[.slice a r.length c, .int .i64 4] w fun e w' => e = .returned (.bool (hasB r 4)) ∧ Ext w w' := by
  have hE0 : Ext w ((w.alloc (.cells #[.slice a r.length c] 25)).alloc (.cells #[.bool false] 4)) := ((Ext.refl w).alloc _).alloc _
  have b0 := (Bx1.new w (.slice a r.length c) 25).ext ((Ext.refl _).alloc (.cells #[.bool false] 4))
  have b1 := (Bx1.new (w.alloc (.cells #[.slice a r.length c] 25)) (.bool false) 4).at (b' := w.heap.size + 1) (by simp)
  have HE := Lib.hid hE0
  have HT := Lib.hid (hT.ext hE0)
  have HR := Lib.hid (hr.ext hE0)
  have HB0 := Lib.hid b0
  have HB1 := Lib.hid b1
  have hln := hr.len
  have hck0 := relCheck_any a r c _ (hr.ext hE0)
  clear hT hr hE0
  obtain ⟨c0, -⟩ := b0
  obtain ⟨c1, f1⟩ := b1
  by_cases hck : relCheck r = 0
  · rw [has4_eq hck]
    rw [hck] at hck0
    have HCK := Lib.hid hck0
    clear hck0
    obtain ⟨h64, hin⟩ := relCheck_ok hck
    have HIN := Lib.hid hin
    clear hck hin
    go_enter Tryz.func142, Tryz.ntmps142
    go_wp2_with fail
    generalize ((w.alloc (.cells #[.slice a r.length c] 25)).alloc (.cells #[.bool false] 4)) = w2 at *
    refine HCK.out.mono ?_
    rintro _ _ ⟨rfl, rfl⟩
    dsimp only
    go_wp2_with fail
    have HTB := Lib.hid (traB_map rfl HIN.out)
    have HMP : Hid (∀ W x, Ext w2 W → x < r.length → Calls Tryz.prog 172 #[.slice a r.length c, .int .u64 (un (nth r x))] W fun e w' => e = .returned (.int .u64 (un (mapS r (nth r x)))) ∧ Ext W w') := Lib.hid fun W x e hx => mapped_any r (nth r x) a c W (HT.out.ext e) (HR.out.ext e) fun k hk => memL_ltN (HIN.out x hx) hk
    go_loopw [46] (fun i wr => ∃ k : Nat, k ≤ r.length ∧ i = .int .i64 (k : Int) ∧ Hid (Ext w2 wr) ∧ Hid (∀ j, j < k → mapS r (nth r j) &&& ~~~ nth r j = 0#64)) (fun i _ => r.length - (RowKit.intOf i).toNat)
    case atStart => exact ⟨0, Nat.zero_le _, rfl, Lib.hid (Ext.refl _), Lib.hid fun _ h => absurd h (Nat.not_lt_zero _)⟩
    case round =>
      clear c0 c1 f1
      obtain ⟨k, hk, rfl, HX, HNO⟩ := hrel
      obtain ⟨d0, -⟩ := HB0.out.ext HX.out
      obtain ⟨d1, e1⟩ := HB1.out.ext HX.out
      have dl0 := (HB0.out.ext HX.out).lt
      have dl1 := (HB1.out.ext HX.out).lt
      by_cases hkl : k < r.length
      · obtain ⟨g, q, rfl, hg, hc⟩ := (HR.out.ext HX.out).get hkl
        have HKP : Hid (∀ w', Ext wr.drew w' → w'.cell? ⟨w.heap.size, 0, none⟩ = some (.slice (some ⟨g, q, none⟩) r.length c) ∧ w'.cell? ⟨g, q + k, none⟩ = some (.int .u64 (un (nth r k)))) := Lib.hid fun w' e => ⟨e.cell d0, e.cell hc⟩
        have HFN : Hid (∀ w', Ext wr.drew w' → w'.cell? ⟨w.heap.size + 1, 0, none⟩ = some (.bool false) ∧ w'.frozen? ⟨w.heap.size + 1, 0, none⟩ = false ∧ w.heap.size + 1 < w'.heap.size) := Lib.hid fun w' e => ⟨((HB1.out.ext HX.out.drew).ext e).c, ((HB1.out.ext HX.out.drew).ext e).f, ((HB1.out.ext HX.out.drew).ext e).lt⟩
        cases hz : (un (mapS r (nth r k) &&& ~~~ nth r k) != 0)
        all_goals
          have HZ := Lib.hid hz
          go_wp2_with fail
          go_region_held3 (fun w' => w'.cell? ⟨w.heap.size, 0, none⟩ = some (.slice (some ⟨g, q, none⟩) r.length c) ∧ w'.cell? ⟨g, q + k, none⟩ = some (.int .u64 (un (nth r k)))) (first | go_keep | exact HKP.out _ (by assumption)) (first | (go_at_call 172; refine (HMP.out _ k (by first | exact HX.out.drew | exact HX.out) hkl).mono ?_; rintro _ w3 ⟨rfl, hE3⟩) | fail)
        all_goals have HE3 := Lib.hid (HX.out.drew.trans hE3)
        · have hnz : mapS r (nth r k) &&& ~~~ nth r k = 0#64 := by
            have h := HZ.out
            rw [← un_zero] at h
            exact un_inj.1 (by simpa using h)
          have HNZ := Lib.hid hnz
          clear hnz hz
          go_wp2_with fail
          go_roundw
          case rel => exact ⟨k + 1, hkl, by go_num, HE3, Lib.hid (lt_step HNO.out HNZ.out)⟩
          case measure => simp [RowKit.intOf]; omega
        · have hb : traB r = false := by
            cases hq : traB r
            · rfl
            · have h := HTB.out.1 hq k hkl
              have h2 := HZ.out
              rw [h, un_zero] at h2
              cases h2
          have HBF := Lib.hid hb
          clear hb hz
          obtain ⟨e2, e3, e4⟩ := HFN.out _ hE3
          go_wp2_with fail
          refine bodyPost_ret (v := .bool false) ?_ rfl ?_
          · rw [results_cell_one rfl]
            go_simp
          · exact ⟨by rw [HBF.out], ((HE.out.trans HE3.out).setCell (by simp) _)⟩
      · obtain rfl : k = r.length := by omega
        have hb : traB r = true := HTB.out.2 HNO.out
        have HBT := Lib.hid hb
        clear hb
        go_wp2_with fail
        refine bodyPost_ret (v := .bool true) ?_ rfl ?_
        · rw [results_cell_one rfl]
          go_simp
        · exact ⟨by rw [HBT.out], ((HE.out.trans HX.out).setCell (by simp) _)⟩
  · rw [has_bad hck]
    have hq : (relCheck r != 0) = true := by simpa using hck
    have HCK := Lib.hid hck0
    clear hck0 hck
    generalize relCheck r = er at *
    go_enter Tryz.func142, Tryz.ntmps142
    go_wp2_with fail
    generalize ((w.alloc (.cells #[.slice a r.length c] 25)).alloc (.cells #[.bool false] 4)) = w2 at *
    refine HCK.out.mono ?_
    rintro _ _ ⟨rfl, rfl⟩
    dsimp only
    go_wp2_with fail
    refine bodyPost_ret (v := .bool false) ?_ rfl ?_
    · rw [results_cell_one rfl]
      go_simp
    · exact ⟨rfl, HE.out.setCell (by simp) _⟩
end Wt
