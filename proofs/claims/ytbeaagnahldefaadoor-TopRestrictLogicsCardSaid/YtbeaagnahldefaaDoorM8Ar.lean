/- Plain: the filtration lemma: what holds at a world holds at its class. -/
import Derived.Test.YtbeaagnahldefaaDoorM8Aq
import Derived.Test.YtbeaagnahldefaaDoorM8Aj
namespace Wt
open Go Go.RowKit Go.Proofs Fm

section
variable {M : Mo} {N : Nat} (ok : MoOk M N) {q : Nat} (hq : q < M.rel.length)
include ok hq
theorem dia_iff {Z : BitVec 64} {k : Nat} (hn : k < N) : bt (relDia (nth M.rel q) Z) k = true ↔ ∃ u, u < N ∧ bt (nth (nth M.rel q) k) u = true ∧ bt Z u = true := by
  obtain ⟨hl, hrow⟩ := row_in ok hq
  have hk : k < 64 := by have := ok.most; omega
  unfold relDia
  rw [if_pos (rel_ok hl ok.most hrow), hl, bt_and, bt_not, bt_allW, bt_boxTo _ _ _ _ hk]
  have e : (nth (nth M.rel q) k &&& ~~~ ~~~ Z == 0#64) = true ↔ ¬ ∃ u, u < N ∧ bt (nth (nth M.rel q) k) u = true ∧ bt Z u = true := by
    rw [beq_iff_eq]
    constructor
    · rintro h ⟨u, hu, h1, h2⟩
      have := (andNot_zero (t := ~~~ Z)).1 h u (by have := ok.most; omega) h1
      rw [bt_not, h2] at this; simp at this
    · intro h
      refine (andNot_zero (t := ~~~ Z)).2 fun u hu h1 => ?_
      rw [bt_not]
      cases h2 : bt Z u
      · simp [hu]
      · exfalso
        have := hrow k hn u hu h1
        rw [bt_allW] at this
        exact h ⟨u, by simp at this; omega, h1, h2⟩
  by_cases h : ∃ u, u < N ∧ bt (nth (nth M.rel q) k) u = true ∧ bt Z u = true
  · have : (nth (nth M.rel q) k &&& ~~~ ~~~ Z == 0#64) = false := by
      cases hc : (nth (nth M.rel q) k &&& ~~~ ~~~ Z == 0#64)
      · rfl
      · exact absurd h (e.1 hc)
    rw [this]
    simp [hk, hn, h]
  · rw [e.2 h]
    simp [hk, hn, h]
theorem box_iff {Z : BitVec 64} {k : Nat} (hn : k < N) : bt (relBox (nth M.rel q) Z) k = true ↔ ∀ u, u < N → bt (nth (nth M.rel q) k) u = true → bt Z u = true := by
  obtain ⟨hl, hrow⟩ := row_in ok hq
  have hk : k < 64 := by have := ok.most; omega
  rw [box_sub ok hq hk hn]
  constructor
  · exact fun h u hu h1 => h u (by have := ok.most; omega) h1
  · intro h u hu h1
    have := hrow k hn u hu h1
    rw [bt_allW] at this
    exact h u (by simp at this; omega) h1
end
/-- A model and a quotient of it that respects some formulas about knowledge. -/
structure FilOk (M Q : Mo) (N K : Nat) (cls : Nat → Nat) (T : Fm → Prop) : Prop where
  okM : MoOk M N
  okQ : MoOk Q K
  ag : Q.rel.length = M.rel.length
  fa : Q.val.length = M.val.length
  lt : ∀ w, w < N → cls w < K
  onto : ∀ c, c < K → ∃ w, w < N ∧ cls w = c
  sub : ∀ t c, T t → kid c t → T c
  fk : ∀ t, T t → fok t ∧ t.op ≤ 10
  fact : ∀ i : Nat, i < M.val.length → T (.leaf 3 (i : Int) 0 0) → ∀ w, w < N → bt (nth M.val i) w = bt (nth Q.val i) (cls w)
  fwd : ∀ a, a < M.rel.length → ∀ w u, w < N → u < N → bt (nth (nth M.rel a) w) u = true → bt (nth (nth Q.rel a) (cls w)) (cls u) = true
  know : ∀ (a : Nat) (x : Fm), a < M.rel.length → T (.un 9 (a : Int) 0 0 x) → (semT M x).2 = true → ∀ w u, w < N → u < N → bt (nth (nth Q.rel a) (cls w)) (cls u) = true → bt (semT M (.un 9 (a : Int) 0 0 x)).1 w = true → bt (semT M x).1 u = true
  poss : ∀ (a : Nat) (x : Fm), a < M.rel.length → T (.un 10 (a : Int) 0 0 x) → (semT M x).2 = true → ∀ w u, w < N → u < N → bt (nth (nth Q.rel a) (cls w)) (cls u) = true → bt (semT M x).1 u = true → bt (semT M (.un 10 (a : Int) 0 0 x)).1 w = true
theorem fok_leaf {o i e g : Int} (h : fok (.leaf o i e g)) (ho : o ≤ 10) : (o = 1 ∨ o = 2) ∨ (o = 3 ∧ 0 ≤ i ∧ e = 0 ∧ g = 0) := by
  obtain ⟨h1, h2, h3, h4⟩ := h
  have := useOf_cases o h1
  rcases (show o = 1 ∨ o = 2 ∨ o = 3 ∨ o = 4 ∨ o = 5 ∨ o = 6 ∨ o = 7 ∨ o = 8 ∨ o = 9 ∨ o = 10 by omega) with rfl | rfl | rfl | rfl | rfl | rfl | rfl | rfl | rfl | rfl <;> simp [useOf, needless, wide, outs] at h2 h3 h4 ⊢
  omega
theorem fok_un {o i e g : Int} {x : Fm} (h : fok (.un o i e g x)) (ho : o ≤ 10) : o = 4 ∨ ((o = 9 ∨ o = 10) ∧ 0 ≤ i ∧ e = 0 ∧ g = 0) := by
  obtain ⟨h1, h2, h2', h3, h4, -⟩ := h
  have := useOf_cases o h1
  rcases (show o = 1 ∨ o = 2 ∨ o = 3 ∨ o = 4 ∨ o = 5 ∨ o = 6 ∨ o = 7 ∨ o = 8 ∨ o = 9 ∨ o = 10 by omega) with rfl | rfl | rfl | rfl | rfl | rfl | rfl | rfl | rfl | rfl <;> simp [useOf, needless, wide, outs] at h2 h2' h3 h4 ⊢
  all_goals omega
theorem fok_bin {o i e g : Int} {x y : Fm} (h : fok (.bin o i e g x y)) (ho : o ≤ 10) : o = 5 ∨ o = 6 ∨ o = 7 ∨ o = 8 := by
  obtain ⟨h1, h2, -⟩ := h
  have := useOf_cases o h1
  rcases (show o = 1 ∨ o = 2 ∨ o = 3 ∨ o = 4 ∨ o = 5 ∨ o = 6 ∨ o = 7 ∨ o = 8 ∨ o = 9 ∨ o = 10 by omega) with rfl | rfl | rfl | rfl | rfl | rfl | rfl | rfl | rfl | rfl <;> simp [useOf] at h2 ⊢
theorem fil_lemma {M Q : Mo} {N K : Nat} {cls : Nat → Nat} {T : Fm → Prop} (h : FilOk M Q N K cls T) : ∀ t, T t → (semT M t).2 = true → (semT Q t).2 = true ∧ ∀ w, w < N → bt (semT M t).1 w = bt (semT Q t).1 (cls w)
  | .leaf o i e g, ht, hs => by
    obtain ⟨hf, ho⟩ := h.fk _ ht
    have hM : M.worlds.toNat = N := by rw [h.okM.worlds]; rfl
    have hQ : Q.worlds.toNat = K := by rw [h.okQ.worlds]; rfl
    rcases fok_leaf hf ho with (rfl | rfl) | ⟨rfl, hi, rfl, rfl⟩
    · refine ⟨by simp [semT, valN], fun w hw => ?_⟩
      have h1 := h.lt w hw
      have h2 := h.okM.most
      have h3 := h.okQ.most
      simp [semT, valN, hM, hQ, bt_allW, hw, h1, show w < 64 by omega, show cls w < 64 by omega]
    · refine ⟨by simp [semT, valN], fun w hw => by simp [semT, valN, bt_zero]⟩
    · obtain ⟨n, rfl⟩ := Int.eq_ofNat_of_zero_le hi
      by_cases hn : (M.val.length : Int) ≤ (n : Int)
      · simp [semT, valN, hn] at hs
      · have hn2 : ¬ ((Q.val.length : Int) ≤ (n : Int)) := by rw [h.fa]; exact hn
        refine ⟨by simp [semT, valN, hn2], fun w hw => ?_⟩
        simp only [semT, valN, hn, hn2, if_false, Int.toNat_natCast]
        simpa using h.fact n (by omega) ht w hw
  | .un o i e g x, ht, hs => by
    obtain ⟨hf, ho⟩ := h.fk _ ht
    have hM : M.worlds.toNat = N := by rw [h.okM.worlds]; rfl
    have hQ : Q.worlds.toNat = K := by rw [h.okQ.worlds]; rfl
    have hx : (semT M x).2 = true := by
      cases hc : (semT M x).2
      · simp [semT, hc] at hs
      · rfl
    obtain ⟨hx2, hxw⟩ := fil_lemma h x (h.sub _ _ ht rfl) hx
    rcases fok_un hf ho with rfl | ⟨hoo, hi, rfl, rfl⟩
    · refine ⟨by simp [semT, valN, hx2], fun w hw => ?_⟩
      have h1 := h.lt w hw
      have h2 := h.okM.most
      have h3 := h.okQ.most
      simp [semT, valN, hx, hx2, hM, hQ, bt_and, bt_not, bt_allW, hw, h1, show w < 64 by omega, show cls w < 64 by omega, hxw w hw]
    · obtain ⟨n, rfl⟩ := Int.eq_ofNat_of_zero_le hi
      have hn : ¬ ((M.rel.length : Int) ≤ (n : Int)) := by
        intro hn
        rcases hoo with rfl | rfl <;> simp [semT, valN, hx, hn] at hs
      have hn2 : ¬ ((Q.rel.length : Int) ≤ (n : Int)) := by rw [h.ag]; exact hn
      have hnM : n < M.rel.length := by omega
      have hnQ : n < Q.rel.length := by rw [h.ag]; omega
      rcases hoo with rfl | rfl
      · have eM : (semT M (.un 9 (n : Int) 0 0 x)).1 = relBox (nth M.rel n) (semT M x).1 := by simp [semT, valN, hx, hn]
        have eQ : (semT Q (.un 9 (n : Int) 0 0 x)).1 = relBox (nth Q.rel n) (semT Q x).1 := by simp [semT, valN, hx2, hn2]
        refine ⟨by simp [semT, valN, hx2, hn2], fun w hw => ?_⟩
        rw [Bool.eq_iff_iff]
        constructor
        · intro hk
          rw [eQ, box_iff h.okQ hnQ (h.lt w hw)]
          intro c hc hr
          obtain ⟨u, hu, rfl⟩ := h.onto c hc
          rw [← hxw u hu]
          exact h.know n x hnM ht hx w u hw hu hr hk
        · intro hk
          rw [eM, box_iff h.okM hnM hw]
          intro u hu hr
          rw [eQ, box_iff h.okQ hnQ (h.lt w hw)] at hk
          rw [hxw u hu]
          exact hk _ (h.lt u hu) (h.fwd n hnM w u hw hu hr)
      · have eM : (semT M (.un 10 (n : Int) 0 0 x)).1 = relDia (nth M.rel n) (semT M x).1 := by simp [semT, valN, hx, hn]
        have eQ : (semT Q (.un 10 (n : Int) 0 0 x)).1 = relDia (nth Q.rel n) (semT Q x).1 := by simp [semT, valN, hx2, hn2]
        refine ⟨by simp [semT, valN, hx2, hn2], fun w hw => ?_⟩
        rw [Bool.eq_iff_iff]
        constructor
        · intro hk
          rw [eM, dia_iff h.okM hnM hw] at hk
          obtain ⟨u, hu, hr, hb⟩ := hk
          rw [eQ, dia_iff h.okQ hnQ (h.lt w hw)]
          exact ⟨_, h.lt u hu, h.fwd n hnM w u hw hu hr, by rw [← hxw u hu]; exact hb⟩
        · intro hk
          rw [eQ, dia_iff h.okQ hnQ (h.lt w hw)] at hk
          obtain ⟨c, hc, hr, hb⟩ := hk
          obtain ⟨u, hu, rfl⟩ := h.onto c hc
          exact h.poss n x hnM ht hx w u hw hu hr (by rw [hxw u hu]; exact hb)
  | .bin o i e g x y, ht, hs => by
    obtain ⟨hf, ho⟩ := h.fk _ ht
    have hM : M.worlds.toNat = N := by rw [h.okM.worlds]; rfl
    have hQ : Q.worlds.toNat = K := by rw [h.okQ.worlds]; rfl
    have hxy : (semT M x).2 = true ∧ (semT M y).2 = true := by
      cases hc : (semT M x).2
      · simp [semT, hc] at hs
      · cases hd : (semT M y).2
        · simp [semT, hc, hd] at hs
        · exact ⟨rfl, rfl⟩
    obtain ⟨hx, hy⟩ := hxy
    obtain ⟨hx2, hxw⟩ := fil_lemma h x (h.sub _ _ ht (.inl rfl)) hx
    obtain ⟨hy2, hyw⟩ := fil_lemma h y (h.sub _ _ ht (.inr rfl)) hy
    have hlw : ∀ w, w < N → w < 64 ∧ cls w < 64 ∧ cls w < K := fun w hw => by
      have h1 := h.lt w hw
      have h2 := h.okM.most
      have h3 := h.okQ.most
      omega
    rcases fok_bin hf ho with rfl | rfl | rfl | rfl
    all_goals
      refine ⟨by simp [semT, valN, hx2, hy2], fun w hw => ?_⟩
      obtain ⟨h1, h2, h3⟩ := hlw w hw
      simp [semT, valN, hx, hx2, hy, hy2, hM, hQ, bt_and, bt_or, bt_xor, bt_not, bt_allW, hw, h1, h2, h3, hxw w hw, hyw w hw]
end Wt

/- Plain: a model seen through the subformulas of a formula about knowledge; the quotient's parts. -/
namespace Wt
open Go Go.RowKit Go.Proofs Fm

theorem nth_mapX {β : Type} [Inhabited β] (F : Nat → β) {n k : Nat} (h : k < n) : nth ((List.range n).map F) k = F k := by
  rw [nth_eq _ _ (by simpa using h)]; simp
theorem setTo_le (p : Nat → Bool) (n : Nat) : Sub (setTo p n) (allW n) := fun k hk h => by
  rw [bt_setTo p hk] at h
  rw [bt_allW]
  simp at h ⊢
  exact ⟨hk, h.1⟩
theorem sbt_kid {c s : Fm} : ∀ {r : Fm}, sbt s r → kid c s → sbt c r
  | .leaf .., h, hk => by rw [show s = _ from h] at hk; exact hk.elim
  | .un o i e g x, h, hk => by
    rcases h with rfl | h
    · rw [show c = x from hk]; exact .inr (sbt_refl x)
    · exact .inr (sbt_kid h hk)
  | .bin o i e g x y, h, hk => by
    rcases h with rfl | h | h
    · rcases hk with rfl | rfl
      · exact .inr (.inl (sbt_refl _))
      · exact .inr (.inr (sbt_refl _))
    · exact .inr (.inl (sbt_kid h hk))
    · exact .inr (.inr (sbt_kid h hk))
section
variable {t s : Fm}
theorem sbt_at (ht : fok t) (h : sbt s t) : ∃ k, k < (canon t).length ∧ trAt (canon t) k = s := by
  obtain ⟨h1, h2, h3⟩ := addT_ok t ht
  obtain ⟨k, hk, e⟩ := List.getElem_of_mem (sbt_mem h)
  refine ⟨k, by rw [canon_length]; exact hk, ?_⟩
  show trAt (encL (addT t [])) k = s
  rw [trAt_encL h1 h2 h3 (k + 1) k hk (Nat.lt_succ_self k), e]
theorem at_sbt (ht : fok t) {k : Nat} (hk : k < (canon t).length) : sbt (trAt (canon t) k) t := by
  obtain ⟨h1, h2, h3⟩ := addT_ok t ht
  rw [canon_length] at hk
  have e : trAt (canon t) k = (addT t [])[k]'hk := trAt_encL h1 h2 h3 (k + 1) k hk (Nat.lt_succ_self k)
  rw [e]
  rcases (mem_addT t []).1 (List.getElem_mem hk) with h | h
  · simp at h
  · exact h
theorem sbt_fok (ht : fok t) (h : sbt s t) : fok s := (addT_ok t ht).2.2 s (sbt_mem h)
end
theorem flag_sub {M : Mo} {s : Fm} : ∀ {t : Fm}, (semT M t).2 = true → sbt s t → (semT M s).2 = true
  | .leaf .., h, hs => by rw [show s = _ from hs]; exact h
  | .un o i e g x, h, hs => by
    rcases hs with rfl | hs
    · exact h
    · refine flag_sub (t := x) ?_ hs
      cases hc : (semT M x).2
      · simp [semT, hc] at h
      · rfl
  | .bin o i e g x y, h, hs => by
    have hx : (semT M x).2 = true := by
      cases hc : (semT M x).2
      · simp [semT, hc] at h
      · rfl
    have hy : (semT M y).2 = true := by
      cases hc : (semT M y).2
      · simp [semT, hc] at h
      · rfl
    rcases hs with rfl | hs | hs
    · exact h
    · exact flag_sub hx hs
    · exact flag_sub hy hs
theorem trAt_op (l : List Nd) (k : Nat) : (trAt l k).op = (nth l k).op := by
  unfold trAt tr
  split
  · split <;> rfl
  · rfl
/-- The sets of the subformulas. -/
def subL (M : Mo) (t : Fm) : List (BitVec 64) := (List.range (canon t).length).map fun k => (semT M (trAt (canon t) k)).1
theorem subL_len (M : Mo) (t : Fm) : (subL M t).length = (canon t).length := by simp [subL]
theorem subL_nth (M : Mo) (t : Fm) {k : Nat} (hk : k < (canon t).length) : nth (subL M t) k = (semT M (trAt (canon t) k)).1 := by
  unfold subL; rw [nth_mapX _ hk]
theorem agr_sem {M : Mo} {t s : Fm} (ht : fok t) (hs : sbt s t) {v w : Nat} (h : agr (subL M t) v w = true) : bt (semT M s).1 v = bt (semT M s).1 w := by
  obtain ⟨k, hk, rfl⟩ := sbt_at ht hs
  refine agr_iff.1 h _ ?_
  rw [← subL_nth M t hk]
  exact nth_mem (by rw [subL_len]; exact hk)
/-- A right model and a formula about knowledge that fits it. -/
structure Vw (M : Mo) (t : Fm) (N : Nat) : Prop where
  ok : MoOk M N
  fk : fok t
  sz : fsize t ≤ 200
  fl : (semT M t).2 = true
  op : ∀ s, sbt s t → s.op ≤ 10
theorem useOf_know {o : Int} (h : (useOf o).2 = true) (h2 : (useOf o).1.frag.toNat < 2) : o ≤ 10 := by
  rcases useOf_cases o h with rfl | rfl | rfl | rfl | rfl | rfl | rfl | rfl | rfl | rfl | rfl | rfl | rfl | rfl | rfl | rfl | rfl | rfl | rfl | rfl | rfl <;> first | decide | (exfalso; revert h2; decide)
theorem ops_know {f : List Nd} (hf : fCheck f = 0) (hk : fFrags f < 2) {s : Fm} (hs : sbt s (rt f)) : s.op ≤ 10 := by
  have hF := IsF.of hf
  obtain ⟨k, hkl, rfl⟩ := sbt_at hF.fk hs
  rw [trAt_op]
  have hn : nth (canon (rt f)) k ∈ fCompact f := by rw [hF.compact]; exact nth_mem hkl
  have h1 := (fCompact_ok f).1 _ hn
  have h2 : fragN (nth (canon (rt f)) k) < 2 ^ 1 := (unionL_lt_iff 1 fragN (fCompact f)).1 hk _ hn
  exact useOf_know h1.op h2
theorem fact_bit {f : List Nd} (hf : fCheck f = 0) {i : Nat} (hi : i < 8) (hs : sbt (.leaf 3 (i : Int) 0 0) (rt f)) : (fFacts f).testBit i = true := by
  have hF := IsF.of hf
  obtain ⟨k, hkl, e⟩ := sbt_at hF.fk hs
  have hn : nth (canon (rt f)) k ∈ fCompact f := by rw [hF.compact]; exact nth_mem hkl
  refine (unionL_bit factN i _).2 ⟨_, hn, ?_⟩
  have ho : (nth (canon (rt f)) k).op = 3 := by rw [← trAt_op, e]; rfl
  have hix : (nth (canon (rt f)) k).i = (i : Int) := by
    have hx : (useOf (nth (canon (rt f)) k).op).1.x = false := by rw [ho]; rfl
    rw [trAt_leaf hkl hx] at e
    injection e
  unfold factN
  rw [ho, hix]
  have : (useOf 3).1.fact = true := rfl
  rw [if_pos this, Int.toNat_natCast, Nat.mod_eq_of_lt (by omega), Nat.testBit_two_pow_self]
theorem vw_of {M : Mo} {f : List Nd} (hM : moCheck M = 0) (hf : fCheck f = 0) (hk : fFrags f < 2) (hr : reqErr M f = 0) : ∃ N, Vw M (rt f) N := by
  obtain ⟨N, ok⟩ := moCheck_ok hM
  have hF := IsF.of hf
  refine ⟨N, ok, hF.fk, ?_, ?_, fun s hs => ops_know hf hk hs⟩
  · have := hF.sz
    have h2 := (fCheck_ok.1 hf).2.1
    omega
  · have h := (set_sem hM hF).1
    rw [hr] at h
    exact h.symm
/-! The quotient. -/
/-- The facts of the classes: those that the formula does not use are false. -/
def filV (M : Mo) (facts : Nat) (reps : List Nat) : List (BitVec 64) := (List.range M.val.length).map fun p => setTo (fun c => facts.testBit p && bt (nth M.val p) (nth reps c)) reps.length
def filR (A : Nat) (reps : List Nat) (R : Nat → Nat → Nat → Bool) : List (List (BitVec 64)) := (List.range A).map fun a => reps.map fun w => setTo (fun d => R a w (nth reps d)) reps.length
def filM (M : Mo) (facts : Nat) (reps : List Nat) (R : Nat → Nat → Nat → Bool) : Mo := ⟨reps.length, filV M facts reps, filR M.rel.length reps R⟩
section
variable {M : Mo} {facts N : Nat} {reps : List Nat} {R : Nat → Nat → Nat → Bool}
theorem filM_val (h64 : reps.length ≤ 64) {p c : Nat} (hp : p < M.val.length) (hc : c < reps.length) : bt (nth (filM M facts reps R).val p) c = (facts.testBit p && bt (nth M.val p) (nth reps c)) := by
  show bt (nth (filV M facts reps) p) c = _
  unfold filV
  rw [nth_mapX _ hp, bt_setTo _ (by omega)]
  simp [hc]
theorem filM_rel (h64 : reps.length ≤ 64) {a c d : Nat} (ha : a < M.rel.length) (hc : c < reps.length) (hd : d < reps.length) : bt (nth (nth (filM M facts reps R).rel a) c) d = R a (nth reps c) (nth reps d) := by
  show bt (nth (nth (filR M.rel.length reps R) a) c) d = _
  unfold filR
  rw [nth_mapX _ ha, nth_mapN _ _ hc, bt_setTo _ (by omega)]
  simp [hd]
theorem filM_ok (ok : MoOk M N) (h1 : 1 ≤ reps.length) (h64 : reps.length ≤ 64) : MoOk (filM M facts reps R) reps.length := by
  refine ⟨rfl, h1, h64, ?_, ?_, ?_, ?_, ?_⟩
  · show (filR M.rel.length reps R).length ≤ 4
    simp [filR]; exact ok.rel
  · show (filV M facts reps).length ≤ 8
    simp [filV]; exact ok.val
  · intro r hr
    obtain ⟨a, -, rfl⟩ := List.mem_map.1 (show r ∈ filR M.rel.length reps R from hr)
    simp
  · intro s hs
    obtain ⟨p, -, rfl⟩ := List.mem_map.1 (show s ∈ filV M facts reps from hs)
    exact andNot_zero.2 (setTo_le _ _)
  · intro r hr s hs
    obtain ⟨a, -, rfl⟩ := List.mem_map.1 (show r ∈ filR M.rel.length reps R from hr)
    obtain ⟨w, -, rfl⟩ := List.mem_map.1 hs
    exact andNot_zero.2 (setTo_le _ _)
end
theorem repL_pos (L : List (BitVec 64)) {N : Nat} (h : 1 ≤ N) : 1 ≤ (repL L N).length := by
  have : 0 ∈ repL L N := repL_mem.2 ⟨by omega, Nat.le_zero.1 (lowOf_le L 0)⟩
  exact List.length_pos_of_mem this
/-- What makes a relation between lowest worlds a filtration. -/
structure FilR (M : Mo) (t : Fm) (N : Nat) (R : Nat → Nat → Nat → Bool) : Prop where
  fwd : ∀ a, a < M.rel.length → ∀ w u, w < N → u < N → bt (nth (nth M.rel a) w) u = true → R a (lowOf (subL M t) w) (lowOf (subL M t) u) = true
  know : ∀ (a : Nat) (x : Fm), a < M.rel.length → sbt (.un 9 (a : Int) 0 0 x) t → ∀ w u, w < N → u < N → R a (lowOf (subL M t) w) (lowOf (subL M t) u) = true → bt (semT M (.un 9 (a : Int) 0 0 x)).1 w = true → bt (semT M x).1 u = true
  poss : ∀ (a : Nat) (x : Fm), a < M.rel.length → sbt (.un 10 (a : Int) 0 0 x) t → ∀ w u, w < N → u < N → R a (lowOf (subL M t) w) (lowOf (subL M t) u) = true → bt (semT M x).1 u = true → bt (semT M (.un 10 (a : Int) 0 0 x)).1 w = true
/-- A filtration respects all subformulas. -/
theorem fil_ok {M : Mo} {f : List Nd} {N : Nat} {R : Nat → Nat → Nat → Bool} (hf : fCheck f = 0) (v : Vw M (rt f) N) (h : FilR M (rt f) N R) :
    FilOk M (filM M (fFacts f) (repL (subL M (rt f)) N) R) N (repL (subL M (rt f)) N).length (clsOf (subL M (rt f)) N) (fun s => sbt s (rt f)) := by
  have hl : (repL (subL M (rt f)) N).length ≤ 64 := Nat.le_trans (repL_len _ _) v.ok.most
  have hR : ∀ a, a < M.rel.length → ∀ w u, w < N → u < N → bt (nth (nth (filM M (fFacts f) (repL (subL M (rt f)) N) R).rel a) (clsOf (subL M (rt f)) N w)) (clsOf (subL M (rt f)) N u) = R a (lowOf (subL M (rt f)) w) (lowOf (subL M (rt f)) u) := fun a ha w u hw hu => by
    rw [filM_rel hl ha (clsOf_lt _ hw) (clsOf_lt _ hu), clsOf_nth _ hw, clsOf_nth _ hu]
  refine ⟨v.ok, filM_ok v.ok (repL_pos _ v.ok.one) hl, by simp [filM, filR], by simp [filM, filV], fun w hw => clsOf_lt _ hw, fun c hc => ⟨_, rep_lt hc, clsOf_rep hc⟩, fun t c ht hk => sbt_kid ht hk, fun t ht => ⟨sbt_fok v.fk ht, v.op t ht⟩, ?_, ?_, ?_, ?_⟩
  · intro i hi ht w hw
    have hv := v.ok.val
    rw [filM_val hl hi (clsOf_lt _ hw), fact_bit hf (by omega) ht, clsOf_nth _ hw, Bool.true_and]
    have e : (semT M (.leaf 3 (i : Int) 0 0)).1 = nth M.val i := by
      have : ¬ ((M.val.length : Int) ≤ (i : Int)) := by omega
      simp [semT, valN, this]
    rw [← e]
    exact agr_sem v.fk ht (agr_symm (lowOf_agr _ w))
  · intro a ha w u hw hu hb
    rw [hR a ha w u hw hu]; exact h.fwd a ha w u hw hu hb
  · intro a x ha ht _ w u hw hu hb hk
    rw [hR a ha w u hw hu] at hb
    exact h.know a x ha ht w u hw hu hb hk
  · intro a x ha ht _ w u hw hu hb hx
    rw [hR a ha w u hw hu] at hb
    exact h.poss a x ha ht w u hw hu hb hx
/-- What the law looks for: the sets of the subformulas on both sides. -/
theorem keeps_law {M : Mo} {f : List Nd} {N : Nat} {R : Nat → Nat → Nat → Bool} (hf : fCheck f = 0) (v : Vw M (rt f) N) (h : FilR M (rt f) N R) {k w : Nat} (hk : k < (canon (rt f)).length) (hw : w < N) :
    bt (nth (subL M (rt f)) k) w = bt (nth (subL (filM M (fFacts f) (repL (subL M (rt f)) N) R) (rt f)) k) (clsOf (subL M (rt f)) N w) ∧ clsOf (subL M (rt f)) N w < (repL (subL M (rt f)) N).length := by
  rw [subL_nth _ _ hk, subL_nth _ _ hk]
  exact ⟨(fil_lemma (fil_ok hf v h) _ (at_sbt v.fk hk) (flag_sub v.fl (at_sbt v.fk hk))).2 w hw, clsOf_lt _ hw⟩
theorem keeps_flag {M : Mo} {f : List Nd} {N : Nat} {R : Nat → Nat → Nat → Bool} (hf : fCheck f = 0) (v : Vw M (rt f) N) (h : FilR M (rt f) N R) : (semT (filM M (fFacts f) (repL (subL M (rt f)) N) R) (rt f)).2 = true :=
  (fil_lemma (fil_ok hf v h) _ (sbt_refl _) v.fl).1
end Wt

/- Plain: the smallest, the largest and the transitive filtration. -/
namespace Wt
open Go Go.RowKit Go.Proofs Fm

/-- Some world of the one class has a successor in the other. -/
def relS (M : Mo) (L : List (BitVec 64)) (N a x y : Nat) : Bool := (List.range N).any fun w => (List.range N).any fun u => lowOf L w == x && lowOf L u == y && bt (nth (nth M.rel a) w) u
theorem relS_iff {M : Mo} {L : List (BitVec 64)} {N a x y : Nat} : relS M L N a x y = true ↔ ∃ w u, w < N ∧ u < N ∧ lowOf L w = x ∧ lowOf L u = y ∧ bt (nth (nth M.rel a) w) u = true := by
  unfold relS
  simp only [List.any_eq_true, List.mem_range, Bool.and_eq_true, beq_iff_eq]
  constructor
  · rintro ⟨w, hw, u, hu, ⟨h1, h2⟩, h3⟩; exact ⟨w, u, hw, hu, h1, h2, h3⟩
  · rintro ⟨w, u, hw, hu, h1, h2, h3⟩; exact ⟨w, hw, u, hu, ⟨h1, h2⟩, h3⟩
/-- Does a node permit a step? -/
def perN (L : List (BitVec 64)) (n : Nd) (i a x y : Nat) (keep : Bool) : Bool :=
  !(n.i == (a : Int)) || (!(n.op == 9 && (bt (nth L i) x && (!bt (nth L n.x.toNat) y || (keep && !bt (nth L i) y)))) && !(n.op == 10 && (!bt (nth L i) x && (bt (nth L n.x.toNat) y || (keep && bt (nth L i) y)))))
def permL (L : List (BitVec 64)) (c : List Nd) (keep : Bool) (a x y : Nat) : Bool := (List.range c.length).all fun i => perN L (nth c i) i a x y keep
/-- A node of the canonical list about what an agent knows. -/
theorem node_box {t x : Fm} {o : Int} (ho : o = 9 ∨ o = 10) {a : Nat} (ht : fok t) (h : sbt (.un o (a : Int) 0 0 x) t) : ∃ k, k < (canon t).length ∧ (nth (canon t) k).op = o ∧ (nth (canon t) k).i = (a : Int) ∧ (nth (canon t) k).x.toNat < (canon t).length ∧ trAt (canon t) (nth (canon t) k).x.toNat = x ∧ trAt (canon t) k = .un o (a : Int) 0 0 x := by
  obtain ⟨k, hk, e⟩ := sbt_at ht h
  have hw := canon_wf t ht
  have hop : (nth (canon t) k).op = o := by rw [← trAt_op, e]; rfl
  have hx : (useOf (nth (canon t) k).op).1.x = true := by rw [hop]; rcases ho with rfl | rfl <;> rfl
  have hy : (useOf (nth (canon t) k).op).1.y = false := by rw [hop]; rcases ho with rfl | rfl <;> rfl
  have h2 := trAt_un hw hk hx hy
  rw [e] at h2
  injection h2 with e1 e2 e3 e4 e5
  obtain ⟨h0, h1⟩ := hw.x_lt hk hx
  exact ⟨k, hk, hop, e2.symm, by omega, e5.symm, e⟩
/-- And back: what such a node is. -/
theorem node_un {t : Fm} (ht : fok t) {k : Nat} (hk : k < (canon t).length) (ho : (nth (canon t) k).op = 9 ∨ (nth (canon t) k).op = 10) : (nth (canon t) k).x.toNat < (canon t).length ∧ trAt (canon t) k = .un (nth (canon t) k).op (nth (canon t) k).i 0 0 (trAt (canon t) (nth (canon t) k).x.toNat) ∧ 0 ≤ (nth (canon t) k).i := by
  have hw := canon_wf t ht
  have hx : (useOf (nth (canon t) k).op).1.x = true := by rcases ho with h | h <;> rw [h] <;> rfl
  have hy : (useOf (nth (canon t) k).op).1.y = false := by rcases ho with h | h <;> rw [h] <;> rfl
  obtain ⟨h0, h1⟩ := hw.x_lt hk hx
  have e := trAt_un hw hk hx hy
  have hs := sbt_fok ht (at_sbt ht hk)
  rw [e] at hs
  rcases fok_un hs (by show (nth (canon t) k).op ≤ 10; omega) with h | ⟨-, h2, h3, h4⟩
  · omega
  · exact ⟨by omega, by rw [e, h3, h4], h2⟩
section
variable {M : Mo} {t : Fm} {N : Nat} (v : Vw M t N)
include v
theorem Vw.know {a : Nat} (ha : a < M.rel.length) {x : Fm} (hs : sbt (.un 9 (a : Int) 0 0 x) t) {w : Nat} (hw : w < N) : bt (semT M (.un 9 (a : Int) 0 0 x)).1 w = true ↔ ∀ u, u < N → bt (nth (nth M.rel a) w) u = true → bt (semT M x).1 u = true := by
  have hx := flag_sub v.fl (sbt_kid hs (rfl : Fm.kid x (.un 9 (a : Int) 0 0 x)))
  have hn : ¬ ((M.rel.length : Int) ≤ (a : Int)) := by omega
  have e : (semT M (.un 9 (a : Int) 0 0 x)).1 = relBox (nth M.rel a) (semT M x).1 := by simp [semT, valN, hx, hn]
  rw [e]; exact box_iff v.ok ha hw
theorem Vw.poss {a : Nat} (ha : a < M.rel.length) {x : Fm} (hs : sbt (.un 10 (a : Int) 0 0 x) t) {w : Nat} (hw : w < N) : bt (semT M (.un 10 (a : Int) 0 0 x)).1 w = true ↔ ∃ u, u < N ∧ bt (nth (nth M.rel a) w) u = true ∧ bt (semT M x).1 u = true := by
  have hx := flag_sub v.fl (sbt_kid hs (rfl : Fm.kid x (.un 10 (a : Int) 0 0 x)))
  have hn : ¬ ((M.rel.length : Int) ≤ (a : Int)) := by omega
  have e : (semT M (.un 10 (a : Int) 0 0 x)).1 = relDia (nth M.rel a) (semT M x).1 := by simp [semT, valN, hx, hn]
  rw [e]; exact dia_iff v.ok ha hw
theorem Vw.low {s : Fm} (hs : sbt s t) (w : Nat) : bt (semT M s).1 (lowOf (subL M t) w) = bt (semT M s).1 w := agr_sem v.fk hs (lowOf_agr _ w)
/-- The smallest one. -/
theorem filS : FilR M t N (relS M (subL M t) N) := by
  refine ⟨fun a _ w u hw hu hb => relS_iff.2 ⟨w, u, hw, hu, rfl, rfl, hb⟩, fun a x ha hs w u hw hu hR hk => ?_, fun a x ha hs w u hw hu hR hx => ?_⟩
  · obtain ⟨p, q, hp, hq, h1, h2, hb⟩ := relS_iff.1 hR
    have hx := sbt_kid hs (rfl : Fm.kid x (.un 9 (a : Int) 0 0 x))
    have hp' : bt (semT M (.un 9 (a : Int) 0 0 x)).1 p = true := by rw [agr_sem v.fk hs (lowOf_iff.1 h1)]; exact hk
    have := (v.know ha hs hp).1 hp' q hq hb
    rw [agr_sem v.fk hx (lowOf_iff.1 h2)] at this
    exact this
  · obtain ⟨p, q, hp, hq, h1, h2, hb⟩ := relS_iff.1 hR
    have hxs := sbt_kid hs (rfl : Fm.kid x (.un 10 (a : Int) 0 0 x))
    have hq' : bt (semT M x).1 q = true := by rw [agr_sem v.fk hxs (lowOf_iff.1 h2)]; exact hx
    have := (v.poss ha hs hp).2 ⟨q, hq, hb, hq'⟩
    rw [agr_sem v.fk hs (lowOf_iff.1 h1)] at this
    exact this
/-- A relation is transitive. -/
def TransR (M : Mo) (N a : Nat) : Prop := ∀ w u z, w < N → u < N → z < N → bt (nth (nth M.rel a) w) u = true → bt (nth (nth M.rel a) u) z = true → bt (nth (nth M.rel a) w) z = true
omit v in
theorem permL_iff {L : List (BitVec 64)} {c : List Nd} {keep : Bool} {a x y : Nat} : permL L c keep a x y = true ↔ ∀ k, k < c.length → (nth c k).i = (a : Int) → ((nth c k).op = 9 → bt (nth L k) x = true → bt (nth L (nth c k).x.toNat) y = true ∧ (keep = true → bt (nth L k) y = true)) ∧ ((nth c k).op = 10 → (bt (nth L (nth c k).x.toNat) y = true ∨ (keep = true ∧ bt (nth L k) y = true)) → bt (nth L k) x = true) := by
  unfold permL
  simp only [List.all_eq_true, List.mem_range]
  have hh : ∀ k, perN L (nth c k) k a x y keep = true ↔ ((nth c k).i = (a : Int) → ((nth c k).op = 9 → bt (nth L k) x = true → bt (nth L (nth c k).x.toNat) y = true ∧ (keep = true → bt (nth L k) y = true)) ∧ ((nth c k).op = 10 → (bt (nth L (nth c k).x.toNat) y = true ∨ (keep = true ∧ bt (nth L k) y = true)) → bt (nth L k) x = true)) := by
    intro k
    unfold perN
    by_cases h1 : (nth c k).i = (a : Int)
    · by_cases h2 : (nth c k).op = 9
      · have h3 : ¬ (nth c k).op = 10 := by omega
        cases keep <;> cases bt (nth L k) x <;> cases bt (nth L (nth c k).x.toNat) y <;> cases bt (nth L k) y <;> simp [h1, h2]
      · by_cases h3 : (nth c k).op = 10
        · cases keep <;> cases bt (nth L k) x <;> cases bt (nth L (nth c k).x.toNat) y <;> cases bt (nth L k) y <;> simp [h1, h3]
        · simp [h1, h2, h3]
    · simp [h1]
  exact ⟨fun h k hk => (hh k).1 (h k hk), fun h k hk => (hh k).2 (h k hk)⟩
/-- The largest one, and the transitive one of a transitive model. -/
theorem filP (keep : Bool) (htr : keep = true → ∀ a, a < M.rel.length → TransR M N a) : FilR M t N (permL (subL M t) (canon t) keep) := by
  refine ⟨fun a ha w u hw hu hb => permL_iff.2 fun k hk hi => ⟨fun ho hkn => ?_, fun ho hor => ?_⟩, fun a x ha hs w u hw hu hR hk => ?_, fun a x ha hs w u hw hu hR hx => ?_⟩
  · obtain ⟨hxl, e, -⟩ := node_un v.fk hk (.inl ho)
    rw [ho, hi] at e
    have hs := at_sbt v.fk hk
    have hxs := at_sbt v.fk hxl
    rw [e] at hs
    rw [subL_nth _ _ hk, e, v.low hs] at hkn
    have h1 := (v.know ha hs hw).1 hkn
    refine ⟨?_, fun hkeep => ?_⟩
    · rw [subL_nth _ _ hxl, v.low hxs]; exact h1 u hu hb
    · rw [subL_nth _ _ hk, e, v.low hs]
      exact (v.know ha hs hu).2 fun z hz hb2 => h1 z hz (htr hkeep a ha w u z hw hu hz hb hb2)
  · obtain ⟨hxl, e, -⟩ := node_un v.fk hk (.inr ho)
    rw [ho, hi] at e
    have hs := at_sbt v.fk hk
    have hxs := at_sbt v.fk hxl
    rw [e] at hs
    rw [subL_nth _ _ hk, e, v.low hs, v.poss ha hs hw]
    rcases hor with h | ⟨hkeep, h⟩
    · rw [subL_nth _ _ hxl, v.low hxs] at h
      exact ⟨u, hu, hb, h⟩
    · rw [subL_nth _ _ hk, e, v.low hs, v.poss ha hs hu] at h
      obtain ⟨z, hz, hb2, h⟩ := h
      exact ⟨z, hz, htr hkeep a ha w u z hw hu hz hb hb2, h⟩
  · obtain ⟨k, hkl, ho, hi, hxl, ex, e⟩ := node_box (.inl rfl) v.fk hs
    have h := ((permL_iff.1 hR k hkl hi).1 ho (by rw [subL_nth _ _ hkl, e, v.low hs]; exact hk)).1
    rw [subL_nth _ _ hxl, ex, v.low (sbt_kid hs rfl)] at h
    exact h
  · obtain ⟨k, hkl, ho, hi, hxl, ex, e⟩ := node_box (.inr rfl) v.fk hs
    have h := (permL_iff.1 hR k hkl hi).2 ho (.inl (by rw [subL_nth _ _ hxl, ex, v.low (sbt_kid hs rfl)]; exact hx))
    rw [subL_nth _ _ hkl, e, v.low hs] at h
    exact h
end
/-- The transitive one is transitive. -/
theorem perm_trans {L : List (BitVec 64)} {c : List Nd} {a x y z : Nat} (h1 : permL L c true a x y = true) (h2 : permL L c true a y z = true) : permL L c true a x z = true := by
  rw [permL_iff] at h1 h2 ⊢
  intro k hk hi
  obtain ⟨a1, a2⟩ := h1 k hk hi
  obtain ⟨b1, b2⟩ := h2 k hk hi
  refine ⟨fun ho hx => ?_, fun ho hor => ?_⟩
  · exact b1 ho ((a1 ho hx).2 rfl)
  · exact a2 ho (.inr ⟨rfl, b2 ho hor⟩)
theorem perm_mono {L : List (BitVec 64)} {c : List Nd} {a x y : Nat} (h : permL L c true a x y = true) : permL L c false a x y = true := by
  rw [permL_iff] at h ⊢
  intro k hk hi
  obtain ⟨a1, a2⟩ := h k hk hi
  exact ⟨fun ho hx => ⟨(a1 ho hx).1, fun h => by cases h⟩, fun ho hor => a2 ho (by rcases hor with h | ⟨h, _⟩; exact .inl h; cases h)⟩
/-- The smallest one is contained in every other. -/
theorem relS_le {M : Mo} {t : Fm} {N : Nat} {R : Nat → Nat → Nat → Bool} (h : FilR M t N R) {a x y : Nat} (ha : a < M.rel.length) (hS : relS M (subL M t) N a x y = true) : R a x y = true := by
  obtain ⟨w, u, hw, hu, rfl, rfl, hb⟩ := relS_iff.1 hS
  exact h.fwd a ha w u hw hu hb
end Wt

/- Plain: properties that filtrations keep; how many classes there are, and their numbers. -/
namespace Wt
open Go Go.RowKit Go.Proofs Fm

/-! Properties of relations, as package relation decides them. -/
def serB (r : List (BitVec 64)) : Bool := r.all fun s => s != 0#64
def refB (r : List (BitVec 64)) : Bool := (List.range r.length).all fun w => bt (nth r w) w
def revL (r : List (BitVec 64)) : List (BitVec 64) := (List.range r.length).map fun v => setTo (fun w => bt (nth r w) v) r.length
def traB (r : List (BitVec 64)) : Bool := (List.range r.length).all fun w => (List.range r.length).all fun u => !bt (nth r w) u || nth r u &&& ~~~ nth r w == 0#64
def eucB (r : List (BitVec 64)) : Bool := (List.range r.length).all fun w => (List.range r.length).all fun u => !bt (nth r w) u || nth r w &&& ~~~ nth r u == 0#64
def hasB (r : List (BitVec 64)) (p : Int) : Bool := relCheck r == 0 && (if p = 1 then serB r else if p = 2 then refB r else if p = 3 then decide (r = revL r) else if p = 4 then traB r else if p = 5 then eucB r else false)
section
variable {r : List (BitVec 64)} {N : Nat} (hl : r.length = N) (h64 : N ≤ 64) (hin : ∀ w, w < N → Sub (nth r w) (allW N))
include hl h64 hin
omit h64 in
theorem serB_iff : serB r = true ↔ ∀ w, w < N → ∃ u, u < N ∧ bt (nth r w) u = true := by
  unfold serB
  rw [List.all_eq_true]
  constructor
  · intro h w hw
    have h1 := h (nth r w) (nth_mem (by omega))
    have h2 : nth r w ≠ 0#64 := by simpa using h1
    have h3 : ¬ Sub (nth r w) 0#64 := fun hs => h2 (by
      refine bt_ext fun k hk => ?_
      rw [bt_zero]
      cases hc : bt (nth r w) k
      · rfl
      · have := hs k hk hc; rw [bt_zero] at this; cases this)
    by_cases hex : ∃ u, u < N ∧ bt (nth r w) u = true
    · exact hex
    · exfalso
      refine h3 fun k hk hb => ?_
      have := hin w hw k hk hb
      rw [bt_allW] at this
      exact absurd ⟨k, by simp at this; omega, hb⟩ hex
  · intro h s hs
    obtain ⟨w, hw, rfl⟩ := List.getElem_of_mem hs
    obtain ⟨u, hu, hb⟩ := h w (by omega)
    rw [nth_eq _ _ hw] at hb
    have : r[w] ≠ 0#64 := fun e => by rw [e, bt_zero] at hb; cases hb
    simpa using this
omit h64 hin in
theorem refB_iff : refB r = true ↔ ∀ w, w < N → bt (nth r w) w = true := by
  unfold refB
  simp only [List.all_eq_true, List.mem_range, hl]
theorem revL_iff : r = revL r ↔ ∀ w u, w < N → u < N → (bt (nth r w) u = true ↔ bt (nth r u) w = true) := by
  have hb : ∀ v u, v < N → u < N → bt (nth (revL r) v) u = bt (nth r u) v := fun v u hv hu => by
    unfold revL
    rw [nth_mapX _ (by omega), bt_setTo _ (by omega), hl]
    simp [hu]
  constructor
  · intro e w u hw hu
    have := hb w u hw hu
    rw [← e] at this
    rw [this]
  · intro h
    refine nth_ext (by simp [revL]) fun w hw => ?_
    refine bt_ext fun k hk => ?_
    by_cases hkN : k < N
    · rw [hb w k (by omega) hkN, Bool.eq_iff_iff]
      exact h w k (by omega) hkN
    · have h1 : bt (nth r w) k = false := by
        cases hc : bt (nth r w) k
        · rfl
        · have := hin w (by omega) k hk hc
          rw [bt_allW] at this; simp [hkN] at this
      have h2 : bt (nth (revL r) w) k = false := by
        unfold revL
        rw [nth_mapX _ (by omega), bt_setTo _ hk, hl]; simp [hkN]
      rw [h1, h2]
theorem traB_iff : traB r = true ↔ ∀ w u z, w < N → u < N → z < N → bt (nth r w) u = true → bt (nth r u) z = true → bt (nth r w) z = true := by
  unfold traB
  simp only [List.all_eq_true, List.mem_range, hl]
  constructor
  · intro h w u z hw hu hz h1 h2
    have := h w hw u hu
    rw [h1] at this
    simp only [Bool.not_true, Bool.false_or, beq_iff_eq] at this
    exact andNot_zero.1 this z (by omega) h2
  · intro h w hw u hu
    cases hb : bt (nth r w) u
    · rfl
    · simp only [Bool.not_true, Bool.false_or, beq_iff_eq]
      refine andNot_zero.2 fun z hz h2 => ?_
      have := hin u hu z hz h2
      rw [bt_allW] at this
      exact h w u z hw hu (by simp at this; omega) hb h2
end
section
variable {M : Mo} {t : Fm} {N : Nat} (v : Vw M t N) {R : Nat → Nat → Nat → Bool} (h : FilR M t N R) {a : Nat} (ha : a < M.rel.length)
include v
theorem fil_row (R : Nat → Nat → Nat → Bool) {a : Nat} (ha : a < M.rel.length) (facts : Nat) : (nth (filM M facts (repL (subL M t) N) R).rel a).length = (repL (subL M t) N).length ∧ ∀ w, w < (repL (subL M t) N).length → Sub (nth (nth (filM M facts (repL (subL M t) N) R).rel a) w) (allW (repL (subL M t) N).length) := by
  have ok := filM_ok (facts := facts) (R := R) v.ok (repL_pos (subL M t) v.ok.one) (Nat.le_trans (repL_len _ _) v.ok.most)
  exact row_in ok (by simpa [filM, filR] using ha)
include h ha
omit h in
theorem fil_bit (facts : Nat) {w u : Nat} (hw : w < N) (hu : u < N) : bt (nth (nth (filM M facts (repL (subL M t) N) R).rel a) (clsOf (subL M t) N w)) (clsOf (subL M t) N u) = R a (lowOf (subL M t) w) (lowOf (subL M t) u) := by
  have hl : (repL (subL M t) N).length ≤ 64 := Nat.le_trans (repL_len _ _) v.ok.most
  rw [filM_rel hl ha (clsOf_lt _ hw) (clsOf_lt _ hu), clsOf_nth _ hw, clsOf_nth _ hu]
theorem fil_ref (facts : Nat) (hr : refB (nth M.rel a) = true) : refB (nth (filM M facts (repL (subL M t) N) R).rel a) = true := by
  obtain ⟨hl, hin⟩ := row_in v.ok ha
  rw [refB_iff hl] at hr
  rw [refB_iff (fil_row v R ha facts).1]
  intro c hc
  have hw := rep_lt hc
  have := fil_bit (R := R) v ha facts hw hw
  rw [clsOf_rep hc] at this
  rw [this]
  exact h.fwd a ha _ _ hw hw (hr _ hw)
theorem fil_ser (facts : Nat) (hr : serB (nth M.rel a) = true) : serB (nth (filM M facts (repL (subL M t) N) R).rel a) = true := by
  obtain ⟨hl, hin⟩ := row_in v.ok ha
  have hK : (repL (subL M t) N).length ≤ 64 := Nat.le_trans (repL_len _ _) v.ok.most
  rw [serB_iff hl hin] at hr
  rw [serB_iff (fil_row v R ha facts).1 (fil_row v R ha facts).2]
  intro c hc
  have hw := rep_lt hc
  obtain ⟨u, hu, hb⟩ := hr _ hw
  have := fil_bit (R := R) v ha facts hw hu
  rw [clsOf_rep hc] at this
  exact ⟨_, clsOf_lt _ hu, by rw [this]; exact h.fwd a ha _ _ hw hu hb⟩
end
section
variable {M : Mo} {t : Fm} {N : Nat} (v : Vw M t N) {a : Nat} (ha : a < M.rel.length)
include v ha
theorem filS_sym (facts : Nat) (hr : nth M.rel a = revL (nth M.rel a)) : nth (filM M facts (repL (subL M t) N) (relS M (subL M t) N)).rel a = revL (nth (filM M facts (repL (subL M t) N) (relS M (subL M t) N)).rel a) := by
  obtain ⟨hl, hin⟩ := row_in v.ok ha
  have hK : (repL (subL M t) N).length ≤ 64 := Nat.le_trans (repL_len _ _) v.ok.most
  obtain ⟨hl2, hin2⟩ := fil_row v (relS M (subL M t) N) ha facts
  rw [revL_iff hl v.ok.most hin] at hr
  rw [revL_iff hl2 hK hin2]
  have hS : ∀ x y, relS M (subL M t) N a x y = true → relS M (subL M t) N a y x = true := fun x y hS => by
    obtain ⟨w, u, hw, hu, h1, h2, hb⟩ := relS_iff.1 hS
    exact relS_iff.2 ⟨u, w, hu, hw, h2, h1, (hr w u hw hu).1 hb⟩
  intro c d hc hd
  rw [filM_rel hK ha hc hd, filM_rel hK ha hd hc]
  exact ⟨hS _ _, hS _ _⟩
/-- The relations of one filtration lie in those of another. -/
theorem fil_in {R Q : Nat → Nat → Nat → Bool} (facts : Nat) (hRQ : ∀ x y, R a x y = true → Q a x y = true) {c : Nat} (hc : c < (repL (subL M t) N).length) : Sub (nth (nth (filM M facts (repL (subL M t) N) R).rel a) c) (nth (nth (filM M facts (repL (subL M t) N) Q).rel a) c) := by
  have hK : (repL (subL M t) N).length ≤ 64 := Nat.le_trans (repL_len _ _) v.ok.most
  intro k hk hb
  have := (fil_row v R ha facts).2 c hc k hk hb
  rw [bt_allW] at this
  have hkl : k < (repL (subL M t) N).length := by simp at this; omega
  rw [filM_rel hK ha hc hkl] at hb ⊢
  exact hRQ _ _ hb
theorem fil_tra (facts : Nat) : traB (nth (filM M facts (repL (subL M t) N) (permL (subL M t) (canon t) true)).rel a) = true := by
  have hK : (repL (subL M t) N).length ≤ 64 := Nat.le_trans (repL_len _ _) v.ok.most
  obtain ⟨hl2, hin2⟩ := fil_row v (permL (subL M t) (canon t) true) ha facts
  rw [traB_iff hl2 hK hin2]
  intro w u z hw hu hz h1 h2
  rw [filM_rel hK ha hw hu] at h1
  rw [filM_rel hK ha hu hz] at h2
  rw [filM_rel hK ha hw hz]
  exact perm_trans h1 h2
omit v ha in
theorem TransR.of (v : Vw M t N) {a : Nat} (ha : a < M.rel.length) (hr : traB (nth M.rel a) = true) : TransR M N a := by
  obtain ⟨hl, hin⟩ := row_in v.ok ha
  rw [traB_iff hl v.ok.most hin] at hr
  exact hr
end
/-! Numbers of the classes. -/
section
variable {L : List (BitVec 64)} {N : Nat}
theorem repL_succ (L : List (BitVec 64)) (w : Nat) : repL L (w + 1) = repL L w ++ (if lowOf L w = w then [w] else []) := by
  unfold repL
  rw [List.range_succ, List.filter_append]
  congr 1
  by_cases h : lowOf L w = w
  · simp [h]
  · simp [h]
theorem repL_prefix (L : List (BitVec 64)) (w : Nat) : ∀ d, ∃ m, repL L (w + d) = repL L w ++ m
  | 0 => ⟨[], by simp⟩
  | d + 1 => by
    obtain ⟨m, h⟩ := repL_prefix L w d
    exact ⟨m ++ (if lowOf L (w + d) = w + d then [w + d] else []), by rw [← Nat.add_assoc, repL_succ, h, List.append_assoc]⟩
/-- The class of a world is one that began ahead of it, or the next one. -/
theorem cls_next {w : Nat} (hw : w < N) : (lowOf L w = w → clsOf L N w = (repL L w).length) ∧ (lowOf L w ≠ w → clsOf L N w < (repL L w).length) := by
  obtain ⟨m, hm⟩ := repL_prefix L (w + 1) (N - (w + 1))
  rw [show w + 1 + (N - (w + 1)) = N by omega] at hm
  unfold clsOf
  constructor
  · intro h
    have hn : w ∉ repL L w := fun hc => by have := (repL_mem.1 hc).1; omega
    rw [hm, h, repL_succ, if_pos h, List.append_assoc, List.idxOf_append, if_neg hn]
    simp
  · intro h
    have hlt : lowOf L w < w := by have := lowOf_le L w; omega
    have hin : lowOf L w ∈ repL L w := repL_low' hlt
    rw [hm, repL_succ, List.append_assoc, List.idxOf_append, if_pos hin]
    exact List.idxOf_lt_length_of_mem hin
where
  repL_low' {w : Nat} (hlt : lowOf L w < w) : lowOf L w ∈ repL L w := repL_mem.2 ⟨hlt, lowOf_idem L w⟩
/-- A world's sets as a number. -/
def keyN (L : List (BitVec 64)) (w : Nat) : Nat := L.foldl (fun n s => 2 * n + (if bt s w then 1 else 0)) 0
theorem keyN_aux (w v : Nat) : ∀ (L : List (BitVec 64)) (a b : Nat), L.foldl (fun n s => 2 * n + (if bt s w then 1 else 0)) a = L.foldl (fun n s => 2 * n + (if bt s v then 1 else 0)) b → a = b ∧ agr L w v = true
  | [], a, b, h => ⟨h, rfl⟩
  | s :: L, a, b, h => by
    simp only [List.foldl_cons] at h
    obtain ⟨h1, h2⟩ := keyN_aux w v L _ _ h
    rw [agr_iff] at h2 ⊢
    cases hc : bt s w <;> cases hd : bt s v <;> rw [hc, hd] at h1 <;> simp at h1
    all_goals first | omega | skip
    all_goals
      refine ⟨by omega, fun x hx => ?_⟩
      rcases List.mem_cons.1 hx with rfl | hx
      · rw [hc, hd]
      · exact h2 x hx
theorem keyN_lt (w : Nat) : ∀ (L : List (BitVec 64)) (a : Nat), L.foldl (fun n s => 2 * n + (if bt s w then 1 else 0)) a < (a + 1) * 2 ^ L.length
  | [], a => by simp
  | s :: L, a => by
    simp only [List.foldl_cons, List.length_cons]
    refine Nat.lt_of_lt_of_le (keyN_lt w L _) ?_
    rw [Nat.pow_succ, Nat.mul_comm _ 2, ← Nat.mul_assoc]
    exact Nat.mul_le_mul_right _ (by split <;> omega)
/-- There are at most as many classes as sets of subformulas. -/
theorem classes_le (L : List (BitVec 64)) (N : Nat) : (repL L N).length ≤ 2 ^ L.length := by
  have hnd : ((repL L N).map (keyN L)).Nodup := by
    refine List.pairwise_map.2 (List.Pairwise.imp_of_mem (fun {x y} hx hy hne e => hne ?_) (repL_nodup L N))
    obtain ⟨-, h⟩ := keyN_aux x y L 0 0 e
    have := lowOf_eq h
    rw [(repL_mem.1 hx).2, (repL_mem.1 hy).2] at this
    exact this
  have := nodup_sub_len (L := (repL L N).map (keyN L)) (M := List.range (2 ^ L.length)) hnd (fun s hs => by
    obtain ⟨w, -, rfl⟩ := List.mem_map.1 hs
    have := keyN_lt w L 0
    rw [List.mem_range]
    unfold keyN; omega)
  simpa using this
end
end Wt

/- Plain: the points of a set one by one; what a set of points comes to under a relation; closures of relations. -/
namespace Wt
open Go Go.RowKit Go.Proofs Fm

/-- A set without its first k points. -/
def dropK (s : BitVec 64) : Nat → BitVec 64
  | 0 => s
  | k + 1 => dropK s k &&& (dropK s k - 1#64)
theorem memL_dropK (s : BitVec 64) : ∀ k, memL (dropK s k) = (memL s).drop k
  | 0 => rfl
  | k + 1 => by
    have h := memL_dropK s k
    by_cases hz : dropK s k = 0#64
    · rw [hz, memL_zero] at h
      have hl : (memL s).length ≤ k := List.drop_eq_nil_iff.1 h.symm
      show memL (dropK s k &&& (dropK s k - 1#64)) = _
      rw [hz, List.drop_eq_nil_of_le (by omega)]
      exact memL_zero
    · have h2 := memL_step hz
      rw [h] at h2
      show memL (dropK s k &&& (dropK s k - 1#64)) = _
      have h3 := congrArg List.tail h2
      rw [List.tail_drop] at h3
      exact h3.symm
theorem dropK_ne {s : BitVec 64} {k : Nat} (hk : k < (memL s).length) : dropK s k ≠ 0#64 := fun h => by
  have h2 := memL_dropK s k
  rw [h, memL_zero] at h2
  have := List.drop_eq_nil_iff.1 h2.symm
  omega
theorem dropK_tz {s : BitVec 64} {k : Nat} (hk : k < (memL s).length) : tz (dropK s k) = nth (memL s) k := by
  have h := memL_step (dropK_ne hk)
  rw [memL_dropK, List.drop_eq_getElem_cons hk] at h
  rw [nth_eq _ _ hk]
  exact (List.cons.inj h).1.symm
theorem dropK_end (s : BitVec 64) : dropK s (memL s).length = 0#64 := by
  by_cases h : dropK s (memL s).length = 0#64
  · exact h
  · have h2 := memL_step h
    rw [memL_dropK, List.drop_length] at h2
    cases h2
theorem memL_at {s : BitVec 64} {k : Nat} (hk : k < (memL s).length) : nth (memL s) k < 64 ∧ bt s (nth (memL s) k) = true := mem_memL.1 (nth_mem hk)
theorem memL_ltN {s : BitVec 64} {N k : Nat} (h : Sub s (allW N)) (hk : k < (memL s).length) : nth (memL s) k < N := by
  obtain ⟨h1, h2⟩ := memL_at hk
  have := h _ h1 h2
  rw [bt_allW] at this
  simp at this
  omega
/-- The union of the successors of the first k points of a list. -/
def mapK (r : List (BitVec 64)) (l : List Nat) : Nat → BitVec 64
  | 0 => 0#64
  | k + 1 => mapK r l k ||| nth r (nth l k)
def mapS (r : List (BitVec 64)) (s : BitVec 64) : BitVec 64 := mapK r (memL s) (memL s).length
theorem mapK_sub {r : List (BitVec 64)} {l : List Nat} {t : BitVec 64} : ∀ k, Sub (mapK r l k) t ↔ ∀ j, j < k → Sub (nth r (nth l j)) t
  | 0 => ⟨fun _ j hj => absurd hj (Nat.not_lt_zero _), fun _ k _ hb => by rw [show mapK r l 0 = 0#64 from rfl, bt_zero] at hb; cases hb⟩
  | k + 1 => by
    have ih := mapK_sub (r := r) (l := l) (t := t) k
    constructor
    · intro h j hj
      by_cases hjk : j = k
      · subst hjk; exact (Sub.orR _ _).trans h
      · exact ih.1 ((Sub.orL _ _).trans h) j (by omega)
    · intro h
      exact Sub.or (ih.2 fun j hj => h j (by omega)) (h k (by omega))
theorem mapS_sub {r : List (BitVec 64)} {s t : BitVec 64} : Sub (mapS r s) t ↔ ∀ u, u < 64 → bt s u = true → Sub (nth r u) t := by
  unfold mapS
  rw [mapK_sub]
  constructor
  · intro h u hu hb
    obtain ⟨j, hj, rfl⟩ := mem_nth (mem_memL.2 ⟨hu, hb⟩)
    exact h j hj
  · intro h j hj
    exact h _ (memL_at hj).1 (memL_at hj).2
section
variable {r : List (BitVec 64)} {N : Nat} (hl : r.length = N) (hin : ∀ w, w < N → Sub (nth r w) (allW N))
include hl hin
theorem traB_map : traB r = true ↔ ∀ w, w < N → mapS r (nth r w) &&& ~~~ nth r w = 0#64 := by
  unfold traB
  simp only [List.all_eq_true, List.mem_range, hl, Bool.or_eq_true, Bool.not_eq_true', beq_iff_eq]
  constructor
  · intro h w hw
    rw [andNot_zero, mapS_sub]
    intro u hu hb
    have hun : u < N := by
      have := hin w hw u hu hb
      rw [bt_allW] at this
      simp at this
      omega
    rcases h w hw u hun with h1 | h1
    · rw [hb] at h1; cases h1
    · exact andNot_zero.1 h1
  · intro h w hw u hu
    cases hb : bt (nth r w) u
    · exact .inl rfl
    · refine .inr ?_
      have h1 := h w hw
      rw [andNot_zero, mapS_sub] at h1
      exact andNot_zero.2 (h1 u (bt_lt64 hb) hb)
end

/-! The reference's closures. -/
def sumT : List (BitVec 64) → Nat
  | [] => 0
  | x :: l => x.toNat + sumT l
theorem sumT_le : ∀ l : List (BitVec 64), sumT l ≤ l.length * 2 ^ 64
  | [] => Nat.le_refl _
  | x :: l => by
    have h1 := sumT_le l
    have h2 := x.isLt
    simp only [sumT, List.length_cons, Nat.add_mul]
    omega
theorem sumT_set : ∀ (l : List (BitVec 64)) (i : Nat) (x : BitVec 64), i < l.length → sumT (l.set i x) + (nth l i).toNat = sumT l + x.toNat
  | [], _, _, h => absurd h (Nat.not_lt_zero _)
  | y :: l, 0, x, _ => by simp only [List.set_cons_zero, sumT]; simp [nth]; omega
  | y :: l, i + 1, x, h => by
    have := sumT_set l i x (by simpa using h)
    have e : nth (y :: l) (i + 1) = nth l i := by simp [nth]
    rw [e]
    simp only [List.set_cons_succ, sumT]
    omega
theorem or_lt {x a : BitVec 64} (h : x ||| a ≠ x) : x.toNat < (x ||| a).toNat := by
  have h1 : x.toNat ≤ (x ||| a).toNat := by rw [BitVec.toNat_or]; exact Nat.left_le_or
  have h2 : x.toNat ≠ (x ||| a).toNat := fun e => h (BitVec.eq_of_toNat_eq e.symm)
  omega
theorem or_eq {x a : BitVec 64} : x ||| a = x ↔ Sub a x := by
  constructor
  · intro h
    rw [← h]
    exact Sub.orR _ _
  · intro h
    refine bt_ext fun k hk => ?_
    rw [bt_or]
    cases h1 : bt x k
    · cases h2 : bt a k
      · rfl
      · have := h k hk h2; rw [h1] at this; cases this
    · rfl
theorem or_lt_sum {l : List (BitVec 64)} {i : Nat} {a : BitVec 64} (hi : i < l.length) (h : nth l i ||| a ≠ nth l i) : sumT l < sumT (l.set i (nth l i ||| a)) := by
  have h1 := sumT_set l i (nth l i ||| a) hi
  have h2 := or_lt h
  omega
/-- Where a step of grow adds, and what. -/
def atE (e : Bool) (w u : Nat) : Nat := if e then u else w
def addE (e : Bool) (l : List (BitVec 64)) (w u : Nat) : BitVec 64 := if e then nth l w else nth l u
/-- A step from w to u is closed. -/
def CloP (e : Bool) (l : List (BitVec 64)) (w u : Nat) : Prop := bt (nth l w) u = true → nth l (atE e w u) ||| addE e l w u = nth l (atE e w u)
def Clo (e : Bool) (l : List (BitVec 64)) : Prop := ∀ w u, w < l.length → u < l.length → CloP e l w u
/-- The list that grows. -/
structure Gro (e : Bool) (r l : List (BitVec 64)) : Prop where
  len : l.length = r.length
  same : Clo e r → l = r
theorem Gro.start (e : Bool) (r : List (BitVec 64)) : Gro e r r := ⟨rfl, fun _ => rfl⟩
theorem Gro.step {e : Bool} {r l : List (BitVec 64)} (h : Gro e r l) {w u : Nat} (hw : w < r.length) (hu : u < r.length) (hb : bt (nth l w) u = true) (hne : nth l (atE e w u) ||| addE e l w u ≠ nth l (atE e w u)) : Gro e r (l.set (atE e w u) (nth l (atE e w u) ||| addE e l w u)) :=
  ⟨by rw [List.length_set]; exact h.len, fun hc => by
    have hlr := h.same hc
    subst hlr
    exact absurd (hc w u hw hu hb) hne⟩
theorem clo_tra {r : List (BitVec 64)} : Clo false r ↔ traB r = true := by
  unfold traB Clo CloP
  simp only [List.all_eq_true, List.mem_range, Bool.or_eq_true, Bool.not_eq_true', beq_iff_eq, atE, addE]
  constructor
  · intro h w hw u hu
    cases hb : bt (nth r w) u
    · exact .inl rfl
    · exact .inr (andNot_zero.2 (or_eq.1 (by simpa using h w u hw hu hb)))
  · intro h w u hw hu hb
    rcases h w hw u hu with h1 | h1
    · rw [hb] at h1; cases h1
    · simpa using or_eq.2 (andNot_zero.1 h1)
theorem clo_euc {r : List (BitVec 64)} : Clo true r ↔ eucB r = true := by
  unfold eucB Clo CloP
  simp only [List.all_eq_true, List.mem_range, Bool.or_eq_true, Bool.not_eq_true', beq_iff_eq, atE, addE]
  constructor
  · intro h w hw u hu
    cases hb : bt (nth r w) u
    · exact .inl rfl
    · exact .inr (andNot_zero.2 (or_eq.1 (by simpa using h w u hw hu hb)))
  · intro h w u hw hu hb
    rcases h w hw u hu with h1 | h1
    · rw [hb] at h1; cases h1
    · simpa using or_eq.2 (andNot_zero.1 h1)
theorem gro_end {e : Bool} {r l : List (BitVec 64)} (h : Gro e r l) (hc : Clo e l) : l = r ↔ Clo e r :=
  ⟨fun hl => hl ▸ hc, h.same⟩
end Wt
