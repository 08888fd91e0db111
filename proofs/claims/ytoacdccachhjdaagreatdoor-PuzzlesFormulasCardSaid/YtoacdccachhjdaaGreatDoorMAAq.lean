/- Plain: the filtration lemma: what holds at a world holds at its class. -/
import Derived.Test.YtoacdccachhjdaaGreatDoorMAAp
import Derived.Test.YtoacdccachhjdaaGreatDoorMAAj
import Derived.Test.YtoacdccachhjdaaGreatDoorMAAi
import Derived.Test.YtoacdccachhjdaaGreatDoorMAAg
import Derived.Test.YtoacdccachhjdaaGreatDoorMAAl
import Derived.Laws.StructEq
namespace Wt
open Go Go.RowKit Go.Proofs Fm

section
variable {M : Mo} {N : Nat} (ok : MoOk M N) {q : Nat} (hq : q < M.rel.length)
include ok hq
theorem dia_iff {Z : BitVec 64} {k : Nat} (hn : k < N) : bt (relDia (nth M.rel q) Z) k = true ↔ ∃ u, u < N ∧ bt (nth (nth M.rel q) k) u = true ∧ bt Z u = true := by
  obtain ⟨hl, hrow⟩ := row_in ok hq
  have hk : k < 64 := by have := ok.most; omega
  unfold relDia
  rw [if_pos (rel_ok hl ok.most hrow), hl, bt_and, bt_not, bt_allW, bt_boxTo _ _ _ _ hk]
  have e : (nth (nth M.rel q) k &&& ~~~ ~~~ Z == 0#64) = true ↔ ¬ ∃ u, u < N ∧ bt (nth (nth M.rel q) k) u = true ∧ bt Z u = true := by
    rw [beq_iff_eq]
    constructor
    · rintro h ⟨u, hu, h1, h2⟩
      have := (andNot_zero (t := ~~~ Z)).1 h u (by have := ok.most; omega) h1
      rw [bt_not, h2] at this; simp at this
    · intro h
      refine (andNot_zero (t := ~~~ Z)).2 fun u hu h1 => ?_
      rw [bt_not]
      cases h2 : bt Z u
      · simp [hu]
      · exfalso
        have := hrow k hn u hu h1
        rw [bt_allW] at this
        exact h ⟨u, by simp at this; omega, h1, h2⟩
  by_cases h : ∃ u, u < N ∧ bt (nth (nth M.rel q) k) u = true ∧ bt Z u = true
  · have : (nth (nth M.rel q) k &&& ~~~ ~~~ Z == 0#64) = false := by
      cases hc : (nth (nth M.rel q) k &&& ~~~ ~~~ Z == 0#64)
      · rfl
      · exact absurd h (e.1 hc)
    rw [this]
    simp [hk, hn, h]
  · rw [e.2 h]
    simp [hk, hn, h]
theorem box_iff {Z : BitVec 64} {k : Nat} (hn : k < N) : bt (relBox (nth M.rel q) Z) k = true ↔ ∀ u, u < N → bt (nth (nth M.rel q) k) u = true → bt Z u = true := by
  obtain ⟨hl, hrow⟩ := row_in ok hq
  have hk : k < 64 := by have := ok.most; omega
  rw [box_sub ok hq hk hn]
  constructor
  · exact fun h u hu h1 => h u (by have := ok.most; omega) h1
  · intro h u hu h1
    have := hrow k hn u hu h1
    rw [bt_allW] at this
    exact h u (by simp at this; omega) h1
end
/-- A model and a quotient of it that respects some formulas about knowledge. -/
structure FilOk (M Q : Mo) (N K : Nat) (cls : Nat → Nat) (T : Fm → Prop) : Prop where
  okM : MoOk M N
  okQ : MoOk Q K
  ag : Q.rel.length = M.rel.length
  fa : Q.val.length = M.val.length
  lt : ∀ w, w < N → cls w < K
  onto : ∀ c, c < K → ∃ w, w < N ∧ cls w = c
  sub : ∀ t c, T t → kid c t → T c
  fk : ∀ t, T t → fok t ∧ t.op ≤ 10
  fact : ∀ i : Nat, i < M.val.length → T (.leaf 3 (i : Int) 0 0) → ∀ w, w < N → bt (nth M.val i) w = bt (nth Q.val i) (cls w)
  fwd : ∀ a, a < M.rel.length → ∀ w u, w < N → u < N → bt (nth (nth M.rel a) w) u = true → bt (nth (nth Q.rel a) (cls w)) (cls u) = true
  know : ∀ (a : Nat) (x : Fm), a < M.rel.length → T (.un 9 (a : Int) 0 0 x) → (semT M x).2 = true → ∀ w u, w < N → u < N → bt (nth (nth Q.rel a) (cls w)) (cls u) = true → bt (semT M (.un 9 (a : Int) 0 0 x)).1 w = true → bt (semT M x).1 u = true
  poss : ∀ (a : Nat) (x : Fm), a < M.rel.length → T (.un 10 (a : Int) 0 0 x) → (semT M x).2 = true → ∀ w u, w < N → u < N → bt (nth (nth Q.rel a) (cls w)) (cls u) = true → bt (semT M x).1 u = true → bt (semT M (.un 10 (a : Int) 0 0 x)).1 w = true
theorem fok_leaf {o i e g : Int} (h : fok (.leaf o i e g)) (ho : o ≤ 10) : (o = 1 ∨ o = 2) ∨ (o = 3 ∧ 0 ≤ i ∧ e = 0 ∧ g = 0) := by
  obtain ⟨h1, h2, h3, h4⟩ := h
  have := useOf_cases o h1
  rcases (show o = 1 ∨ o = 2 ∨ o = 3 ∨ o = 4 ∨ o = 5 ∨ o = 6 ∨ o = 7 ∨ o = 8 ∨ o = 9 ∨ o = 10 by omega) with rfl | rfl | rfl | rfl | rfl | rfl | rfl | rfl | rfl | rfl <;> simp [useOf, needless, wide, outs] at h2 h3 h4 ⊢
  omega
theorem fok_un {o i e g : Int} {x : Fm} (h : fok (.un o i e g x)) (ho : o ≤ 10) : o = 4 ∨ ((o = 9 ∨ o = 10) ∧ 0 ≤ i ∧ e = 0 ∧ g = 0) := by
  obtain ⟨h1, h2, h2', h3, h4, -⟩ := h
  have := useOf_cases o h1
  rcases (show o = 1 ∨ o = 2 ∨ o = 3 ∨ o = 4 ∨ o = 5 ∨ o = 6 ∨ o = 7 ∨ o = 8 ∨ o = 9 ∨ o = 10 by omega) with rfl | rfl | rfl | rfl | rfl | rfl | rfl | rfl | rfl | rfl <;> simp [useOf, needless, wide, outs] at h2 h2' h3 h4 ⊢
  all_goals omega
theorem fok_bin {o i e g : Int} {x y : Fm} (h : fok (.bin o i e g x y)) (ho : o ≤ 10) : o = 5 ∨ o = 6 ∨ o = 7 ∨ o = 8 := by
  obtain ⟨h1, h2, -⟩ := h
  have := useOf_cases o h1
  rcases (show o = 1 ∨ o = 2 ∨ o = 3 ∨ o = 4 ∨ o = 5 ∨ o = 6 ∨ o = 7 ∨ o = 8 ∨ o = 9 ∨ o = 10 by omega) with rfl | rfl | rfl | rfl | rfl | rfl | rfl | rfl | rfl | rfl <;> simp [useOf] at h2 ⊢
theorem fil_lemma {M Q : Mo} {N K : Nat} {cls : Nat → Nat} {T : Fm → Prop} (h : FilOk M Q N K cls T) : ∀ t, T t → (semT M t).2 = true → (semT Q t).2 = true ∧ ∀ w, w < N → bt (semT M t).1 w = bt (semT Q t).1 (cls w)
  | .leaf o i e g, ht, hs => by
    obtain ⟨hf, ho⟩ := h.fk _ ht
    have hM : M.worlds.toNat = N := by rw [h.okM.worlds]; rfl
    have hQ : Q.worlds.toNat = K := by rw [h.okQ.worlds]; rfl
    rcases fok_leaf hf ho with (rfl | rfl) | ⟨rfl, hi, rfl, rfl⟩
    · refine ⟨by simp [semT, valN], fun w hw => ?_⟩
      have h1 := h.lt w hw
      have h2 := h.okM.most
      have h3 := h.okQ.most
      simp [semT, valN, hM, hQ, bt_allW, hw, h1, show w < 64 by omega, show cls w < 64 by omega]
    · refine ⟨by simp [semT, valN], fun w hw => by simp [semT, valN, bt_zero]⟩
    · obtain ⟨n, rfl⟩ := Int.eq_ofNat_of_zero_le hi
      by_cases hn : (M.val.length : Int) ≤ (n : Int)
      · simp [semT, valN, hn] at hs
      · have hn2 : ¬ ((Q.val.length : Int) ≤ (n : Int)) := by rw [h.fa]; exact hn
        refine ⟨by simp [semT, valN, hn2], fun w hw => ?_⟩
        simp only [semT, valN, hn, hn2, if_false, Int.toNat_natCast]
        simpa using h.fact n (by omega) ht w hw
  | .un o i e g x, ht, hs => by
    obtain ⟨hf, ho⟩ := h.fk _ ht
    have hM : M.worlds.toNat = N := by rw [h.okM.worlds]; rfl
    have hQ : Q.worlds.toNat = K := by rw [h.okQ.worlds]; rfl
    have hx : (semT M x).2 = true := by
      cases hc : (semT M x).2
      · simp [semT, hc] at hs
      · rfl
    obtain ⟨hx2, hxw⟩ := fil_lemma h x (h.sub _ _ ht rfl) hx
    rcases fok_un hf ho with rfl | ⟨hoo, hi, rfl, rfl⟩
    · refine ⟨by simp [semT, valN, hx2], fun w hw => ?_⟩
      have h1 := h.lt w hw
      have h2 := h.okM.most
      have h3 := h.okQ.most
      simp [semT, valN, hx, hx2, hM, hQ, bt_and, bt_not, bt_allW, hw, h1, show w < 64 by omega, show cls w < 64 by omega, hxw w hw]
    · obtain ⟨n, rfl⟩ := Int.eq_ofNat_of_zero_le hi
      have hn : ¬ ((M.rel.length : Int) ≤ (n : Int)) := by
        intro hn
        rcases hoo with rfl | rfl <;> simp [semT, valN, hx, hn] at hs
      have hn2 : ¬ ((Q.rel.length : Int) ≤ (n : Int)) := by rw [h.ag]; exact hn
      have hnM : n < M.rel.length := by omega
      have hnQ : n < Q.rel.length := by rw [h.ag]; omega
      rcases hoo with rfl | rfl
      · have eM : (semT M (.un 9 (n : Int) 0 0 x)).1 = relBox (nth M.rel n) (semT M x).1 := by simp [semT, valN, hx, hn]
        have eQ : (semT Q (.un 9 (n : Int) 0 0 x)).1 = relBox (nth Q.rel n) (semT Q x).1 := by simp [semT, valN, hx2, hn2]
        refine ⟨by simp [semT, valN, hx2, hn2], fun w hw => ?_⟩
        rw [Bool.eq_iff_iff]
        constructor
        · intro hk
          rw [eQ, box_iff h.okQ hnQ (h.lt w hw)]
          intro c hc hr
          obtain ⟨u, hu, rfl⟩ := h.onto c hc
          rw [← hxw u hu]
          exact h.know n x hnM ht hx w u hw hu hr hk
        · intro hk
          rw [eM, box_iff h.okM hnM hw]
          intro u hu hr
          rw [eQ, box_iff h.okQ hnQ (h.lt w hw)] at hk
          rw [hxw u hu]
          exact hk _ (h.lt u hu) (h.fwd n hnM w u hw hu hr)
      · have eM : (semT M (.un 10 (n : Int) 0 0 x)).1 = relDia (nth M.rel n) (semT M x).1 := by simp [semT, valN, hx, hn]
        have eQ : (semT Q (.un 10 (n : Int) 0 0 x)).1 = relDia (nth Q.rel n) (semT Q x).1 := by simp [semT, valN, hx2, hn2]
        refine ⟨by simp [semT, valN, hx2, hn2], fun w hw => ?_⟩
        rw [Bool.eq_iff_iff]
        constructor
        · intro hk
          rw [eM, dia_iff h.okM hnM hw] at hk
          obtain ⟨u, hu, hr, hb⟩ := hk
          rw [eQ, dia_iff h.okQ hnQ (h.lt w hw)]
          exact ⟨_, h.lt u hu, h.fwd n hnM w u hw hu hr, by rw [← hxw u hu]; exact hb⟩
        · intro hk
          rw [eQ, dia_iff h.okQ hnQ (h.lt w hw)] at hk
          obtain ⟨c, hc, hr, hb⟩ := hk
          obtain ⟨u, hu, rfl⟩ := h.onto c hc
          exact h.poss n x hnM ht hx w u hw hu hr (by rw [hxw u hu]; exact hb)
  | .bin o i e g x y, ht, hs => by
    obtain ⟨hf, ho⟩ := h.fk _ ht
    have hM : M.worlds.toNat = N := by rw [h.okM.worlds]; rfl
    have hQ : Q.worlds.toNat = K := by rw [h.okQ.worlds]; rfl
    have hxy : (semT M x).2 = true ∧ (semT M y).2 = true := by
      cases hc : (semT M x).2
      · simp [semT, hc] at hs
      · cases hd : (semT M y).2
        · simp [semT, hc, hd] at hs
        · exact ⟨rfl, rfl⟩
    obtain ⟨hx, hy⟩ := hxy
    obtain ⟨hx2, hxw⟩ := fil_lemma h x (h.sub _ _ ht (.inl rfl)) hx
    obtain ⟨hy2, hyw⟩ := fil_lemma h y (h.sub _ _ ht (.inr rfl)) hy
    have hlw : ∀ w, w < N → w < 64 ∧ cls w < 64 ∧ cls w < K := fun w hw => by
      have h1 := h.lt w hw
      have h2 := h.okM.most
      have h3 := h.okQ.most
      omega
    rcases fok_bin hf ho with rfl | rfl | rfl | rfl
    all_goals
      refine ⟨by simp [semT, valN, hx2, hy2], fun w hw => ?_⟩
      obtain ⟨h1, h2, h3⟩ := hlw w hw
      simp [semT, valN, hx, hx2, hy, hy2, hM, hQ, bt_and, bt_or, bt_xor, bt_not, bt_allW, hw, h1, h2, h3, hxw w hw, hyw w hw]
end Wt

/- Plain: a model seen through the subformulas of a formula about knowledge; the quotient's parts. -/
namespace Wt
open Go Go.RowKit Go.Proofs Fm

theorem nth_mapX {β : Type} [Inhabited β] (F : Nat → β) {n k : Nat} (h : k < n) : nth ((List.range n).map F) k = F k := by
  rw [nth_eq _ _ (by simpa using h)]; simp
theorem setTo_le (p : Nat → Bool) (n : Nat) : Sub (setTo p n) (allW n) := fun k hk h => by
  rw [bt_setTo p hk] at h
  rw [bt_allW]
  simp at h ⊢
  exact ⟨hk, h.1⟩
theorem sbt_kid {c s : Fm} : ∀ {r : Fm}, sbt s r → kid c s → sbt c r
  | .leaf .., h, hk => by rw [show s = _ from h] at hk; exact hk.elim
  | .un o i e g x, h, hk => by
    rcases h with rfl | h
    · rw [show c = x from hk]; exact .inr (sbt_refl x)
    · exact .inr (sbt_kid h hk)
  | .bin o i e g x y, h, hk => by
    rcases h with rfl | h | h
    · rcases hk with rfl | rfl
      · exact .inr (.inl (sbt_refl _))
      · exact .inr (.inr (sbt_refl _))
    · exact .inr (.inl (sbt_kid h hk))
    · exact .inr (.inr (sbt_kid h hk))
section
variable {t s : Fm}
theorem sbt_at (ht : fok t) (h : sbt s t) : ∃ k, k < (canon t).length ∧ trAt (canon t) k = s := by
  obtain ⟨h1, h2, h3⟩ := addT_ok t ht
  obtain ⟨k, hk, e⟩ := List.getElem_of_mem (sbt_mem h)
  refine ⟨k, by rw [canon_length]; exact hk, ?_⟩
  show trAt (encL (addT t [])) k = s
  rw [trAt_encL h1 h2 h3 (k + 1) k hk (Nat.lt_succ_self k), e]
theorem at_sbt (ht : fok t) {k : Nat} (hk : k < (canon t).length) : sbt (trAt (canon t) k) t := by
  obtain ⟨h1, h2, h3⟩ := addT_ok t ht
  rw [canon_length] at hk
  have e : trAt (canon t) k = (addT t [])[k]'hk := trAt_encL h1 h2 h3 (k + 1) k hk (Nat.lt_succ_self k)
  rw [e]
  rcases (mem_addT t []).1 (List.getElem_mem hk) with h | h
  · simp at h
  · exact h
theorem sbt_fok (ht : fok t) (h : sbt s t) : fok s := (addT_ok t ht).2.2 s (sbt_mem h)
end
theorem flag_sub {M : Mo} {s : Fm} : ∀ {t : Fm}, (semT M t).2 = true → sbt s t → (semT M s).2 = true
  | .leaf .., h, hs => by rw [show s = _ from hs]; exact h
  | .un o i e g x, h, hs => by
    rcases hs with rfl | hs
    · exact h
    · refine flag_sub (t := x) ?_ hs
      cases hc : (semT M x).2
      · simp [semT, hc] at h
      · rfl
  | .bin o i e g x y, h, hs => by
    have hx : (semT M x).2 = true := by
      cases hc : (semT M x).2
      · simp [semT, hc] at h
      · rfl
    have hy : (semT M y).2 = true := by
      cases hc : (semT M y).2
      · simp [semT, hc] at h
      · rfl
    rcases hs with rfl | hs | hs
    · exact h
    · exact flag_sub hx hs
    · exact flag_sub hy hs
theorem trAt_op (l : List Nd) (k : Nat) : (trAt l k).op = (nth l k).op := by
  unfold trAt tr
  split
  · split <;> rfl
  · rfl
/-- The sets of the subformulas. -/
def subL (M : Mo) (t : Fm) : List (BitVec 64) := (List.range (canon t).length).map fun k => (semT M (trAt (canon t) k)).1
theorem subL_len (M : Mo) (t : Fm) : (subL M t).length = (canon t).length := by simp [subL]
theorem subL_nth (M : Mo) (t : Fm) {k : Nat} (hk : k < (canon t).length) : nth (subL M t) k = (semT M (trAt (canon t) k)).1 := by
  unfold subL; rw [nth_mapX _ hk]
theorem agr_sem {M : Mo} {t s : Fm} (ht : fok t) (hs : sbt s t) {v w : Nat} (h : agr (subL M t) v w = true) : bt (semT M s).1 v = bt (semT M s).1 w := by
  obtain ⟨k, hk, rfl⟩ := sbt_at ht hs
  refine agr_iff.1 h _ ?_
  rw [← subL_nth M t hk]
  exact nth_mem (by rw [subL_len]; exact hk)
/-- A right model and a formula about knowledge that fits it. -/
structure Vw (M : Mo) (t : Fm) (N : Nat) : Prop where
  ok : MoOk M N
  fk : fok t
  sz : fsize t ≤ 200
  fl : (semT M t).2 = true
  op : ∀ s, sbt s t → s.op ≤ 10
theorem useOf_know {o : Int} (h : (useOf o).2 = true) (h2 : (useOf o).1.frag.toNat < 2) : o ≤ 10 := by
  rcases useOf_cases o h with rfl | rfl | rfl | rfl | rfl | rfl | rfl | rfl | rfl | rfl | rfl | rfl | rfl | rfl | rfl | rfl | rfl | rfl | rfl | rfl | rfl <;> first | decide | (exfalso; revert h2; decide)
theorem ops_know {f : List Nd} (hf : fCheck f = 0) (hk : fFrags f < 2) {s : Fm} (hs : sbt s (rt f)) : s.op ≤ 10 := by
  have hF := IsF.of hf
  obtain ⟨k, hkl, rfl⟩ := sbt_at hF.fk hs
  rw [trAt_op]
  have hn : nth (canon (rt f)) k ∈ fCompact f := by rw [hF.compact]; exact nth_mem hkl
  have h1 := (fCompact_ok f).1 _ hn
  have h2 : fragN (nth (canon (rt f)) k) < 2 ^ 1 := (unionL_lt_iff 1 fragN (fCompact f)).1 hk _ hn
  exact useOf_know h1.op h2
theorem fact_bit {f : List Nd} (hf : fCheck f = 0) {i : Nat} (hi : i < 8) (hs : sbt (.leaf 3 (i : Int) 0 0) (rt f)) : (fFacts f).testBit i = true := by
  have hF := IsF.of hf
  obtain ⟨k, hkl, e⟩ := sbt_at hF.fk hs
  have hn : nth (canon (rt f)) k ∈ fCompact f := by rw [hF.compact]; exact nth_mem hkl
  refine (unionL_bit factN i _).2 ⟨_, hn, ?_⟩
  have ho : (nth (canon (rt f)) k).op = 3 := by rw [← trAt_op, e]; rfl
  have hix : (nth (canon (rt f)) k).i = (i : Int) := by
    have hx : (useOf (nth (canon (rt f)) k).op).1.x = false := by rw [ho]; rfl
    rw [trAt_leaf hkl hx] at e
    injection e
  unfold factN
  rw [ho, hix]
  have : (useOf 3).1.fact = true := rfl
  rw [if_pos this, Int.toNat_natCast, Nat.mod_eq_of_lt (by omega), Nat.testBit_two_pow_self]
theorem vw_of {M : Mo} {f : List Nd} (hM : moCheck M = 0) (hf : fCheck f = 0) (hk : fFrags f < 2) (hr : reqErr M f = 0) : ∃ N, Vw M (rt f) N := by
  obtain ⟨N, ok⟩ := moCheck_ok hM
  have hF := IsF.of hf
  refine ⟨N, ok, hF.fk, ?_, ?_, fun s hs => ops_know hf hk hs⟩
  · have := hF.sz
    have h2 := (fCheck_ok.1 hf).2.1
    omega
  · have h := (set_sem hM hF).1
    rw [hr] at h
    exact h.symm
/-! The quotient. -/
/-- The facts of the classes: those that the formula does not use are false. -/
def filV (M : Mo) (facts : Nat) (reps : List Nat) : List (BitVec 64) := (List.range M.val.length).map fun p => setTo (fun c => facts.testBit p && bt (nth M.val p) (nth reps c)) reps.length
def filR (A : Nat) (reps : List Nat) (R : Nat → Nat → Nat → Bool) : List (List (BitVec 64)) := (List.range A).map fun a => reps.map fun w => setTo (fun d => R a w (nth reps d)) reps.length
def filM (M : Mo) (facts : Nat) (reps : List Nat) (R : Nat → Nat → Nat → Bool) : Mo := ⟨reps.length, filV M facts reps, filR M.rel.length reps R⟩
section
variable {M : Mo} {facts N : Nat} {reps : List Nat} {R : Nat → Nat → Nat → Bool}
theorem filM_val (h64 : reps.length ≤ 64) {p c : Nat} (hp : p < M.val.length) (hc : c < reps.length) : bt (nth (filM M facts reps R).val p) c = (facts.testBit p && bt (nth M.val p) (nth reps c)) := by
  show bt (nth (filV M facts reps) p) c = _
  unfold filV
  rw [nth_mapX _ hp, bt_setTo _ (by omega)]
  simp [hc]
theorem filM_rel (h64 : reps.length ≤ 64) {a c d : Nat} (ha : a < M.rel.length) (hc : c < reps.length) (hd : d < reps.length) : bt (nth (nth (filM M facts reps R).rel a) c) d = R a (nth reps c) (nth reps d) := by
  show bt (nth (nth (filR M.rel.length reps R) a) c) d = _
  unfold filR
  rw [nth_mapX _ ha, nth_mapN _ _ hc, bt_setTo _ (by omega)]
  simp [hd]
theorem filM_ok (ok : MoOk M N) (h1 : 1 ≤ reps.length) (h64 : reps.length ≤ 64) : MoOk (filM M facts reps R) reps.length := by
  refine ⟨rfl, h1, h64, ?_, ?_, ?_, ?_, ?_⟩
  · show (filR M.rel.length reps R).length ≤ 4
    simp [filR]; exact ok.rel
  · show (filV M facts reps).length ≤ 8
    simp [filV]; exact ok.val
  · intro r hr
    obtain ⟨a, -, rfl⟩ := List.mem_map.1 (show r ∈ filR M.rel.length reps R from hr)
    simp
  · intro s hs
    obtain ⟨p, -, rfl⟩ := List.mem_map.1 (show s ∈ filV M facts reps from hs)
    exact andNot_zero.2 (setTo_le _ _)
  · intro r hr s hs
    obtain ⟨a, -, rfl⟩ := List.mem_map.1 (show r ∈ filR M.rel.length reps R from hr)
    obtain ⟨w, -, rfl⟩ := List.mem_map.1 hs
    exact andNot_zero.2 (setTo_le _ _)
end
theorem repL_pos (L : List (BitVec 64)) {N : Nat} (h : 1 ≤ N) : 1 ≤ (repL L N).length := by
  have : 0 ∈ repL L N := repL_mem.2 ⟨by omega, Nat.le_zero.1 (lowOf_le L 0)⟩
  exact List.length_pos_of_mem this
/-- What makes a relation between lowest worlds a filtration. -/
structure FilR (M : Mo) (t : Fm) (N : Nat) (R : Nat → Nat → Nat → Bool) : Prop where
  fwd : ∀ a, a < M.rel.length → ∀ w u, w < N → u < N → bt (nth (nth M.rel a) w) u = true → R a (lowOf (subL M t) w) (lowOf (subL M t) u) = true
  know : ∀ (a : Nat) (x : Fm), a < M.rel.length → sbt (.un 9 (a : Int) 0 0 x) t → ∀ w u, w < N → u < N → R a (lowOf (subL M t) w) (lowOf (subL M t) u) = true → bt (semT M (.un 9 (a : Int) 0 0 x)).1 w = true → bt (semT M x).1 u = true
  poss : ∀ (a : Nat) (x : Fm), a < M.rel.length → sbt (.un 10 (a : Int) 0 0 x) t → ∀ w u, w < N → u < N → R a (lowOf (subL M t) w) (lowOf (subL M t) u) = true → bt (semT M x).1 u = true → bt (semT M (.un 10 (a : Int) 0 0 x)).1 w = true
/-- A filtration respects all subformulas. -/
theorem fil_ok {M : Mo} {f : List Nd} {N : Nat} {R : Nat → Nat → Nat → Bool} (hf : fCheck f = 0) (v : Vw M (rt f) N) (h : FilR M (rt f) N R) :
    FilOk M (filM M (fFacts f) (repL (subL M (rt f)) N) R) N (repL (subL M (rt f)) N).length (clsOf (subL M (rt f)) N) (fun s => sbt s (rt f)) := by
  have hl : (repL (subL M (rt f)) N).length ≤ 64 := Nat.le_trans (repL_len _ _) v.ok.most
  have hR : ∀ a, a < M.rel.length → ∀ w u, w < N → u < N → bt (nth (nth (filM M (fFacts f) (repL (subL M (rt f)) N) R).rel a) (clsOf (subL M (rt f)) N w)) (clsOf (subL M (rt f)) N u) = R a (lowOf (subL M (rt f)) w) (lowOf (subL M (rt f)) u) := fun a ha w u hw hu => by
    rw [filM_rel hl ha (clsOf_lt _ hw) (clsOf_lt _ hu), clsOf_nth _ hw, clsOf_nth _ hu]
  refine ⟨v.ok, filM_ok v.ok (repL_pos _ v.ok.one) hl, by simp [filM, filR], by simp [filM, filV], fun w hw => clsOf_lt _ hw, fun c hc => ⟨_, rep_lt hc, clsOf_rep hc⟩, fun t c ht hk => sbt_kid ht hk, fun t ht => ⟨sbt_fok v.fk ht, v.op t ht⟩, ?_, ?_, ?_, ?_⟩
  · intro i hi ht w hw
    have hv := v.ok.val
    rw [filM_val hl hi (clsOf_lt _ hw), fact_bit hf (by omega) ht, clsOf_nth _ hw, Bool.true_and]
    have e : (semT M (.leaf 3 (i : Int) 0 0)).1 = nth M.val i := by
      have : ¬ ((M.val.length : Int) ≤ (i : Int)) := by omega
      simp [semT, valN, this]
    rw [← e]
    exact agr_sem v.fk ht (agr_symm (lowOf_agr _ w))
  · intro a ha w u hw hu hb
    rw [hR a ha w u hw hu]; exact h.fwd a ha w u hw hu hb
  · intro a x ha ht _ w u hw hu hb hk
    rw [hR a ha w u hw hu] at hb
    exact h.know a x ha ht w u hw hu hb hk
  · intro a x ha ht _ w u hw hu hb hx
    rw [hR a ha w u hw hu] at hb
    exact h.poss a x ha ht w u hw hu hb hx
/-- What the law looks for: the sets of the subformulas on both sides. -/
theorem keeps_law {M : Mo} {f : List Nd} {N : Nat} {R : Nat → Nat → Nat → Bool} (hf : fCheck f = 0) (v : Vw M (rt f) N) (h : FilR M (rt f) N R) {k w : Nat} (hk : k < (canon (rt f)).length) (hw : w < N) :
    bt (nth (subL M (rt f)) k) w = bt (nth (subL (filM M (fFacts f) (repL (subL M (rt f)) N) R) (rt f)) k) (clsOf (subL M (rt f)) N w) ∧ clsOf (subL M (rt f)) N w < (repL (subL M (rt f)) N).length := by
  rw [subL_nth _ _ hk, subL_nth _ _ hk]
  exact ⟨(fil_lemma (fil_ok hf v h) _ (at_sbt v.fk hk) (flag_sub v.fl (at_sbt v.fk hk))).2 w hw, clsOf_lt _ hw⟩
theorem keeps_flag {M : Mo} {f : List Nd} {N : Nat} {R : Nat → Nat → Nat → Bool} (hf : fCheck f = 0) (v : Vw M (rt f) N) (h : FilR M (rt f) N R) : (semT (filM M (fFacts f) (repL (subL M (rt f)) N) R) (rt f)).2 = true :=
  (fil_lemma (fil_ok hf v h) _ (sbt_refl _) v.fl).1
end Wt

/- Plain: the formula of a truth table. -/
namespace Wt
open Go Go.RowKit Go.Proofs Fm

/-- All valuations of n facts. -/
def fullB (n : Nat) : BitVec 64 := if n = 6 then 18446744073709551615#64 else 1#64 <<< (2 ^ n) - 1#64
def ccFact (i : Int) : List Nd := fB ⟨3, i, 0, 0, 0, 0⟩ []
def ccNot (f : List Nd) : List Nd := fB ⟨4, 0, 0, 0, 0, 0⟩ [f]
def ccAnd (f g : List Nd) : List Nd := fB ⟨5, 0, 0, 0, 0, 0⟩ [f, g]
def ccOr (f g : List Nd) : List Nd := fB ⟨6, 0, 0, 0, 0, 0⟩ [f, g]
def ccImp (f g : List Nd) : List Nd := fB ⟨7, 0, 0, 0, 0, 0⟩ [f, g]
def ccIff (f g : List Nd) : List Nd := fB ⟨8, 0, 0, 0, 0, 0⟩ [f, g]
def ccDist (g : Int) (f : List Nd) : List Nd := fB ⟨12, 0, 0, g, 0, 0⟩ [f]
def ccTrue : List Nd := fB ⟨1, 0, 0, 0, 0, 0⟩ []
def ccFalse : List Nd := fB ⟨2, 0, 0, 0, 0, 0⟩ []
/-- The formula of a table, by cases of the last fact. -/
def decF : Nat → BitVec 64 → List Nd
  | 0, t => if t = 0#64 then ccFalse else ccTrue
  | n + 1, t =>
    if t = 0#64 then ccFalse else if t = fullB (n + 1) then ccTrue
    else
      let low := t &&& fullB n
      let high := t >>> (2 ^ n)
      if low = high then decF n low
      else
        let p := ccFact (n : Int)
        if low = 0#64 ∧ high = fullB n then p
        else if high = 0#64 ∧ low = fullB n then ccNot p
        else if low = 0#64 then ccAnd p (decF n high)
        else if high = 0#64 then ccAnd (ccNot p) (decF n low)
        else if low = fullB n then ccImp p (decF n high)
        else if high = fullB n then ccOr p (decF n low)
        else ccAnd (ccImp p (decF n high)) (ccOr p (decF n low))
/-- The formula of the valuations that a property selects. -/
def amongF (n : Nat) (p : Nat → Bool) : List Nd := decF n (setTo p (2 ^ n))
/-- The number of true facts. -/
def onesN (v : Nat) : Nat := (List.range 64).countP fun i => v.testBit i
end Wt

/- The state of wittingref05's walk (the canonical list so far, the numbers of the nodes that are done), and what a call of put does to it: plain facts. -/
namespace Wt
open Go Go.RowKit Go.Maps Go.Proofs Fm

theorem node_fields : (Tryz.prog.fieldsOf 109).toList.map (fun f => (f.name == "_", f.type, f.offset)) = [(false, 3, 0), (false, 3, 1), (false, 3, 2), (false, 3, 3), (false, 3, 4), (false, 3, 5)] := by kernel_rfl
theorem node_struct : Tryz.prog.underlying 109 = some (.struct (Tryz.prog.fieldsOf 109)) := by kernel_rfl
theorem node_held : Tryz.prog.stoodInHeld 109 = false := by kernel_rfl
theorem eqFields_ints {P : Program} {w : World} (d : Nat) (h3 : P.underlying 3 = some (.int .i64)) (hp3 : P.plainKey 3 = true) (xs ys : Array Value) : ∀ (fs : List Field) (o : Nat) (us bs : List Int), fs.map (fun f => (f.name == "_", f.type, f.offset)) = (List.range' o us.length).map (fun k => (false, 3, k)) →
    us.length = bs.length → (∀ k, k < us.length → xs[o + k]? = some (.int .i64 (us.getD k 0))) → (∀ k, k < us.length → ys[o + k]? = some (.int .i64 (bs.getD k 0))) →
    (Op.eqFields (d + 1) xs ys fs).run P w = .ok (decide (us = bs)) w
  | [], o, us, bs, hf, hl, _, _ => by
    have : us = [] := by cases us with | nil => rfl | cons a us => simp [List.range'] at hf
    subst this
    have : bs = [] := by cases bs with | nil => rfl | cons b bs => simp at hl
    subst this
    simp [Op.eqFields]
  | f :: fs, o, [], bs, hf, hl, _, _ => by simp at hf
  | f :: fs, o, a :: us, [], hf, hl, _, _ => by simp at hl
  | f :: fs, o, a :: us, b :: bs, hf, hl, hx, hy => by
    simp only [List.map_cons, List.length_cons, List.range'_succ, List.cons.injEq, Prod.mk.injEq] at hf
    obtain ⟨⟨h1, h2, h4⟩, hf⟩ := hf
    have ih := eqFields_ints (w := w) d h3 hp3 xs ys fs (o + 1) us bs hf (by simpa using hl) (fun k hk => by have := hx (k + 1) (by simp; omega); rw [show o + (k + 1) = o + 1 + k by omega] at this; simpa using this) (fun k hk => by have := hy (k + 1) (by simp; omega); rw [show o + (k + 1) = o + 1 + k by omega] at this; simpa using this)
    have hx0 := hx 0 (by simp)
    have hy0 := hy 0 (by simp)
    simp at hx0 hy0
    unfold Op.eqFields
    rw [if_pos (by simpa using h1), h2, h4]
    have p1 := run_part_plain (P := P) (w := w) (e := 3) (xs := xs) (off := o) hp3 hx0
    have p2 := run_part_plain (P := P) (w := w) (e := 3) (xs := ys) (off := o) hp3 hy0
    have p3 := run_equalIn_int (P := P) (w := w) d 3 .i64 .i64 a b h3
    simp only [Sem.run_bind, p1, p2, p3, Result.andThen]
    by_cases hab : a = b
    · subst hab
      simp [ih]
    · simp [hab]
theorem int_plain : Tryz.prog.plainKey 3 = true := by kernel_rfl
/-- Nodes are compared field by field. -/
theorem run_nd_eql (a b : Nd) (W : World) : (binOp .eql 109 a.val b.val).run Tryz.prog W = .ok (.bool (decide (a = b))) W := by
  have h := eqFields_ints (P := Tryz.prog) (w := W) 9998 Tryz.underlying3 int_plain #[.int .i64 a.op, .int .i64 a.i, .int .i64 a.e, .int .i64 a.g, .int .i64 a.x, .int .i64 a.y] #[.int .i64 b.op, .int .i64 b.i, .int .i64 b.e, .int .i64 b.g, .int .i64 b.x, .int .i64 b.y] (Tryz.prog.fieldsOf 109).toList 0 [a.op, a.i, a.e, a.g, a.x, a.y] [b.op, b.i, b.e, b.g, b.x, b.y] (by rw [node_fields]; rfl) rfl
    (fun k hk => by
      rcases (show k = 0 ∨ k = 1 ∨ k = 2 ∨ k = 3 ∨ k = 4 ∨ k = 5 by simp at hk; omega) with rfl | rfl | rfl | rfl | rfl | rfl <;> rfl)
    (fun k hk => by
      rcases (show k = 0 ∨ k = 1 ∨ k = 2 ∨ k = 3 ∨ k = 4 ∨ k = 5 by simp at hk; omega) with rfl | rfl | rfl | rfl | rfl | rfl <;> rfl)
  unfold Nd.val
  rw [run_eql_struct, run_equalIn_agg (P := Tryz.prog) (w := W) (t := 109) (ht := node_struct) (hp := node_held), h]
  have : decide (a = b) = decide ([a.op, a.i, a.e, a.g, a.x, a.y] = [b.op, b.i, b.e, b.g, b.x, b.y]) := by
    cases a; cases b; simp
  rw [this]
  rfl

/-- What may differ behind a call: the state's block, the numbers' block, the list's own block, and what is new. -/
structure FR (wb g : Nat) (v : Value) (W W' : World) (v' : Value) : Prop where
  size : W.heap.size ≤ W'.heap.size
  keep : ∀ k, k < W.heap.size → k ≠ wb → k ≠ g → some k ≠ v.ownBlock → W'.heap[k]? = W.heap[k]?
  own : v'.ownBlock = v.ownBlock ∨ ∀ b, v'.ownBlock = some b → W.heap.size ≤ b
theorem FR.refl (wb g : Nat) (v : Value) (W : World) : FR wb g v W W v := ⟨Nat.le_refl _, fun _ _ _ _ _ => rfl, .inl rfl⟩
theorem FR.trans {wb g : Nat} {v v1 v2 : Value} {W W1 W2 : World} (a : FR wb g v W W1 v1) (b : FR wb g v1 W1 W2 v2) : FR wb g v W W2 v2 where
  size := Nat.le_trans a.size b.size
  keep k h1 h2 h3 h4 := by
    have hne : some k ≠ v1.ownBlock := by
      rcases a.own with e | e
      · rw [e]; exact h4
      · intro e2
        have := e k e2.symm
        omega
    exact (b.keep k (Nat.lt_of_lt_of_le h1 a.size) h2 h3 hne).trans (a.keep k h1 h2 h3 h4)
  own := by
    rcases b.own with e | e
    · rw [e]; exact a.own
    · exact .inr fun g hg => Nat.le_trans a.size (e g hg)
theorem FR.ext {wb g : Nat} {v v1 : Value} {W W1 W2 : World} (a : FR wb g v W W1 v1) (b : Ext W1 W2) : FR wb g v W W2 v1 :=
  a.trans ⟨b.size, fun k h1 _ _ _ => b.block k h1, .inl rfl⟩
theorem FR.pre {wb g : Nat} {v v1 : Value} {W W1 W2 : World} (b : Ext W W1) (a : FR wb g v W1 W2 v1) : FR wb g v W W2 v1 :=
  FR.trans (v1 := v) ⟨b.size, fun k h1 _ _ _ => b.block k h1, .inl rfl⟩ a
/-- A block that lies apart from the state is as it was. -/
theorem FR.block {wb g : Nat} {v v1 : Value} {W W1 : World} (a : FR wb g v W W1 v1) {k : Nat} (h1 : k < W.heap.size) (h2 : k ≠ wb) (h3 : k ≠ g) (h4 : some k ≠ v.ownBlock) : W1.heap[k]? = W.heap[k]? := a.keep k h1 h2 h3 h4
theorem FR.xb {wb g : Nat} {v v1 : Value} {W W1 : World} (a : FR wb g v W W1 v1) {b : Nat} (hb : b < W.heap.size) (hv : some b ≠ v.ownBlock) : some b ≠ v1.ownBlock := by
  rcases a.own with e | e
  · rw [e]; exact hv
  · intro e2; have := e b e2.symm; omega

section
variable (w : World) (wb g c : Nat) (l : List Nd)
/-- The state of wittingref05's walk over a formula. -/
structure RS (W : World) (L : List Fm) (v : Value) (D : List Int) : Prop where
  lo : w.heap.size ≤ wb
  hi : wb < W.heap.size
  ext : Ext w W
  co : W.cell? ⟨wb, 0, none⟩ = some v
  cd : W.cell? ⟨wb, 1, none⟩ = some (.slice (some ⟨g, 0, none⟩) l.length c)
  fz : ∀ o, W.frozen? ⟨wb, o, none⟩ = false
  own : W.ownsRow (wb + 1) 109 6 v L.length (rowN (encL L))
  dn : OG W (wb + 1) 3 (.int .i64) g l.length c D
  ne : v.ownBlock ≠ some g
  dD : ∀ i, i < l.length → nth D i = -1 ∨ (trAt l i ∈ L ∧ nth D i = idx L (trAt l i))
  nd : L.Nodup
  cl : Cl L
  ok : AllOk L
  sub : ∀ t ∈ L, t ∈ (List.range l.length).map (trAt l)
variable {w wb g c l} {W : World} {L : List Fm} {v : Value} {D : List Int}
theorem RS.len (h : RS w wb g c l W L v D) : L.length ≤ l.length := by
  have := nodup_sub_len h.nd h.sub
  simpa using this
theorem RS.vb (h : RS w wb g c l W L v D) : ∀ b, v.ownBlock = some b → wb + 1 ≤ b ∧ b < W.heap.size := h.own.lt
theorem RS.gb (h : RS w wb g c l W L v D) : wb + 1 ≤ g ∧ g < W.heap.size := ⟨h.dn.base_le, h.dn.lt⟩
/-- The state lives on where its blocks are as they were. -/
theorem RS.ext' (h : RS w wb g c l W L v D) {W' : World} (e : Ext W W') : RS w wb g c l W' L v D := by
  have hz := h.hi
  refine ⟨h.lo, by have := e.size; omega, h.ext.trans e, e.cell h.co, e.cell h.cd, fun o => ?_, ?_, h.dn.ext e, h.ne, h.dD, h.nd, h.cl, h.ok, h.sub⟩
  · rw [World.frozen?_of_block (w := W) (e.block _ hz)]; exact h.fz o
  · exact h.own.kept (row := none) ⟨e.os, e.tape, e.output, e.size, fun k hk _ => e.block k hk⟩ (by cases v.ownBlock <;> simp)
theorem RS.slice (h : RS w wb g c l W L v D) (hl : l.length ≤ 1000) : ∃ va vc, v = .slice va L.length vc ∧ RN W va (encL L) := by
  obtain ⟨va, vc, hv, hrn⟩ := RN_of_own (l := encL L) (by rw [encL_length]; exact h.own) (by rw [encL_length]; have := h.len; omega)
  rw [encL_length] at hv
  exact ⟨va, vc, hv, hrn⟩
/-- An append to the list, and its store. -/
theorem RS.push (h : RS w wb g c l W L v D) {t : Fm} (hn : t ∉ L) (hk : ∀ c, kid c t → c ∈ L) (ht : fok t) (hs : t ∈ (List.range l.length).map (trAt l)) {W1 : World} {v' : Value}
    (ho : W1.ownsRow (wb + 1) 109 6 v' (L.length + 1) (rowN (encL L) ++ ndCells (ndOf L t))) (g1 : W.grownBy W1 v.ownBlock) (hv : v'.ownBlock = v.ownBlock ∨ ∀ b, v'.ownBlock = some b → W.heap.size ≤ b) :
    RS w wb g c l (W1.setCell ⟨wb, 0, none⟩ v') (L ++ [t]) v' D ∧ FR wb g v W (W1.setCell ⟨wb, 0, none⟩ v') v' := by
  have hz := h.hi
  have hlo := h.lo
  have hgb := h.gb
  have hvb := h.vb
  have hz1 : W.heap.size ≤ W1.heap.size := g1.size
  have hwv : some wb ≠ v.ownBlock := fun e => by have := (hvb wb e.symm).1; omega
  have hgv : some g ≠ v.ownBlock := fun e => h.ne e.symm
  have co1 : W1.cell? ⟨wb, 0, none⟩ = some v := g1.cell h.co (by simpa using hwv)
  have cd1 : W1.cell? ⟨wb, 1, none⟩ = some (.slice (some ⟨g, 0, none⟩) l.length c) := g1.cell h.cd (by simpa using hwv)
  have hlt : ∀ b, v'.ownBlock = some b → wb + 1 ≤ b ∧ b < W1.heap.size := ho.lt
  have hwv' : v'.ownBlock ≠ some wb := fun e => by have := (hlt wb e).1; omega
  have dn1 : OG W1 (wb + 1) 3 (.int .i64) g l.length c D := ⟨h.dn.len, h.dn.row.kept g1 (by simpa [Value.ownBlock] using hgv)⟩
  have e1 : (L ++ [t]).length = L.length + 1 := by simp
  have e2 : rowN (encL (L ++ [t])) = rowN (encL L) ++ ndCells (ndOf L t) := by rw [encL_snoc h.cl hk, rowN_append]; simp [rowN]
  refine ⟨⟨hlo, by simp [World.setCell]; omega, ?_, World.cell?_setCell_same _ _ _ co1, ?_, fun o => ?_, ?_, dn1.other 0 v' (by omega), ?_, ?_, ?_, h.cl.snoc' hn hk, ?_, ?_⟩, ⟨by simpa [World.setCell] using hz1, fun k h1 h2 h3 h4 => ?_, hv⟩⟩
  · exact (ext_of_grown h.ext g1 (fun k hk => by have := (hvb k hk).1; omega)).setCell (by simp; omega) _
  · rw [World.cell?_setCell_other _ _ _ _ (by simp)]; exact cd1
  · rw [World.frozen?_setCell, World.frozen?_of_block (g1.block wb hz hwv)]; exact h.fz o
  · rw [e1, e2]
    exact ho.kept (row := some wb) ⟨rfl, rfl, rfl, by simp, fun j _ hj => heap_setCell_other W1 ⟨wb, 0, none⟩ j v' (fun e => hj (by simp [e]))⟩ (.inr hwv')
  · intro e
    rcases hv with hv | hv
    · rw [hv] at e; exact h.ne e
    · have := hv g e; omega
  · intro i hi
    rcases h.dD i hi with h1 | ⟨h1, h2⟩
    · exact .inl h1
    · exact .inr ⟨by simp [h1], by rw [idx_append h1]; exact h2⟩
  · rw [List.nodup_append]
    refine ⟨h.nd, by simp, fun a ha b hb => ?_⟩
    simp at hb
    subst hb
    rintro rfl
    exact hn ha
  · intro s hs'
    simp only [List.mem_append, List.mem_singleton] at hs'
    rcases hs' with h1 | rfl
    · exact h.ok s h1
    · exact ht
  · intro s hs'
    simp only [List.mem_append, List.mem_singleton] at hs'
    rcases hs' with h1 | rfl
    · exact h.sub s h1
    · exact hs
  · rw [Below.heap_setCell _ _ _ _ (by simpa using h2)]
    exact g1.block k h1 h4
/-- A node's number is written down. -/
theorem RS.mark (h : RS w wb g c l W L v D) {i : Nat} (hi : i < l.length) (hm : trAt l i ∈ L) : RS w wb g c l (W.setCell ⟨g, i, none⟩ (.int .i64 (idx L (trAt l i)))) L v (D.set i (idx L (trAt l i) : Int)) ∧ FR wb g v W (W.setCell ⟨g, i, none⟩ (.int .i64 (idx L (trAt l i)))) v := by
  have hz := h.hi
  have hlo := h.lo
  have hgb := h.gb
  have hdl := h.dn.len
  refine ⟨⟨hlo, by simpa [World.setCell] using hz, h.ext.setCell (by simp; omega) _, ?_, ?_, fun o => ?_, ?_, h.dn.set i _, h.ne, ?_, h.nd, h.cl, h.ok, h.sub⟩, ⟨by simp [World.setCell], fun k h1 h2 h3 h4 => ?_, .inl rfl⟩⟩
  · rw [World.cell?_setCell_other _ _ _ _ (by simp; try omega)]; exact h.co
  · rw [World.cell?_setCell_other _ _ _ _ (by simp; try omega)]; exact h.cd
  · rw [World.frozen?_setCell]; exact h.fz o
  · exact h.own.kept (row := some g) ⟨rfl, rfl, rfl, by simp, fun j _ hj => heap_setCell_other W ⟨g, i, none⟩ j _ (fun e => hj (by simp [e]))⟩ (.inr h.ne)
  · intro j hj
    by_cases hij : i = j
    · subst hij
      refine .inr ⟨hm, ?_⟩
      rw [nth_eq _ _ (by rw [List.length_set]; omega)]
      simp
    · have : nth (D.set i (idx L (trAt l i) : Int)) j = nth D j := by
        rw [nth_eq _ _ (by rw [List.length_set]; omega), nth_eq _ _ (by omega)]
        exact List.getElem_set_ne hij _
      rw [this]
      exact h.dD j hj
  · exact Below.heap_setCell _ _ _ _ (by simpa using h3)
/-- A store into a block that lies apart. -/
theorem RS.setBox (h : RS w wb g c l W L v D) {b : Nat} (h0 : w.heap.size ≤ b) (h1 : b ≠ wb) (h2 : b ≠ g) (h3 : some b ≠ v.ownBlock) (o : Nat) (u : Value) : RS w wb g c l (W.setCell ⟨b, o, none⟩ u) L v D := by
  refine ⟨h.lo, by simpa [World.setCell] using h.hi, h.ext.setCell (by simpa using h0) _, ?_, ?_, fun o => ?_, ?_, h.dn.other o u (Ne.symm h2), h.ne, h.dD, h.nd, h.cl, h.ok, h.sub⟩
  · rw [World.cell?_setCell_other _ _ _ _ (by simp)]; exact h.co
  · rw [World.cell?_setCell_other _ _ _ _ (by simp)]; exact h.cd
  · rw [World.frozen?_setCell]; exact h.fz o
  · exact h.own.kept (row := some b) ⟨rfl, rfl, rfl, by simp, fun j _ hj => heap_setCell_other W ⟨b, o, none⟩ j u (fun e => hj (by simp [e]))⟩ (.inr (Ne.symm h3))
theorem FR.setNew {wb g : Nat} {v v1 : Value} {W W1 : World} (a : FR wb g v W W1 v1) {b : Nat} (hb : W.heap.size ≤ b) (o : Nat) (u : Value) : FR wb g v W (W1.setCell ⟨b, o, none⟩ u) v1 :=
  ⟨by have := a.size; simpa [World.setCell] using this, fun k h1 h2 h3 h4 => (Below.heap_setCell _ _ _ _ (by simp; omega)).trans (a.keep k h1 h2 h3 h4), a.own⟩
/-- Where a node lies in the list. -/
theorem RS.found (h : RS w wb g c l W L v D) {t : Fm} (hk : ∀ c, kid c t → c ∈ L) (ht : fok t) {k : Nat} (hlt : k < L.length) (he : nth (encL L) k = ndOf L t) : t ∈ L ∧ k = idx L t := by
  have h1 : nth (encL L) k = ndOf L L[k] := by
    rw [nth_eq _ _ (by rw [encL_length]; exact hlt)]
    exact encL_get hlt
  have hm : L[k] ∈ L := List.getElem_mem hlt
  have h2 : L[k] = t := ndOf_inj (h.ok _ hm) ht (fun c hc => h.cl.kid hm hc) hk (by rw [← h1, he])
  exact ⟨h2 ▸ hm, by rw [← h2, idx_getElem h.nd hlt]⟩
theorem RS.none (_h : RS w wb g c l W L v D) {t : Fm} (hno : ∀ j, 0 ≤ j → j < L.length → nth (encL L) j ≠ ndOf L t) : t ∉ L := fun hm => by
  refine hno (idx L t) (Nat.zero_le _) (idx_lt hm) ?_
  rw [nth_eq _ _ (by rw [encL_length]; exact idx_lt hm)]
  rw [encL_get (idx_lt hm), getElem_idx hm]
end
end Wt
