/- Plain laws: what the laws of the checker compute by their own rounds is what the checker answers. -/
import Derived.Test.YtdnpgadkklgjeaaDoorSet
namespace Wt
open Go Go.RowKit Go.Proofs Fm

/-- Is p true of all numbers below? -/
def allQ (p : Nat → Bool) : Nat → Bool
  | 0 => true
  | q + 1 => allQ p q && p q
theorem allQ_iff (p : Nat → Bool) : ∀ n, allQ p n = true ↔ ∀ q, q < n → p q = true
  | 0 => by simp [allQ]
  | n + 1 => by
    rw [allQ, Bool.and_eq_true, allQ_iff p n]
    constructor
    · rintro ⟨h1, h2⟩ q hq
      rcases Nat.lt_or_ge q n with h | h
      · exact h1 q h
      · obtain rfl : q = n := by omega
        exact h2
    · exact fun h => ⟨fun q hq => h q (by omega), h n (by omega)⟩
theorem sub_or_iff {a b z : BitVec 64} : Sub (a ||| b) z ↔ Sub a z ∧ Sub b z :=
  ⟨fun h => ⟨(Sub.orL a b).trans h, (Sub.orR a b).trans h⟩, fun h => h.1.or h.2⟩
theorem sub_bool (a z : BitVec 64) : (a &&& ~~~ z == 0#64) = true ↔ Sub a z := by rw [beq_iff_eq]; exact andNot_zero
theorem or_sub (a b z : BitVec 64) : ((a ||| b) &&& ~~~ z == 0#64) = ((a &&& ~~~ z == 0#64) && (b &&& ~~~ z == 0#64)) := by
  rw [Bool.eq_iff_iff, Bool.and_eq_true, sub_bool, sub_bool, sub_bool]; exact sub_or_iff
theorem gRow_all (R : List (List (BitVec 64))) (G k N : Nat) (Z : BitVec 64) : ∀ q, (gRow (jOf false) (zOf false N) R G k q &&& ~~~ Z == 0#64) = allQ (fun q => !G.testBit q || (nth (nth R q) k &&& ~~~ Z == 0#64)) q
  | 0 => by simp [gRow, zOf, allQ]
  | q + 1 => by
    have ih := gRow_all R G k N Z q
    rw [allQ, ← ih]
    cases hb : G.testBit q
    · rw [gRow_no hb]; simp
    · rw [gRow_yes hb]
      show ((_ ||| _) &&& _ == _) = _
      rw [or_sub]; simp
section
variable {M : Mo} {N : Nat} (ok : MoOk M N)
include ok
theorem group_row {G : Nat} (h1 : 1 ≤ G) (h2 : (G : Int) < p2 M.rel.length) {k : Nat} (hk : k < N) : nth (groupOf M G) k = gRow (jOf false) (zOf false N) M.rel G k M.rel.length := by
  show nth (gather (jOf false) M G) k = _
  rw [gather_rows false M G N ok h1 h2, gRows, nth_eq _ _ (by simpa using hk)]
  simp
theorem meet_row {G : Nat} (h1 : 1 ≤ G) (h2 : (G : Int) < p2 M.rel.length) {k : Nat} (hk : k < N) : nth (meetOf M G) k = gRow (jOf true) (zOf true N) M.rel G k M.rel.length := by
  show nth (gather (jOf true) M G) k = _
  rw [gather_rows true M G N ok h1 h2, gRows, nth_eq _ _ (by simpa using hk)]
  simp
theorem bt_group {G : Nat} (h1 : 1 ≤ G) (h2 : (G : Int) < p2 M.rel.length) (Z : BitVec 64) {k : Nat} (hk : k < 64) :
    bt (relBox (groupOf M G) Z) k = (decide (k < N) && allQ (fun q => !G.testBit q || (nth (nth M.rel q) k &&& ~~~ Z == 0#64)) M.rel.length) := by
  obtain ⟨hl, hrow⟩ := group_in ok h1 h2
  rw [bt_relBox _ _ _ hk, hl, rel_ok hl ok.most hrow]
  by_cases hn : k < N
  · rw [group_row ok h1 h2 hn, gRow_all]; simp [hn]
  · simp [hn]
theorem bt_agent {q : Nat} (hq : q < M.rel.length) (Z : BitVec 64) {k : Nat} (hk : k < 64) : bt (relBox (nth M.rel q) Z) k = (decide (k < N) && (nth (nth M.rel q) k &&& ~~~ Z == 0#64)) := by
  obtain ⟨hl, hrow⟩ := row_in ok hq
  rw [bt_relBox _ _ _ hk, hl, rel_ok hl ok.most hrow]; simp
end

/-! The greatest fixed point. -/
def insK (M : Mo) (x y s : BitVec 64) (w : Nat) : Nat → Bool := allQ fun q => (nth (nth M.rel q) w &&& x) &&& ~~~ (y &&& s) == 0#64
def nextK (M : Mo) (x y s : BitVec 64) : Nat → BitVec 64
  | 0 => 0#64
  | w + 1 => if insK M x y s w M.rel.length then nextK M x y s w ||| 1#64 <<< w else nextK M x y s w
def fxS (M : Mo) (N : Nat) (x y : BitVec 64) : Nat → BitVec 64
  | 0 => allW N
  | k + 1 => fxS M N x y k &&& nextK M x y (fxS M N x y k) N
theorem bt_nextK (M : Mo) (x y s : BitVec 64) {k : Nat} (hk : k < 64) : ∀ m, bt (nextK M x y s m) k = (decide (k < m) && insK M x y s k M.rel.length)
  | 0 => by simp [nextK, bt_zero]
  | m + 1 => by
    have ih := bt_nextK M x y s hk m
    unfold nextK
    by_cases h : k = m
    · subst h
      cases hi : insK M x y s k M.rel.length
      · rw [if_neg (by simp), ih]; simp
      · rw [if_pos rfl, bt_or, ih, bt_shl1]; simp [hk]
    · cases hi : insK M x y s m M.rel.length
      · rw [if_neg (by simp), ih]
        congr 1; simp; omega
      · rw [if_pos rfl, bt_or, ih, bt_shl1]
        have : (decide (k < m + 1)) = decide (k < m) := by simp; omega
        rw [this]; simp [h]
theorem and_sub {s t : BitVec 64} (h : Sub t s) : s &&& t = t := bt_ext fun k hk => by
  have := h k hk
  rw [bt_and]
  cases h1 : bt t k <;> simp_all
theorem row_cond {r x y s : BitVec 64} {N : Nat} (h : Sub r (allW N)) : ((r &&& x) &&& ~~~ (y &&& s) == 0#64) = (r &&& ~~~ ((allW N &&& ~~~ x) ||| (y &&& s)) == 0#64) := by
  rw [Bool.eq_iff_iff, sub_bool, sub_bool]
  constructor
  · intro h2 k hk hb
    rw [bt_or, bt_and, bt_not, h k hk hb]
    have := h2 k hk
    rw [bt_and, hb] at this
    cases hx : bt x k
    · simp [hk]
    · rw [this (by simp [hx])]; simp
  · intro h2 k hk hb
    rw [bt_and, Bool.and_eq_true] at hb
    have := h2 k hk hb.1
    rw [bt_or, bt_and, bt_not, hb.2] at this
    simpa using this
theorem fxS_cmn {M : Mo} {N : Nat} (ok : MoOk M N) {G : Nat} (h1 : 1 ≤ G) (h2 : (G : Int) < p2 M.rel.length) (hG : ∀ q, q < M.rel.length → G.testBit q = true) (x y : BitVec 64) : ∀ k, fxS M N x y k = cmnI (groupOf M G) N x y k
  | 0 => rfl
  | k + 1 => by
    have ih := fxS_cmn ok h1 h2 hG x y k
    have hst := cmnI_step (groupOf M G) N (gather_le _ M G ok) x y k
    have e : nextK M x y (fxS M N x y k) N = cmnI (groupOf M G) N x y (k + 1) := by
      apply bt_ext
      intro w hw
      show _ = bt (relBox (groupOf M G) ((allW N &&& ~~~ x) ||| (y &&& cmnI (groupOf M G) N x y k))) w
      rw [bt_nextK M x y _ hw, bt_group ok h1 h2 _ hw, ih]
      by_cases hn : w < N
      · congr 1
        rw [Bool.eq_iff_iff]
        unfold insK
        rw [allQ_iff, allQ_iff]
        constructor
        · intro h q hq
          rw [hG q hq, ← row_cond ((row_in ok hq).2 w hn)]
          simpa using h q hq
        · intro h q hq
          have := h q hq
          rw [hG q hq, ← row_cond ((row_in ok hq).2 w hn)] at this
          simpa using this
      · simp [hn]
    show fxS M N x y k &&& nextK M x y (fxS M N x y k) N = _
    rw [e, ih]
    exact and_sub hst
theorem fix_law {M : Mo} {N : Nat} (ok : MoOk M N) {G : Nat} (h1 : 1 ≤ G) (h2 : (G : Int) < p2 M.rel.length) (hG : ∀ q, q < M.rel.length → G.testBit q = true) (x y : BitVec 64) : cmn (groupOf M G) N x y = fxS M N x y (N + 1) := by
  rw [fxS_cmn ok h1 h2 hG]; exact (cmnI_fix (groupOf M G) N (gather_le _ M G ok) x y).symm

/-! Duals: what everybody knows, and distributed knowledge. -/
def wantK (M : Mo) (G N : Nat) (s : BitVec 64) : Nat → BitVec 64
  | 0 => allW N
  | q + 1 => if G.testBit q then wantK M G N s q &&& relBox (nth M.rel q) s else wantK M G N s q
def someK (M : Mo) (G : Nat) (s : BitVec 64) : Nat → BitVec 64
  | 0 => 0#64
  | q + 1 => if G.testBit q then someK M G s q ||| relBox (nth M.rel q) s else someK M G s q
theorem bt_wantK {M : Mo} {N : Nat} (ok : MoOk M N) (G : Nat) (s : BitVec 64) {k : Nat} (hk : k < 64) : ∀ q, q ≤ M.rel.length → bt (wantK M G N s q) k = (decide (k < N) && allQ (fun q => !G.testBit q || (nth (nth M.rel q) k &&& ~~~ s == 0#64)) q)
  | 0, _ => by simp [wantK, allQ, bt_allW, hk]
  | q + 1, hq => by
    have ih := bt_wantK ok G s hk q (by omega)
    unfold wantK
    rw [allQ]
    cases hb : G.testBit q
    · rw [if_neg (by simp), ih]; simp
    · rw [if_pos rfl, bt_and, ih, bt_agent ok (by omega) s hk]
      cases decide (k < N) <;> simp
theorem every_law {M : Mo} {N : Nat} (ok : MoOk M N) {G : Nat} (h1 : 1 ≤ G) (h2 : (G : Int) < p2 M.rel.length) (s : BitVec 64) : relBox (groupOf M G) s = wantK M G N s M.rel.length :=
  bt_ext fun k hk => by rw [bt_group ok h1 h2 s hk, bt_wantK ok G s hk _ (Nat.le_refl _)]
theorem someK_in {M : Mo} {N : Nat} (ok : MoOk M N) (G : Nat) (s : BitVec 64) {k : Nat} (hk : k < 64) : ∀ q, q ≤ M.rel.length → bt (someK M G s q) k = true → k < N ∧ Sub (gRow (jOf true) (zOf true N) M.rel G k q) s
  | 0, _, h => by simp [someK, bt_zero] at h
  | q + 1, hq, h => by
    unfold someK at h
    cases hb : G.testBit q
    · rw [hb, if_neg (by simp)] at h
      rw [gRow_no hb]; exact someK_in ok G s hk q (by omega) h
    · rw [hb, if_pos rfl, bt_or, Bool.or_eq_true] at h
      rw [gRow_yes hb]
      show k < N ∧ Sub (_ &&& _) s
      rcases h with h | h
      · obtain ⟨h3, h4⟩ := someK_in ok G s hk q (by omega) h
        exact ⟨h3, h4.and1⟩
      · rw [bt_agent ok (by omega) s hk, Bool.and_eq_true, sub_bool] at h
        refine ⟨by simpa using h.1, ?_⟩
        rw [BitVec.and_comm]; exact h.2.and1
theorem dist_law {M : Mo} {N : Nat} (ok : MoOk M N) {G : Nat} (h1 : 1 ≤ G) (h2 : (G : Int) < p2 M.rel.length) (s : BitVec 64) : (someK M G s M.rel.length &&& ~~~ relBox (meetOf M G) s == 0#64) = true := by
  rw [sub_bool]
  intro k hk hb
  obtain ⟨h3, h4⟩ := someK_in ok G s hk _ (Nat.le_refl _) hb
  obtain ⟨hl, hrow⟩ := meet_in ok h1 h2
  rw [bt_relBox _ _ _ hk, hl, rel_ok hl ok.most hrow, meet_row ok h1 h2 h3]
  simp only [decide_true, Bool.true_and, Bool.and_eq_true, decide_eq_true_eq]
  exact ⟨h3, (sub_bool _ _).2 h4⟩
theorem dual_law {M : Mo} {N : Nat} (ok : MoOk M N) {q : Nat} (hq : q < M.rel.length) (s : BitVec 64) : allW N &&& ~~~ relBox (nth M.rel q) (allW N &&& ~~~ s) = relDia (nth M.rel q) s := by
  obtain ⟨hl, hrow⟩ := row_in ok hq
  have h0 := rel_ok hl ok.most hrow
  rw [← boxTo_rel hl h0]; exact boxTo_dia hl h0 hrow

/-! Paths of bounded length. -/
def nxP (r : List (BitVec 64)) (x e : BitVec 64) : Nat → BitVec 64
  | 0 => 0#64
  | v + 1 => if bt e v then nxP r x e v ||| (nth r v &&& x) else nxP r x e v
def endP (r : List (BitVec 64)) (x : BitVec 64) (N : Nat) (e : BitVec 64) : Nat → BitVec 64
  | 0 => e
  | k + 1 => nxP r x (endP r x N e k) N
def badP (r : List (BitVec 64)) (x y : BitVec 64) (N : Nat) (e : BitVec 64) : Nat → Bool
  | 0 => false
  | k + 1 => badP r x y N e k || (endP r x N e (k + 1) &&& ~~~ y != 0#64)
theorem bt_nxP (r : List (BitVec 64)) (x e : BitVec 64) {k : Nat} : ∀ m, bt (nxP r x e m) k = true ↔ ∃ v, v < m ∧ bt e v = true ∧ bt (nth r v &&& x) k = true
  | 0 => by simp [nxP, bt_zero]
  | m + 1 => by
    have ih := bt_nxP r x e (k := k) m
    unfold nxP
    cases hm : bt e m
    · rw [if_neg (by simp), ih]
      constructor
      · rintro ⟨v, h1, h2⟩; exact ⟨v, by omega, h2⟩
      · rintro ⟨v, h1, h2, h3⟩
        rcases Nat.lt_or_ge v m with h | h
        · exact ⟨v, h, h2, h3⟩
        · obtain rfl : v = m := by omega
          rw [hm] at h2; cases h2
    · rw [if_pos rfl, bt_or, Bool.or_eq_true, ih]
      constructor
      · rintro (⟨v, h1, h2⟩ | h)
        · exact ⟨v, by omega, h2⟩
        · exact ⟨m, by omega, hm, h⟩
      · rintro ⟨v, h1, h2, h3⟩
        rcases Nat.lt_or_ge v m with h | h
        · exact .inl ⟨v, h, h2, h3⟩
        · obtain rfl : v = m := by omega
          exact .inr h3
theorem endP_shift (r : List (BitVec 64)) (x : BitVec 64) (N : Nat) (e : BitVec 64) : ∀ k, endP r x N e (k + 1) = endP r x N (nxP r x e N) k
  | 0 => rfl
  | k + 1 => by
    show nxP r x (endP r x N e (k + 1)) N = nxP r x (endP r x N (nxP r x e N) k) N
    rw [endP_shift r x N e k]
theorem badP_shift (r : List (BitVec 64)) (x y : BitVec 64) (N : Nat) (e : BitVec 64) : ∀ k, badP r x y N e (k + 1) = ((nxP r x e N &&& ~~~ y != 0#64) || badP r x y N (nxP r x e N) k)
  | 0 => by
    show (false || (nxP r x e N &&& ~~~ y != 0#64)) = ((nxP r x e N &&& ~~~ y != 0#64) || false)
    simp
  | k + 1 => by
    show (badP r x y N e (k + 1) || (endP r x N e (k + 2) &&& ~~~ y != 0#64)) = ((nxP r x e N &&& ~~~ y != 0#64) || (badP r x y N (nxP r x e N) k || (endP r x N (nxP r x e N) (k + 1) &&& ~~~ y != 0#64)))
    rw [badP_shift r x y N e k, endP_shift r x N e (k + 1), Bool.or_assoc]
theorem bt_lt64 {s : BitVec 64} {k : Nat} (h : bt s k = true) : k < 64 := by
  rcases Nat.lt_or_ge k 64 with h2 | h2
  · exact h2
  · rw [show bt s k = false from BitVec.getLsbD_of_ge s k h2] at h; cases h
theorem path_main {r : List (BitVec 64)} {N : Nat} (hr : r.length = N) (hn : N ≤ 64) (hrow : ∀ v, v < N → Sub (nth r v) (allW N)) (x y : BitVec 64) : ∀ k e, Sub e (allW N) → (badP r x y N e k = false ↔ ∀ v, v < N → bt e v = true → bt (cmnI r N x y k) v = true)
  | 0, e, he => by
    constructor
    · intro _ v hv _
      show bt (allW N) v = true
      rw [bt_allW]; simp; omega
    · intro _; rfl
  | k + 1, e, he => by
    have hnx : Sub (nxP r x e N) (allW N) := fun u hu hb => by
      obtain ⟨v, h1, _, h3⟩ := (bt_nxP r x e N).1 hb
      rw [bt_and, Bool.and_eq_true] at h3
      exact hrow v h1 u hu h3.1
    have ih := path_main hr hn hrow x y k (nxP r x e N) hnx
    have hok := rel_ok hr hn hrow
    have step : ∀ v, v < N → (bt (cmnI r N x y (k + 1)) v = true ↔ Sub (nth r v &&& x) (y &&& cmnI r N x y k)) := by
      intro v hv
      show bt (relBox r ((allW N &&& ~~~ x) ||| (y &&& cmnI r N x y k))) v = true ↔ _
      rw [bt_relBox _ _ _ (by omega), hr, hok, ← row_cond (hrow v hv), ← sub_bool]
      simp [hv]
    rw [badP_shift, Bool.or_eq_false_iff, ih, bne_eq_false_iff_eq, andNot_zero]
    constructor
    · rintro ⟨h1, h2⟩ v hv hb
      rw [step v hv]
      intro u hu hbu
      have hn2 : bt (nxP r x e N) u = true := (bt_nxP r x e N).2 ⟨v, hv, hb, hbu⟩
      have huN : u < N := by
        have := hnx u hu hn2
        rw [bt_allW] at this; simp at this; exact this.2
      rw [bt_and, h1 u hu hn2, h2 u huN hn2]; rfl
    · intro h
      have key : ∀ u, u < 64 → bt (nxP r x e N) u = true → bt (y &&& cmnI r N x y k) u = true := by
        intro u hu hb
        obtain ⟨v, h1, h2, h3⟩ := (bt_nxP r x e N).1 hb
        exact (step v h1).1 (h v h1 h2) u hu h3
      constructor
      · intro u hu hb
        have := key u hu hb
        rw [bt_and, Bool.and_eq_true] at this; exact this.1
      · intro u hu hb
        have := key u (by omega) hb
        rw [bt_and, Bool.and_eq_true] at this; exact this.2
theorem path_law {r : List (BitVec 64)} {N : Nat} (hr : r.length = N) (hn : N ≤ 64) (hrow : ∀ v, v < N → Sub (nth r v) (allW N)) (x y : BitVec 64) {w : Nat} (hw : w < N) : badP r x y N (1#64 <<< w) N = !bt (cmn r N x y) w := by
  have h := path_main hr hn hrow x y N (1#64 <<< w) (fun u hu hb => by
    rw [bt_shl1] at hb; rw [bt_allW]; simp at hb ⊢; omega)
  have e : (∀ v, v < N → bt (1#64 <<< w) v = true → bt (cmnI r N x y N) v = true) ↔ bt (cmn r N x y) w = true := by
    constructor
    · intro h2
      exact h2 w hw (by rw [bt_shl1]; simp; omega)
    · intro h2 v hv hb
      rw [bt_shl1] at hb
      simp at hb
      rw [hb.2]; exact h2
  rw [e] at h
  cases hb : badP r x y N (1#64 <<< w) N
  · rw [h.1 hb]; rfl
  · cases hc : bt (cmn r N x y) w
    · rfl
    · rw [h.2 hc] at hb; cases hb
end Wt
