/- Plain laws: what the laws of the checker compute by their own rounds is what the checker answers. -/
import Derived.Test.YtoacdccachhjdaaGreatDoorMAAm
import Derived.Test.YtoacdccachhjdaaGreatDoorMAAj
namespace Wt
open Go Go.RowKit Go.Proofs Fm

/-- Is p true of all numbers below? -/
def allQ (p : Nat → Bool) : Nat → Bool
  | 0 => true
  | q + 1 => allQ p q && p q
theorem allQ_iff (p : Nat → Bool) : ∀ n, allQ p n = true ↔ ∀ q, q < n → p q = true
  | 0 => by simp [allQ]
  | n + 1 => by
    rw [allQ, Bool.and_eq_true, allQ_iff p n]
    constructor
    · rintro ⟨h1, h2⟩ q hq
      rcases Nat.lt_or_ge q n with h | h
      · exact h1 q h
      · obtain rfl : q = n := by omega
        exact h2
    · exact fun h => ⟨fun q hq => h q (by omega), h n (by omega)⟩
theorem sub_or_iff {a b z : BitVec 64} : Sub (a ||| b) z ↔ Sub a z ∧ Sub b z :=
  ⟨fun h => ⟨(Sub.orL a b).trans h, (Sub.orR a b).trans h⟩, fun h => h.1.or h.2⟩
theorem sub_bool (a z : BitVec 64) : (a &&& ~~~ z == 0#64) = true ↔ Sub a z := by rw [beq_iff_eq]; exact andNot_zero
theorem or_sub (a b z : BitVec 64) : ((a ||| b) &&& ~~~ z == 0#64) = ((a &&& ~~~ z == 0#64) && (b &&& ~~~ z == 0#64)) := by
  rw [Bool.eq_iff_iff, Bool.and_eq_true, sub_bool, sub_bool, sub_bool]; exact sub_or_iff
theorem gRow_all (R : List (List (BitVec 64))) (G k N : Nat) (Z : BitVec 64) : ∀ q, (gRow (jOf false) (zOf false N) R G k q &&& ~~~ Z == 0#64) = allQ (fun q => !G.testBit q || (nth (nth R q) k &&& ~~~ Z == 0#64)) q
  | 0 => by simp [gRow, zOf, allQ]
  | q + 1 => by
    have ih := gRow_all R G k N Z q
    rw [allQ, ← ih]
    cases hb : G.testBit q
    · rw [gRow_no hb]; simp
    · rw [gRow_yes hb]
      show ((_ ||| _) &&& _ == _) = _
      rw [or_sub]; simp
section
variable {M : Mo} {N : Nat} (ok : MoOk M N)
include ok
theorem group_row {G : Nat} (h1 : 1 ≤ G) (h2 : (G : Int) < p2 M.rel.length) {k : Nat} (hk : k < N) : nth (groupOf M G) k = gRow (jOf false) (zOf false N) M.rel G k M.rel.length := by
  show nth (gather (jOf false) M G) k = _
  rw [gather_rows false M G N ok h1 h2, gRows, nth_eq _ _ (by simpa using hk)]
  simp
theorem meet_row {G : Nat} (h1 : 1 ≤ G) (h2 : (G : Int) < p2 M.rel.length) {k : Nat} (hk : k < N) : nth (meetOf M G) k = gRow (jOf true) (zOf true N) M.rel G k M.rel.length := by
  show nth (gather (jOf true) M G) k = _
  rw [gather_rows true M G N ok h1 h2, gRows, nth_eq _ _ (by simpa using hk)]
  simp
theorem bt_group {G : Nat} (h1 : 1 ≤ G) (h2 : (G : Int) < p2 M.rel.length) (Z : BitVec 64) {k : Nat} (hk : k < 64) :
    bt (relBox (groupOf M G) Z) k = (decide (k < N) && allQ (fun q => !G.testBit q || (nth (nth M.rel q) k &&& ~~~ Z == 0#64)) M.rel.length) := by
  obtain ⟨hl, hrow⟩ := group_in ok h1 h2
  rw [bt_relBox _ _ _ hk, hl, rel_ok hl ok.most hrow]
  by_cases hn : k < N
  · rw [group_row ok h1 h2 hn, gRow_all]; simp [hn]
  · simp [hn]
theorem bt_agent {q : Nat} (hq : q < M.rel.length) (Z : BitVec 64) {k : Nat} (hk : k < 64) : bt (relBox (nth M.rel q) Z) k = (decide (k < N) && (nth (nth M.rel q) k &&& ~~~ Z == 0#64)) := by
  obtain ⟨hl, hrow⟩ := row_in ok hq
  rw [bt_relBox _ _ _ hk, hl, rel_ok hl ok.most hrow]; simp
end

/-! The greatest fixed point. -/
def insK (M : Mo) (x y s : BitVec 64) (w : Nat) : Nat → Bool := allQ fun q => (nth (nth M.rel q) w &&& x) &&& ~~~ (y &&& s) == 0#64
def nextK (M : Mo) (x y s : BitVec 64) : Nat → BitVec 64
  | 0 => 0#64
  | w + 1 => if insK M x y s w M.rel.length then nextK M x y s w ||| 1#64 <<< w else nextK M x y s w
def fxS (M : Mo) (N : Nat) (x y : BitVec 64) : Nat → BitVec 64
  | 0 => allW N
  | k + 1 => fxS M N x y k &&& nextK M x y (fxS M N x y k) N
theorem bt_nextK (M : Mo) (x y s : BitVec 64) {k : Nat} (hk : k < 64) : ∀ m, bt (nextK M x y s m) k = (decide (k < m) && insK M x y s k M.rel.length)
  | 0 => by simp [nextK, bt_zero]
  | m + 1 => by
    have ih := bt_nextK M x y s hk m
    unfold nextK
    by_cases h : k = m
    · subst h
      cases hi : insK M x y s k M.rel.length
      · rw [if_neg (by simp), ih]; simp
      · rw [if_pos rfl, bt_or, ih, bt_shl1]; simp [hk]
    · cases hi : insK M x y s m M.rel.length
      · rw [if_neg (by simp), ih]
        congr 1; simp; omega
      · rw [if_pos rfl, bt_or, ih, bt_shl1]
        have : (decide (k < m + 1)) = decide (k < m) := by simp; omega
        rw [this]; simp [h]
theorem and_sub {s t : BitVec 64} (h : Sub t s) : s &&& t = t := bt_ext fun k hk => by
  have := h k hk
  rw [bt_and]
  cases h1 : bt t k <;> simp_all
theorem row_cond {r x y s : BitVec 64} {N : Nat} (h : Sub r (allW N)) : ((r &&& x) &&& ~~~ (y &&& s) == 0#64) = (r &&& ~~~ ((allW N &&& ~~~ x) ||| (y &&& s)) == 0#64) := by
  rw [Bool.eq_iff_iff, sub_bool, sub_bool]
  constructor
  · intro h2 k hk hb
    rw [bt_or, bt_and, bt_not, h k hk hb]
    have := h2 k hk
    rw [bt_and, hb] at this
    cases hx : bt x k
    · simp [hk]
    · rw [this (by simp [hx])]; simp
  · intro h2 k hk hb
    rw [bt_and, Bool.and_eq_true] at hb
    have := h2 k hk hb.1
    rw [bt_or, bt_and, bt_not, hb.2] at this
    simpa using this
theorem fxS_cmn {M : Mo} {N : Nat} (ok : MoOk M N) {G : Nat} (h1 : 1 ≤ G) (h2 : (G : Int) < p2 M.rel.length) (hG : ∀ q, q < M.rel.length → G.testBit q = true) (x y : BitVec 64) : ∀ k, fxS M N x y k = cmnI (groupOf M G) N x y k
  | 0 => rfl
  | k + 1 => by
    have ih := fxS_cmn ok h1 h2 hG x y k
    have hst := cmnI_step (groupOf M G) N (gather_le _ M G ok) x y k
    have e : nextK M x y (fxS M N x y k) N = cmnI (groupOf M G) N x y (k + 1) := by
      apply bt_ext
      intro w hw
      show _ = bt (relBox (groupOf M G) ((allW N &&& ~~~ x) ||| (y &&& cmnI (groupOf M G) N x y k))) w
      rw [bt_nextK M x y _ hw, bt_group ok h1 h2 _ hw, ih]
      by_cases hn : w < N
      · congr 1
        rw [Bool.eq_iff_iff]
        unfold insK
        rw [allQ_iff, allQ_iff]
        constructor
        · intro h q hq
          rw [hG q hq, ← row_cond ((row_in ok hq).2 w hn)]
          simpa using h q hq
        · intro h q hq
          have := h q hq
          rw [hG q hq, ← row_cond ((row_in ok hq).2 w hn)] at this
          simpa using this
      · simp [hn]
    show fxS M N x y k &&& nextK M x y (fxS M N x y k) N = _
    rw [e, ih]
    exact and_sub hst
theorem fix_law {M : Mo} {N : Nat} (ok : MoOk M N) {G : Nat} (h1 : 1 ≤ G) (h2 : (G : Int) < p2 M.rel.length) (hG : ∀ q, q < M.rel.length → G.testBit q = true) (x y : BitVec 64) : cmn (groupOf M G) N x y = fxS M N x y (N + 1) := by
  rw [fxS_cmn ok h1 h2 hG]; exact (cmnI_fix (groupOf M G) N (gather_le _ M G ok) x y).symm

/-! Duals: what everybody knows, and distributed knowledge. -/
def wantK (M : Mo) (G N : Nat) (s : BitVec 64) : Nat → BitVec 64
  | 0 => allW N
  | q + 1 => if G.testBit q then wantK M G N s q &&& relBox (nth M.rel q) s else wantK M G N s q
def someK (M : Mo) (G : Nat) (s : BitVec 64) : Nat → BitVec 64
  | 0 => 0#64
  | q + 1 => if G.testBit q then someK M G s q ||| relBox (nth M.rel q) s else someK M G s q
theorem bt_wantK {M : Mo} {N : Nat} (ok : MoOk M N) (G : Nat) (s : BitVec 64) {k : Nat} (hk : k < 64) : ∀ q, q ≤ M.rel.length → bt (wantK M G N s q) k = (decide (k < N) && allQ (fun q => !G.testBit q || (nth (nth M.rel q) k &&& ~~~ s == 0#64)) q)
  | 0, _ => by simp [wantK, allQ, bt_allW, hk]
  | q + 1, hq => by
    have ih := bt_wantK ok G s hk q (by omega)
    unfold wantK
    rw [allQ]
    cases hb : G.testBit q
    · rw [if_neg (by simp), ih]; simp
    · rw [if_pos rfl, bt_and, ih, bt_agent ok (by omega) s hk]
      cases decide (k < N) <;> simp
theorem every_law {M : Mo} {N : Nat} (ok : MoOk M N) {G : Nat} (h1 : 1 ≤ G) (h2 : (G : Int) < p2 M.rel.length) (s : BitVec 64) : relBox (groupOf M G) s = wantK M G N s M.rel.length :=
  bt_ext fun k hk => by rw [bt_group ok h1 h2 s hk, bt_wantK ok G s hk _ (Nat.le_refl _)]
theorem someK_in {M : Mo} {N : Nat} (ok : MoOk M N) (G : Nat) (s : BitVec 64) {k : Nat} (hk : k < 64) : ∀ q, q ≤ M.rel.length → bt (someK M G s q) k = true → k < N ∧ Sub (gRow (jOf true) (zOf true N) M.rel G k q) s
  | 0, _, h => by simp [someK, bt_zero] at h
  | q + 1, hq, h => by
    unfold someK at h
    cases hb : G.testBit q
    · rw [hb, if_neg (by simp)] at h
      rw [gRow_no hb]; exact someK_in ok G s hk q (by omega) h
    · rw [hb, if_pos rfl, bt_or, Bool.or_eq_true] at h
      rw [gRow_yes hb]
      show k < N ∧ Sub (_ &&& _) s
      rcases h with h | h
      · obtain ⟨h3, h4⟩ := someK_in ok G s hk q (by omega) h
        exact ⟨h3, h4.and1⟩
      · rw [bt_agent ok (by omega) s hk, Bool.and_eq_true, sub_bool] at h
        refine ⟨by simpa using h.1, ?_⟩
        rw [BitVec.and_comm]; exact h.2.and1
theorem dist_law {M : Mo} {N : Nat} (ok : MoOk M N) {G : Nat} (h1 : 1 ≤ G) (h2 : (G : Int) < p2 M.rel.length) (s : BitVec 64) : (someK M G s M.rel.length &&& ~~~ relBox (meetOf M G) s == 0#64) = true := by
  rw [sub_bool]
  intro k hk hb
  obtain ⟨h3, h4⟩ := someK_in ok G s hk _ (Nat.le_refl _) hb
  obtain ⟨hl, hrow⟩ := meet_in ok h1 h2
  rw [bt_relBox _ _ _ hk, hl, rel_ok hl ok.most hrow, meet_row ok h1 h2 h3]
  simp only [decide_true, Bool.true_and, Bool.and_eq_true, decide_eq_true_eq]
  exact ⟨h3, (sub_bool _ _).2 h4⟩
theorem dual_law {M : Mo} {N : Nat} (ok : MoOk M N) {q : Nat} (hq : q < M.rel.length) (s : BitVec 64) : allW N &&& ~~~ relBox (nth M.rel q) (allW N &&& ~~~ s) = relDia (nth M.rel q) s := by
  obtain ⟨hl, hrow⟩ := row_in ok hq
  have h0 := rel_ok hl ok.most hrow
  rw [← boxTo_rel hl h0]; exact boxTo_dia hl h0 hrow

/-! Paths of bounded length. -/
def nxP (r : List (BitVec 64)) (x e : BitVec 64) : Nat → BitVec 64
  | 0 => 0#64
  | v + 1 => if bt e v then nxP r x e v ||| (nth r v &&& x) else nxP r x e v
def endP (r : List (BitVec 64)) (x : BitVec 64) (N : Nat) (e : BitVec 64) : Nat → BitVec 64
  | 0 => e
  | k + 1 => nxP r x (endP r x N e k) N
def badP (r : List (BitVec 64)) (x y : BitVec 64) (N : Nat) (e : BitVec 64) : Nat → Bool
  | 0 => false
  | k + 1 => badP r x y N e k || (endP r x N e (k + 1) &&& ~~~ y != 0#64)
theorem bt_nxP (r : List (BitVec 64)) (x e : BitVec 64) {k : Nat} : ∀ m, bt (nxP r x e m) k = true ↔ ∃ v, v < m ∧ bt e v = true ∧ bt (nth r v &&& x) k = true
  | 0 => by simp [nxP, bt_zero]
  | m + 1 => by
    have ih := bt_nxP r x e (k := k) m
    unfold nxP
    cases hm : bt e m
    · rw [if_neg (by simp), ih]
      constructor
      · rintro ⟨v, h1, h2⟩; exact ⟨v, by omega, h2⟩
      · rintro ⟨v, h1, h2, h3⟩
        rcases Nat.lt_or_ge v m with h | h
        · exact ⟨v, h, h2, h3⟩
        · obtain rfl : v = m := by omega
          rw [hm] at h2; cases h2
    · rw [if_pos rfl, bt_or, Bool.or_eq_true, ih]
      constructor
      · rintro (⟨v, h1, h2⟩ | h)
        · exact ⟨v, by omega, h2⟩
        · exact ⟨m, by omega, hm, h⟩
      · rintro ⟨v, h1, h2, h3⟩
        rcases Nat.lt_or_ge v m with h | h
        · exact .inl ⟨v, h, h2, h3⟩
        · obtain rfl : v = m := by omega
          exact .inr h3
theorem endP_shift (r : List (BitVec 64)) (x : BitVec 64) (N : Nat) (e : BitVec 64) : ∀ k, endP r x N e (k + 1) = endP r x N (nxP r x e N) k
  | 0 => rfl
  | k + 1 => by
    show nxP r x (endP r x N e (k + 1)) N = nxP r x (endP r x N (nxP r x e N) k) N
    rw [endP_shift r x N e k]
theorem badP_shift (r : List (BitVec 64)) (x y : BitVec 64) (N : Nat) (e : BitVec 64) : ∀ k, badP r x y N e (k + 1) = ((nxP r x e N &&& ~~~ y != 0#64) || badP r x y N (nxP r x e N) k)
  | 0 => by
    show (false || (nxP r x e N &&& ~~~ y != 0#64)) = ((nxP r x e N &&& ~~~ y != 0#64) || false)
    simp
  | k + 1 => by
    show (badP r x y N e (k + 1) || (endP r x N e (k + 2) &&& ~~~ y != 0#64)) = ((nxP r x e N &&& ~~~ y != 0#64) || (badP r x y N (nxP r x e N) k || (endP r x N (nxP r x e N) (k + 1) &&& ~~~ y != 0#64)))
    rw [badP_shift r x y N e k, endP_shift r x N e (k + 1), Bool.or_assoc]
theorem bt_lt64 {s : BitVec 64} {k : Nat} (h : bt s k = true) : k < 64 := by
  rcases Nat.lt_or_ge k 64 with h2 | h2
  · exact h2
  · rw [show bt s k = false from BitVec.getLsbD_of_ge s k h2] at h; cases h
theorem path_main {r : List (BitVec 64)} {N : Nat} (hr : r.length = N) (hn : N ≤ 64) (hrow : ∀ v, v < N → Sub (nth r v) (allW N)) (x y : BitVec 64) : ∀ k e, Sub e (allW N) → (badP r x y N e k = false ↔ ∀ v, v < N → bt e v = true → bt (cmnI r N x y k) v = true)
  | 0, e, he => by
    constructor
    · intro _ v hv _
      show bt (allW N) v = true
      rw [bt_allW]; simp; omega
    · intro _; rfl
  | k + 1, e, he => by
    have hnx : Sub (nxP r x e N) (allW N) := fun u hu hb => by
      obtain ⟨v, h1, _, h3⟩ := (bt_nxP r x e N).1 hb
      rw [bt_and, Bool.and_eq_true] at h3
      exact hrow v h1 u hu h3.1
    have ih := path_main hr hn hrow x y k (nxP r x e N) hnx
    have hok := rel_ok hr hn hrow
    have step : ∀ v, v < N → (bt (cmnI r N x y (k + 1)) v = true ↔ Sub (nth r v &&& x) (y &&& cmnI r N x y k)) := by
      intro v hv
      show bt (relBox r ((allW N &&& ~~~ x) ||| (y &&& cmnI r N x y k))) v = true ↔ _
      rw [bt_relBox _ _ _ (by omega), hr, hok, ← row_cond (hrow v hv), ← sub_bool]
      simp [hv]
    rw [badP_shift, Bool.or_eq_false_iff, ih, bne_eq_false_iff_eq, andNot_zero]
    constructor
    · rintro ⟨h1, h2⟩ v hv hb
      rw [step v hv]
      intro u hu hbu
      have hn2 : bt (nxP r x e N) u = true := (bt_nxP r x e N).2 ⟨v, hv, hb, hbu⟩
      have huN : u < N := by
        have := hnx u hu hn2
        rw [bt_allW] at this; simp at this; exact this.2
      rw [bt_and, h1 u hu hn2, h2 u huN hn2]; rfl
    · intro h
      have key : ∀ u, u < 64 → bt (nxP r x e N) u = true → bt (y &&& cmnI r N x y k) u = true := by
        intro u hu hb
        obtain ⟨v, h1, h2, h3⟩ := (bt_nxP r x e N).1 hb
        exact (step v h1).1 (h v h1 h2) u hu h3
      constructor
      · intro u hu hb
        have := key u hu hb
        rw [bt_and, Bool.and_eq_true] at this; exact this.1
      · intro u hu hb
        have := key u (by omega) hb
        rw [bt_and, Bool.and_eq_true] at this; exact this.2
theorem path_law {r : List (BitVec 64)} {N : Nat} (hr : r.length = N) (hn : N ≤ 64) (hrow : ∀ v, v < N → Sub (nth r v) (allW N)) (x y : BitVec 64) {w : Nat} (hw : w < N) : badP r x y N (1#64 <<< w) N = !bt (cmn r N x y) w := by
  have h := path_main hr hn hrow x y N (1#64 <<< w) (fun u hu hb => by
    rw [bt_shl1] at hb; rw [bt_allW]; simp at hb ⊢; omega)
  have e : (∀ v, v < N → bt (1#64 <<< w) v = true → bt (cmnI r N x y N) v = true) ↔ bt (cmn r N x y) w = true := by
    constructor
    · intro h2
      exact h2 w hw (by rw [bt_shl1]; simp; omega)
    · intro h2 v hv hb
      rw [bt_shl1] at hb
      simp at hb
      rw [hb.2]; exact h2
  rw [e] at h
  cases hb : badP r x y N (1#64 <<< w) N
  · rw [h.1 hb]; rfl
  · cases hc : bt (cmn r N x y) w
    · rfl
    · rw [h.2 hc] at hb; cases hb
end Wt

/- Plain laws: a model of some worlds of a model, closed under all relations, has the same sets at them. -/
namespace Wt
open Go Go.RowKit Go.Proofs Fm

/-- The model whose world i is the world of a list at this place. -/
def arrM (M : Mo) (ws : List Nat) : Mo := ⟨ws.length, M.val.map (fun s => pullL s ws), M.rel.map fun r => ws.map fun w => pullL (nth r w) ws⟩
/-- A relation of a model, at the worlds of a list, that leads to worlds of the list alone. -/
structure Arr (r r' : List (BitVec 64)) (N : Nat) (ws : List Nat) : Prop where
  len : r.length = N
  len' : r'.length = ws.length
  row : ∀ i, i < ws.length → nth r' i = pullL (nth r (nth ws i)) ws
  inN : ∀ v, v < N → Sub (nth r v) (allW N)
  cl : ∀ i, i < ws.length → ∀ u, bt (nth r (nth ws i)) u = true → ∃ j, j < ws.length ∧ nth ws j = u
/-- The sets agree at the worlds of the list. -/
def Agr (ws : List Nat) (x' x : BitVec 64) : Prop := ∀ i, i < ws.length → bt x' i = bt x (nth ws i)
section
variable {N : Nat} {ws : List Nat} (h64 : N ≤ 64) (hl : ws.length ≤ 64) (hlt : ∀ i, i < ws.length → nth ws i < N)
theorem pull_in (s : BitVec 64) (hl : ws.length ≤ 64) : Sub (pullL s ws) (allW ws.length) := fun k hk hb => by
  rw [bt_pullL s ws hl, Bool.and_eq_true] at hb
  rw [bt_allW]; simp at hb ⊢; exact ⟨hk, hb.1⟩
include hl in
theorem pull_agr (s : BitVec 64) : Agr ws (pullL s ws) s := fun i hi => by rw [bt_pullL s ws hl]; simp [hi]
include h64 hl hlt in
theorem all_agr : Agr ws (allW ws.length) (allW N) := fun i hi => by
  have := hlt i hi
  rw [bt_allW, bt_allW]
  have h1 : i < 64 := by omega
  have h2 : nth ws i < 64 := by omega
  simp [hi, h1, h2, this]
include h64 hl hlt in
theorem not_agr {x' x : BitVec 64} (h : Agr ws x' x) : Agr ws (allW ws.length &&& ~~~ x') (allW N &&& ~~~ x) := fun i hi => by
  have h1 : i < 64 := by omega
  have h2 : nth ws i < 64 := by have := hlt i hi; omega
  rw [bt_and, bt_and, bt_not, bt_not, all_agr h64 hl hlt i hi, h i hi]
  simp [h1, h2]
theorem and_agr {x' x y' y : BitVec 64} (h : Agr ws x' x) (h2 : Agr ws y' y) : Agr ws (x' &&& y') (x &&& y) := fun i hi => by rw [bt_and, bt_and, h i hi, h2 i hi]
theorem or_agr {x' x y' y : BitVec 64} (h : Agr ws x' x) (h2 : Agr ws y' y) : Agr ws (x' ||| y') (x ||| y) := fun i hi => by rw [bt_or, bt_or, h i hi, h2 i hi]
theorem xor_agr {x' x y' y : BitVec 64} (h : Agr ws x' x) (h2 : Agr ws y' y) : Agr ws (x' ^^^ y') (x ^^^ y) := fun i hi => by rw [bt_xor, bt_xor, h i hi, h2 i hi]
include h64 hl hlt in
theorem box_agr {r r' : List (BitVec 64)} (hA : Arr r r' N ws) {x' x : BitVec 64} (h : Agr ws x' x) : Agr ws (relBox r' x') (relBox r x) := fun i hi => by
  have hi64 : i < 64 := by omega
  have hwi := hlt i hi
  have hrow' : ∀ v, v < ws.length → Sub (nth r' v) (allW ws.length) := fun v hv => by rw [hA.row v hv]; exact pull_in _ hl
  rw [bt_relBox _ _ _ hi64, bt_relBox _ _ _ (by omega), hA.len, hA.len', rel_ok hA.len h64 hA.inN, rel_ok hA.len' hl hrow', hA.row i hi]
  have e : (pullL (nth r (nth ws i)) ws &&& ~~~ x' == 0#64) = (nth r (nth ws i) &&& ~~~ x == 0#64) := by
    rw [Bool.eq_iff_iff, sub_bool, sub_bool]
    constructor
    · intro h2 u hu hb
      obtain ⟨j, hj, rfl⟩ := hA.cl i hi u hb
      have h3 := h2 j (by omega) (by rw [bt_pullL _ _ hl]; simp [hj, hb])
      rw [h j hj] at h3; exact h3
    · intro h2 j hj hb
      rw [bt_pullL _ _ hl, Bool.and_eq_true, decide_eq_true_eq] at hb
      rw [h j hb.1]
      exact h2 _ (by have := hlt j hb.1; omega) hb.2
  rw [e]; simp [hi, hwi]
include h64 hl hlt in
theorem cmnI_agr {r r' : List (BitVec 64)} (hA : Arr r r' N ws) {c' c s' s : BitVec 64} (hc : Agr ws c' c) (hs : Agr ws s' s) : ∀ k, Agr ws (cmnI r' ws.length c' s' k) (cmnI r N c s k)
  | 0 => all_agr h64 hl hlt
  | k + 1 => box_agr h64 hl hlt hA (or_agr (not_agr h64 hl hlt hc) (and_agr hs (cmnI_agr hA hc hs k)))
include h64 hl hlt in
theorem cmn_agr (hN : ws.length ≤ N) {r r' : List (BitVec 64)} (hA : Arr r r' N ws) {c' c s' s : BitVec 64} (hc : Agr ws c' c) (hs : Agr ws s' s) : Agr ws (cmn r' ws.length c' s') (cmn r N c s) := by
  have hfix := cmnI_fix r' ws.length (by rw [hA.len']; exact Nat.le_refl _) c' s'
  have hk := cmnI_const r' ws.length c' s' ws.length hfix (N - ws.length)
  rw [show ws.length + (N - ws.length) = N by omega] at hk
  unfold cmn
  rw [← hk]
  exact cmnI_agr h64 hl hlt hA hc hs N
end
theorem nth_out {α : Type} [Inhabited α] {l : List α} {k : Nat} (h : l.length ≤ k) : nth l k = default := by unfold nth; simp [List.getD, h]
theorem pull_or (a b : BitVec 64) (ws : List Nat) (hl : ws.length ≤ 64) : pullL (a ||| b) ws = pullL a ws ||| pullL b ws := bt_ext fun k hk => by
  rw [bt_or, bt_pullL _ _ hl, bt_pullL _ _ hl, bt_pullL _ _ hl, bt_or]; cases decide (k < ws.length) <;> simp
theorem pull_and (a b : BitVec 64) (ws : List Nat) (hl : ws.length ≤ 64) : pullL (a &&& b) ws = pullL a ws &&& pullL b ws := bt_ext fun k hk => by
  rw [bt_and, bt_pullL _ _ hl, bt_pullL _ _ hl, bt_pullL _ _ hl, bt_and]; cases decide (k < ws.length) <;> simp
/-- Some worlds of a model, closed under all relations. -/
structure Subm (M : Mo) (N : Nat) (ws : List Nat) : Prop where
  ok : MoOk M N
  one : 1 ≤ ws.length
  inj : ws.Nodup
  lt : ∀ i, i < ws.length → nth ws i < N
  cl : ∀ q, q < M.rel.length → ∀ i, i < ws.length → ∀ u, bt (nth (nth M.rel q) (nth ws i)) u = true → ∃ j, j < ws.length ∧ nth ws j = u
section
variable {M : Mo} {N : Nat} {ws : List Nat} (h : Subm M N ws)
include h
theorem Subm.le : ws.length ≤ N := by
  have := nodup_sub_len (L := ws) (M := List.range N) h.inj (fun x hx => by
    obtain ⟨i, hi, rfl⟩ := List.getElem_of_mem hx
    have := h.lt i hi
    rw [nth_eq _ _ hi] at this
    exact List.mem_range.2 this)
  simpa using this
theorem Subm.l64 : ws.length ≤ 64 := Nat.le_trans h.le h.ok.most
omit h in
theorem arr_row {q : Nat} (hq : q < M.rel.length) : nth (arrM M ws).rel q = ws.map fun w => pullL (nth (nth M.rel q) w) ws := nth_mapN _ _ hq
omit h in
theorem arr_cell {q i : Nat} (hq : q < M.rel.length) (hi : i < ws.length) : nth (nth (arrM M ws).rel q) i = pullL (nth (nth M.rel q) (nth ws i)) ws := by
  rw [arr_row hq, nth_mapN _ _ hi]
theorem arr_ok : MoOk (arrM M ws) ws.length where
  worlds := rfl
  one := h.one
  most := h.l64
  rel := by simpa [arrM] using h.ok.rel
  val := by simpa [arrM] using h.ok.val
  row := fun r hr => by
    simp only [arrM, List.mem_map] at hr
    obtain ⟨r0, _, rfl⟩ := hr
    simp
  valIn := fun s hs => by
    simp only [arrM, List.mem_map] at hs
    obtain ⟨s0, _, rfl⟩ := hs
    exact andNot_zero.2 (pull_in _ h.l64)
  relIn := fun r hr s hs => by
    simp only [arrM, List.mem_map] at hr
    obtain ⟨r0, _, rfl⟩ := hr
    simp only [List.mem_map] at hs
    obtain ⟨w0, _, rfl⟩ := hs
    exact andNot_zero.2 (pull_in _ h.l64)
theorem agent_arr {q : Nat} (hq : q < M.rel.length) : Arr (nth M.rel q) (nth (arrM M ws).rel q) N ws where
  len := (row_in h.ok hq).1
  len' := by rw [arr_row hq]; simp
  row := fun i hi => arr_cell hq hi
  inN := (row_in h.ok hq).2
  cl := h.cl q hq
theorem gRow_arr (b : Bool) (G : Nat) {i : Nat} (hi : i < ws.length) : ∀ q, q ≤ M.rel.length → gRow (jOf b) (zOf b ws.length) (arrM M ws).rel G i q = pullL (gRow (jOf b) (zOf b N) M.rel G (nth ws i) q) ws
  | 0, _ => by
    show zOf b ws.length = pullL (zOf b N) ws
    apply bt_ext
    intro k hk
    rw [bt_pullL _ _ h.l64]
    cases b
    · simp [zOf, bt_zero]
    · show bt (allW ws.length) k = _
      rw [bt_allW]
      by_cases hk2 : k < ws.length
      · have := h.lt k hk2
        have h3 := h.ok.most
        show _ = (_ && bt (allW N) (nth ws k))
        rw [bt_allW]
        simp [hk, hk2, this]; omega
      · simp [hk2]
  | q + 1, hq => by
    have ih := gRow_arr b G hi q (by omega)
    cases hb : G.testBit q
    · rw [gRow_no hb, gRow_no hb]; exact ih
    · rw [gRow_yes hb, gRow_yes hb, ih, arr_cell (by omega) hi]
      cases b
      · exact (pull_or _ _ ws h.l64).symm
      · exact (pull_and _ _ ws h.l64).symm
omit h in
theorem rel_len : (arrM M ws).rel.length = M.rel.length := by simp [arrM]
theorem or_cl (G : Nat) {i : Nat} (hi : i < ws.length) {u : Nat} : ∀ q, q ≤ M.rel.length → bt (gRow (jOf false) (zOf false N) M.rel G (nth ws i) q) u = true → ∃ j, j < ws.length ∧ nth ws j = u
  | 0, _, hb => by simp [gRow, zOf, bt_zero] at hb
  | q + 1, hq, hb => by
    cases hg : G.testBit q
    · rw [gRow_no hg] at hb; exact or_cl G hi q (by omega) hb
    · rw [gRow_yes hg] at hb
      have hb : bt (_ ||| _) u = true := hb
      rw [bt_or, Bool.or_eq_true] at hb
      rcases hb with hb | hb
      · exact or_cl G hi q (by omega) hb
      · exact h.cl q (by omega) i hi u hb
omit h in
theorem and_sub_row (G : Nat) {v u p : Nat} (hp : G.testBit p = true) : ∀ q, p < q → bt (gRow (jOf true) (zOf true N) M.rel G v q) u = true → bt (nth (nth M.rel p) v) u = true
  | 0, hq, _ => absurd hq (Nat.not_lt_zero _)
  | q + 1, hq, hb => by
    by_cases hpq : p = q
    · subst hpq
      rw [gRow_yes hp] at hb
      have hb : bt (_ &&& _) u = true := hb
      rw [bt_and, Bool.and_eq_true] at hb
      exact hb.2
    · cases hg : G.testBit q
      · rw [gRow_no hg] at hb; exact and_sub_row G hp q (by omega) hb
      · rw [gRow_yes hg] at hb
        have hb : bt (_ &&& _) u = true := hb
        rw [bt_and, Bool.and_eq_true] at hb
        exact and_sub_row G hp q (by omega) hb.1
theorem group_arr {G : Nat} (h1 : 1 ≤ G) (h2 : (G : Int) < p2 M.rel.length) : Arr (groupOf M G) (groupOf (arrM M ws) G) N ws where
  len := (group_in h.ok h1 h2).1
  len' := (group_in (arr_ok h) h1 (by rw [rel_len]; exact h2)).1
  row := fun i hi => by rw [group_row (arr_ok h) h1 (by rw [rel_len]; exact h2) hi, group_row h.ok h1 h2 (h.lt i hi), rel_len, gRow_arr h false G hi _ (Nat.le_refl _)]
  inN := (group_in h.ok h1 h2).2
  cl := fun i hi u hb => by
    rw [group_row h.ok h1 h2 (h.lt i hi)] at hb
    exact or_cl h G hi _ (Nat.le_refl _) hb
theorem meet_arr {G : Nat} (h1 : 1 ≤ G) (h2 : (G : Int) < p2 M.rel.length) : Arr (meetOf M G) (meetOf (arrM M ws) G) N ws where
  len := (meet_in h.ok h1 h2).1
  len' := (meet_in (arr_ok h) h1 (by rw [rel_len]; exact h2)).1
  row := fun i hi => by rw [meet_row (arr_ok h) h1 (by rw [rel_len]; exact h2) hi, meet_row h.ok h1 h2 (h.lt i hi), rel_len, gRow_arr h true G hi _ (Nat.le_refl _)]
  inN := (meet_in h.ok h1 h2).2
  cl := fun i hi u hb => by
    rw [meet_row h.ok h1 h2 (h.lt i hi)] at hb
    obtain ⟨p, hp1, hp2⟩ : ∃ p, p < M.rel.length ∧ G.testBit p = true := by
      apply Classical.byContradiction
      intro hno
      have : G = 0 := by
        apply Nat.eq_of_testBit_eq
        intro i
        rw [Nat.zero_testBit]
        rcases Nat.lt_or_ge i M.rel.length with h3 | h3
        · cases hb2 : G.testBit i
          · rfl
          · exact absurd ⟨i, h3, hb2⟩ hno
        · apply Nat.testBit_lt_two_pow
          unfold p2 at h2
          exact Nat.lt_of_lt_of_le (by omega) (Nat.pow_le_pow_right (by omega) h3)
      omega
    exact h.cl p hp1 i hi u (and_sub_row G hp2 _ hp1 hb)
end
/-- Two answers agree. -/
def AgrP (ws : List Nat) (p' p : BitVec 64 × Bool) : Prop := p'.2 = p.2 ∧ Agr ws p'.1 p.1
theorem agrP_ite {ws : List Nat} {c : Prop} [Decidable c] {a' a b' b : BitVec 64 × Bool} (h1 : c → AgrP ws a' a) (h2 : ¬ c → AgrP ws b' b) : AgrP ws (if c then a' else b') (if c then a else b) := by
  by_cases hc : c
  · rw [if_pos hc, if_pos hc]; exact h1 hc
  · rw [if_neg hc, if_neg hc]; exact h2 hc
theorem zero_agr (ws : List Nat) : Agr ws 0#64 0#64 := fun i _ => by rw [bt_zero, bt_zero]
theorem zero_agrP (ws : List Nat) (b : Bool) : AgrP ws (0#64, b) (0#64, b) := ⟨rfl, zero_agr ws⟩
theorem relBox_nil (x : BitVec 64) : relBox [] x = 0#64 := by simp [relBox, boxTo]
theorem relDia_nil (x : BitVec 64) : relDia [] x = 0#64 := by simp [relDia, allW]
theorem cmn_nil {n : Nat} (hn : 1 ≤ n) (c s : BitVec 64) : cmn [] n c s = 0#64 := by
  obtain ⟨k, rfl⟩ : ∃ k, n = k + 1 := ⟨n - 1, by omega⟩
  show relBox [] ((allW (k + 1) &&& ~~~ c) ||| (s &&& cmnI [] (k + 1) c s k)) = 0#64
  exact relBox_nil _
theorem gather_no {M : Mo} {g : Int} (j : BitVec 64 → BitVec 64 → BitVec 64) (hg : g < 1) : gather j M g = [] := by
  unfold gather isGroup
  rw [if_neg (by simp; omega)]
section
variable {M : Mo} {N : Nat} {ws : List Nat} (h : Subm M N ws)
include h
theorem dia_agr {q : Nat} (hq : q < M.rel.length) {x' x : BitVec 64} (hx : Agr ws x' x) : Agr ws (relDia (nth (arrM M ws).rel q) x') (relDia (nth M.rel q) x) := by
  rw [← dual_law h.ok hq, ← dual_law (arr_ok h) (by rw [rel_len]; exact hq)]
  exact not_agr h.ok.most h.l64 h.lt (box_agr h.ok.most h.l64 h.lt (agent_arr h hq) (not_agr h.ok.most h.l64 h.lt hx))
theorem valN_arr (o i g : Int) {x' x y' y : BitVec 64} (hx : Agr ws x' x) (hy : Agr ws y' y) : AgrP ws (valN (arrM M ws) o i g x' y') (valN M o i g x y) := by
  have hA : (arrM M ws).worlds.toNat = ws.length := by simp [arrM]
  have hM : M.worlds.toNat = N := by rw [h.ok.worlds]; exact Int.toNat_natCast N
  have hv : (arrM M ws).val.length = M.val.length := by simp [arrM]
  have hr : (arrM M ws).rel.length = M.rel.length := rel_len
  have all := all_agr h.ok.most h.l64 h.lt
  have nt : ∀ {a' a : BitVec 64}, Agr ws a' a → Agr ws (allW ws.length &&& ~~~ a') (allW N &&& ~~~ a) := fun ha => not_agr h.ok.most h.l64 h.lt ha
  have bx : ∀ {r r' : List (BitVec 64)}, Arr r r' N ws → ∀ {a' a : BitVec 64}, Agr ws a' a → Agr ws (relBox r' a') (relBox r a) := by
    intro r r' hr a' a ha
    exact box_agr h.ok.most h.l64 h.lt hr ha
  have grp : ∀ {j : BitVec 64 → BitVec 64 → BitVec 64}, (∀ G : Nat, 1 ≤ G → (G : Int) < p2 M.rel.length → Arr (gather j M G) (gather j (arrM M ws) G) N ws) → ¬ p2 M.rel.length ≤ g → Agr ws (relBox (gather j (arrM M ws) g) x') (relBox (gather j M g) x) := by
    intro j hj hg
    by_cases hg1 : g < 1
    · rw [gather_no j hg1, gather_no j hg1, relBox_nil, relBox_nil]; exact zero_agr ws
    · obtain ⟨G, rfl⟩ := Int.eq_ofNat_of_zero_le (show 0 ≤ g by omega)
      exact bx (hj G (by omega) (by omega)) hx
  unfold valN
  rw [hA, hM, hv, hr]
  refine agrP_ite (fun _ => ⟨rfl, all⟩) fun _ => agrP_ite (fun _ => zero_agrP ws true) fun _ => agrP_ite (fun _ => agrP_ite (fun _ => zero_agrP ws false) fun hi => ⟨rfl, ?_⟩) fun _ => agrP_ite (fun _ => ⟨rfl, nt hx⟩) fun _ => agrP_ite (fun _ => ⟨rfl, and_agr hx hy⟩) fun _ => agrP_ite (fun _ => ⟨rfl, or_agr hx hy⟩) fun _ => agrP_ite (fun _ => ⟨rfl, or_agr (nt hx) hy⟩) fun _ => agrP_ite (fun _ => ⟨rfl, nt (xor_agr hx hy)⟩) fun _ => agrP_ite (fun _ => agrP_ite (fun _ => zero_agrP ws false) fun hi => ⟨rfl, ?_⟩) fun _ => agrP_ite (fun _ => agrP_ite (fun _ => zero_agrP ws false) fun hi => ⟨rfl, ?_⟩) fun _ => agrP_ite (fun _ => agrP_ite (fun _ => zero_agrP ws false) fun hg => ⟨rfl, grp (fun G h1 h2 => group_arr h h1 h2) hg⟩) fun _ => agrP_ite (fun _ => agrP_ite (fun _ => zero_agrP ws false) fun hg => ⟨rfl, grp (fun G h1 h2 => meet_arr h h1 h2) hg⟩) fun _ => agrP_ite (fun _ => agrP_ite (fun _ => zero_agrP ws false) fun hg => ⟨rfl, ?_⟩) fun _ => zero_agrP ws false
  · show Agr ws (nth (arrM M ws).val i.toNat) (nth M.val i.toNat)
    by_cases hk : i.toNat < M.val.length
    · have e : nth (arrM M ws).val i.toNat = pullL (nth M.val i.toNat) ws := nth_mapN _ _ hk
      rw [e]; exact pull_agr h.l64 _
    · rw [nth_out (by rw [hv]; omega), nth_out (by omega)]; exact zero_agr ws
  · show Agr ws (relBox (nth (arrM M ws).rel i.toNat) x') (relBox (nth M.rel i.toNat) x)
    by_cases hk : i.toNat < M.rel.length
    · exact bx (agent_arr h hk) hx
    · rw [nth_out (by rw [hr]; omega), nth_out (by omega), show (default : List (BitVec 64)) = [] from rfl, relBox_nil, relBox_nil]; exact zero_agr ws
  · show Agr ws (relDia (nth (arrM M ws).rel i.toNat) x') (relDia (nth M.rel i.toNat) x)
    by_cases hk : i.toNat < M.rel.length
    · exact dia_agr h hk hx
    · rw [nth_out (by rw [hr]; omega), nth_out (by omega), show (default : List (BitVec 64)) = [] from rfl, relDia_nil, relDia_nil]; exact zero_agr ws
  · show Agr ws (cmn (groupOf (arrM M ws) g) ws.length x' y') (cmn (groupOf M g) N x y)
    by_cases hg1 : g < 1
    · have e1 : groupOf (arrM M ws) g = [] := gather_no _ hg1
      have e2 : groupOf M g = [] := gather_no _ hg1
      rw [e1, e2, cmn_nil h.one, cmn_nil h.ok.one]; exact zero_agr ws
    · obtain ⟨G, rfl⟩ := Int.eq_ofNat_of_zero_le (show 0 ≤ g by omega)
      exact cmn_agr h.ok.most h.l64 h.lt h.le (group_arr h (by omega) (by omega)) hx hy
/-- The sets of a tree agree at the worlds of the list. -/
theorem sem_arr : ∀ t, AgrP ws (semT (arrM M ws) t) (semT M t)
  | .leaf o i e g => valN_arr h o i g (zero_agr ws) (zero_agr ws)
  | .un o i e g x => by
    have ih := sem_arr x
    unfold semT
    rw [ih.1]
    exact agrP_ite (fun _ => valN_arr h o i g ih.2 (zero_agr ws)) fun _ => zero_agrP ws false
  | .bin o i e g x y => by
    have ih := sem_arr x
    have ih2 := sem_arr y
    unfold semT
    rw [ih.1, ih2.1]
    exact agrP_ite (fun _ => valN_arr h o i g ih.2 ih2.2) fun _ => zero_agrP ws false
end
end Wt
