/- Plain: bits of sets, boxes, common knowledge as an iteration, the value of a node, the value of a tree. -/
import Derived.Test.YtdnpgadkklgjeaaDoorRelA
import Derived.Test.YtdnpgadkklgjeaaDoorMoC
import Derived.Test.YtdnpgadkklgjeaaDoorFmJ
namespace Wt
open Go Go.RowKit Go.Proofs Fm

section
variable (s t : BitVec 64) (k : Nat)
theorem bt_ext {s t : BitVec 64} (h : ∀ k, k < 64 → bt s k = bt t k) : s = t := BitVec.eq_of_getLsbD_eq h
theorem bt_ge (h : 64 ≤ k) : bt s k = false := BitVec.getLsbD_of_ge s k h
theorem bt_and : bt (s &&& t) k = (bt s k && bt t k) := by simp [bt]
theorem bt_or : bt (s ||| t) k = (bt s k || bt t k) := by simp [bt]
theorem bt_xor : bt (s ^^^ t) k = (bt s k ^^ bt t k) := by simp [bt]
theorem bt_not : bt (~~~ s) k = (decide (k < 64) && !bt s k) := by simp [bt]
theorem bt_zero : bt 0#64 k = false := by simp [bt]
theorem bt_shl1 (n : Nat) : bt (1#64 <<< n) k = (decide (k < 64) && decide (k = n)) := by
  simp only [bt, BitVec.getLsbD_shiftLeft, BitVec.getLsbD_one]
  rw [Bool.eq_iff_iff]; simp; omega
theorem bt_max : bt 18446744073709551615#64 k = decide (k < 64) := by
  have e : (18446744073709551615#64 : BitVec 64) = BitVec.allOnes 64 := by decide
  unfold bt; rw [e, BitVec.getLsbD_allOnes]
theorem bt_allW (n : Nat) : bt (allW n) k = (decide (k < 64) && decide (k < n)) := by
  unfold allW
  split
  · rw [bt_max, Bool.eq_iff_iff]; simp; omega
  · have e : ((1#64 <<< n) - 1#64 : BitVec 64).toNat = 2 ^ n - 1 := by
      have h2 : 2 ^ n < 2 ^ 64 := Nat.pow_lt_pow_right (by omega) (by omega)
      have h3 : 0 < 2 ^ n := Nat.pos_of_ne_zero (by simp)
      rw [BitVec.toNat_sub, BitVec.toNat_shiftLeft]
      simp only [BitVec.toNat_ofNat, Nat.shiftLeft_eq]
      rw [show 1 % 2 ^ 64 = 1 from rfl, Nat.one_mul, Nat.mod_eq_of_lt h2]
      omega
    unfold bt
    rw [← BitVec.testBit_toNat, e, Nat.testBit_two_pow_sub_one, Bool.eq_iff_iff]; simp; omega
/-- One set within another. -/
def Sub (s t : BitVec 64) : Prop := ∀ k, k < 64 → bt s k = true → bt t k = true
theorem Sub.refl : Sub s s := fun _ _ h => h
theorem Sub.trans {s t u : BitVec 64} (h : Sub s t) (h2 : Sub t u) : Sub s u := fun k hk hb => h2 k hk (h k hk hb)
theorem Sub.antisymm {s t : BitVec 64} (h : Sub s t) (h2 : Sub t s) : s = t := bt_ext fun k hk => by rw [Bool.eq_iff_iff]; exact ⟨h k hk, h2 k hk⟩
theorem andNot_zero {s t : BitVec 64} : s &&& ~~~ t = 0#64 ↔ Sub s t := by
  constructor
  · intro h k hk hb
    have := congrArg (fun x => bt x k) h
    simp only [bt_and, bt_not, bt_zero] at this
    simpa [hb, hk] using this
  · intro h
    refine bt_ext fun k hk => ?_
    rw [bt_and, bt_not, bt_zero]
    have := h k hk
    cases hs : bt s k
    · simp
    · simp [this hs]
theorem sub_toNat {s t : BitVec 64} (h : Sub s t) : s.toNat ≤ t.toNat := by
  have : s = s &&& t := bt_ext fun k hk => by
    rw [bt_and]
    have := h k hk
    cases hs : bt s k
    · simp
    · simp [this hs]
  rw [this, BitVec.toNat_and]
  exact Nat.and_le_right
end
theorem sub_toNat_lt {s t : BitVec 64} (h : Sub s t) (hn : s ≠ t) : s.toNat < t.toNat := by
  have h1 := sub_toNat h
  have h2 : s.toNat ≠ t.toNat := fun e => hn (BitVec.eq_of_toNat_eq e)
  omega

theorem bt_boxTo (r : List (BitVec 64)) (s : BitVec 64) : ∀ n k, k < 64 → bt (boxTo r s n) k = (decide (k < n) && (nth r k &&& ~~~ s == 0#64))
  | 0, k, _ => by simp [boxTo, bt_zero]
  | n + 1, k, hk => by
    unfold boxTo
    by_cases e : k = n
    · subst e
      by_cases h : (nth r k &&& ~~~ s) = 0#64
      · rw [if_pos h, bt_or, bt_shl1, h]; simp [hk]
      · rw [if_neg h, bt_boxTo r s k k hk]; simp [h]
    · by_cases h : (nth r n &&& ~~~ s) = 0#64
      · rw [if_pos h, bt_or, bt_shl1, bt_boxTo r s n k hk, Bool.eq_iff_iff]; simp [e]; omega
      · rw [if_neg h, bt_boxTo r s n k hk, Bool.eq_iff_iff]; simp; omega
theorem bt_relBox (r : List (BitVec 64)) (s : BitVec 64) (k : Nat) (hk : k < 64) : bt (relBox r s) k = (decide (relCheck r = 0) && decide (k < r.length) && (nth r k &&& ~~~ s == 0#64)) := by
  unfold relBox
  by_cases h : relCheck r = 0
  · rw [if_pos h, bt_boxTo r s _ k hk]; simp [h]
  · rw [if_neg h, bt_zero]; simp [h]
theorem relBox_mono (r : List (BitVec 64)) {s t : BitVec 64} (h : Sub s t) : Sub (relBox r s) (relBox r t) := by
  intro k hk
  rw [bt_relBox _ _ _ hk, bt_relBox _ _ _ hk]
  simp only [Bool.and_eq_true, decide_eq_true_eq, beq_iff_eq, andNot_zero]
  rintro ⟨h1, h2⟩
  exact ⟨h1, h2.trans h⟩

/-- One step of common knowledge. -/
def cmnF (r : List (BitVec 64)) (n : Nat) (c s o : BitVec 64) : BitVec 64 := relBox r ((allW n &&& ~~~ c) ||| (s &&& o))
def cmnI (r : List (BitVec 64)) (n : Nat) (c s : BitVec 64) : Nat → BitVec 64
  | 0 => allW n
  | k + 1 => cmnF r n c s (cmnI r n c s k)
theorem cmnF_mono (r : List (BitVec 64)) (n : Nat) (c s : BitVec 64) {x y : BitVec 64} (h : Sub x y) : Sub (cmnF r n c s x) (cmnF r n c s y) := by
  refine relBox_mono r fun k hk => ?_
  rw [bt_or, bt_or, bt_and s, bt_and s]
  have := h k hk
  simp only [Bool.or_eq_true, Bool.and_eq_true]
  rintro (h1 | ⟨h1, h2⟩)
  · exact .inl h1
  · exact .inr ⟨h1, this h2⟩
theorem cmnI_step (r : List (BitVec 64)) (n : Nat) (hr : r.length ≤ n) (c s : BitVec 64) : ∀ k, Sub (cmnI r n c s (k + 1)) (cmnI r n c s k)
  | 0 => by
    intro k hk h
    show bt (allW n) k = true
    rw [bt_allW]
    have h2 : bt (cmnF r n c s (allW n)) k = true := h
    unfold cmnF at h2
    rw [bt_relBox _ _ _ hk] at h2
    simp only [Bool.and_eq_true, decide_eq_true_eq] at h2 ⊢
    exact ⟨hk, by omega⟩
  | k + 1 => cmnF_mono r n c s (cmnI_step r n hr c s k)
/-- How many worlds a set has. -/
def pop (s : BitVec 64) : Nat := (List.range 64).countP (fun i => bt s i)
theorem countP_lt : ∀ (l : List Nat) (p q : Nat → Bool), (∀ i ∈ l, p i = true → q i = true) → (∃ i ∈ l, q i = true ∧ p i = false) → l.countP p < l.countP q
  | [], _, _, _, h => by obtain ⟨i, hi, _⟩ := h; simp at hi
  | a :: l, p, q, h, he => by
    rw [List.countP_cons, List.countP_cons]
    have hle : l.countP p ≤ l.countP q := List.countP_mono_left fun i hi => h i (by simp [hi])
    by_cases ha : q a = true ∧ p a = false
    · rw [ha.1, ha.2]; simp; omega
    · have hlt : l.countP p < l.countP q := countP_lt l p q (fun i hi => h i (by simp [hi])) (by
        obtain ⟨i, hi, h1⟩ := he
        rcases List.mem_cons.1 hi with rfl | hi
        · exact absurd h1 ha
        · exact ⟨i, hi, h1⟩)
      have := h a (by simp)
      cases hp : p a
      · simp; omega
      · rw [this hp]; simp; omega
theorem pop_lt {s t : BitVec 64} (h : Sub s t) (hn : s ≠ t) : pop s < pop t := by
  refine countP_lt _ _ _ (fun i hi => h i (by simpa using hi)) ?_
  apply Classical.byContradiction
  intro hc
  refine hn (h.antisymm fun k hk hb => ?_)
  apply Classical.byContradiction
  intro h2
  exact hc ⟨k, by simpa using hk, hb, by simpa using h2⟩
theorem pop_le (s : BitVec 64) : pop s ≤ 64 := by
  have := List.countP_le_length (p := fun i => bt s i) (l := List.range 64)
  simpa [pop] using this
/-- The number of worlds of the first n. -/
theorem pop_allW (n : Nat) : pop (allW n) ≤ n := by
  have h : ∀ m, (List.range m).countP (fun i => bt (allW n) i) ≤ n ∧ (List.range m).countP (fun i => bt (allW n) i) ≤ m := by
    intro m
    induction m with
    | zero => simp
    | succ m ih =>
      rw [List.range_succ, List.countP_append, List.countP_singleton, bt_allW]
      split
      · rename_i h; simp at h; omega
      · omega
  exact (h 64).1
theorem cmnI_stop (r : List (BitVec 64)) (n : Nat) (hr : r.length ≤ n) (c s : BitVec 64) : ∀ k, cmnI r n c s (k + 1) = cmnI r n c s k ∨ pop (cmnI r n c s (k + 1)) + (k + 1) ≤ n
  | 0 => by
    by_cases h : cmnI r n c s 1 = cmnI r n c s 0
    · exact .inl h
    · have := pop_lt (cmnI_step r n hr c s 0) h
      have h2 : pop (cmnI r n c s 0) ≤ n := pop_allW n
      exact .inr (by omega)
  | k + 1 => by
    rcases cmnI_stop r n hr c s k with h | h
    · exact .inl (by rw [cmnI, h]; exact h)
    · by_cases h2 : cmnI r n c s (k + 1 + 1) = cmnI r n c s (k + 1)
      · exact .inl h2
      · have := pop_lt (cmnI_step r n hr c s (k + 1)) h2
        exact .inr (by omega)
theorem cmnI_const (r : List (BitVec 64)) (n : Nat) (c s : BitVec 64) (k : Nat) (h : cmnI r n c s (k + 1) = cmnI r n c s k) : ∀ j, cmnI r n c s (k + j) = cmnI r n c s k
  | 0 => rfl
  | j + 1 => by
    have := cmnI_const r n c s k h j
    rw [show k + (j + 1) = (k + j) + 1 by omega, cmnI, this]; exact h
/-- After n steps nothing changes. -/
theorem cmnI_fix (r : List (BitVec 64)) (n : Nat) (hr : r.length ≤ n) (c s : BitVec 64) : cmnI r n c s (n + 1) = cmnI r n c s n := by
  rcases cmnI_stop r n hr c s n with h | h
  · exact h
  · omega
/-- Common knowledge. -/
def cmn (r : List (BitVec 64)) (n : Nat) (c s : BitVec 64) : BitVec 64 := cmnI r n c s n
theorem cmn_of (r : List (BitVec 64)) (n : Nat) (hr : r.length ≤ n) (c s : BitVec 64) (k : Nat) (h : cmnI r n c s (k + 1) = cmnI r n c s k) : cmnI r n c s k = cmn r n c s := by
  have h1 := cmnI_const r n c s k h (n)
  have h2 := cmnI_const r n c s n (cmnI_fix r n hr c s) k
  unfold cmn
  rw [← h1, ← h2, Nat.add_comm]

theorem gather_le (j : BitVec 64 → BitVec 64 → BitVec 64) (M : Mo) (g : Int) {N : Nat} (ok : MoOk M N) : (gather j M g).length ≤ N := by
  unfold gather isGroup
  split
  · cases hx : gat j M.rel g.toNat M.rel.length with
    | none => simp
    | some x => simp only [Option.getD_some]; rw [gat_len j M.rel g.toNat N ok.row _ (Nat.le_refl _) x hx]; exact Nat.le_refl _
  · simp
/-- The set of a node, given those of its operands; false if it is not static or does not fit. -/
def valN (M : Mo) (o i g : Int) (x y : BitVec 64) : BitVec 64 × Bool :=
  if o = 1 then (allW M.worlds.toNat, true)
  else if o = 2 then (0#64, true)
  else if o = 3 then if (M.val.length : Int) ≤ i then (0#64, false) else (nth M.val i.toNat, true)
  else if o = 4 then (allW M.worlds.toNat &&& ~~~ x, true)
  else if o = 5 then (x &&& y, true)
  else if o = 6 then (x ||| y, true)
  else if o = 7 then ((allW M.worlds.toNat &&& ~~~ x) ||| y, true)
  else if o = 8 then (allW M.worlds.toNat &&& ~~~ (x ^^^ y), true)
  else if o = 9 then if (M.rel.length : Int) ≤ i then (0#64, false) else (relBox (nth M.rel i.toNat) x, true)
  else if o = 10 then if (M.rel.length : Int) ≤ i then (0#64, false) else (relDia (nth M.rel i.toNat) x, true)
  else if o = 11 then if p2 M.rel.length ≤ g then (0#64, false) else (relBox (groupOf M g) x, true)
  else if o = 12 then if p2 M.rel.length ≤ g then (0#64, false) else (relBox (meetOf M g) x, true)
  else if o = 13 then if p2 M.rel.length ≤ g then (0#64, false) else (cmn (groupOf M g) M.worlds.toNat x y, true)
  else (0#64, false)
/-- The set of a tree. -/
def semT (M : Mo) : Fm → BitVec 64 × Bool
  | .leaf o i _ g => valN M o i g 0#64 0#64
  | .un o i _ g x => if (semT M x).2 then valN M o i g (semT M x).1 0#64 else (0#64, false)
  | .bin o i _ g x y => if (semT M x).2 && (semT M y).2 then valN M o i g (semT M x).1 (semT M y).1 else (0#64, false)
end Wt
