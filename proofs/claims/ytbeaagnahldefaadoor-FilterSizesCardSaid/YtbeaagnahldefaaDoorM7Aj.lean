/- Plain: bits of sets, boxes, common knowledge as an iteration, the value of a node, the value of a tree. -/
import Derived.Test.YtbeaagnahldefaaDoorM7Ah
import Derived.Test.YtbeaagnahldefaaDoorM7Ai
import Derived.Test.YtbeaagnahldefaaDoorM7Ag
import Derived.StillTailTactics
import Derived.Deep.RegionWith
import Derived.RegionTactic
import Derived.WalkKit
import Derived.Test.YtbeaagnahldefaaDoorM7Ae
import Derived.Laws.StructEq
namespace Wt
open Go Go.RowKit Go.Proofs Fm

section
variable (s t : BitVec 64) (k : Nat)
theorem bt_ext {s t : BitVec 64} (h : ∀ k, k < 64 → bt s k = bt t k) : s = t := BitVec.eq_of_getLsbD_eq h
theorem bt_ge (h : 64 ≤ k) : bt s k = false := BitVec.getLsbD_of_ge s k h
theorem bt_and : bt (s &&& t) k = (bt s k && bt t k) := by simp [bt]
theorem bt_or : bt (s ||| t) k = (bt s k || bt t k) := by simp [bt]
theorem bt_xor : bt (s ^^^ t) k = (bt s k ^^ bt t k) := by simp [bt]
theorem bt_not : bt (~~~ s) k = (decide (k < 64) && !bt s k) := by simp [bt]
theorem bt_zero : bt 0#64 k = false := by simp [bt]
theorem bt_shl1 (n : Nat) : bt (1#64 <<< n) k = (decide (k < 64) && decide (k = n)) := by
  simp only [bt, BitVec.getLsbD_shiftLeft, BitVec.getLsbD_one]
  rw [Bool.eq_iff_iff]; simp; omega
theorem bt_max : bt 18446744073709551615#64 k = decide (k < 64) := by
  have e : (18446744073709551615#64 : BitVec 64) = BitVec.allOnes 64 := by decide
  unfold bt; rw [e, BitVec.getLsbD_allOnes]
theorem bt_allW (n : Nat) : bt (allW n) k = (decide (k < 64) && decide (k < n)) := by
  unfold allW
  split
  · rw [bt_max, Bool.eq_iff_iff]; simp; omega
  · have e : ((1#64 <<< n) - 1#64 : BitVec 64).toNat = 2 ^ n - 1 := by
      have h2 : 2 ^ n < 2 ^ 64 := Nat.pow_lt_pow_right (by omega) (by omega)
      have h3 : 0 < 2 ^ n := Nat.pos_of_ne_zero (by simp)
      rw [BitVec.toNat_sub, BitVec.toNat_shiftLeft]
      simp only [BitVec.toNat_ofNat, Nat.shiftLeft_eq]
      rw [show 1 % 2 ^ 64 = 1 from rfl, Nat.one_mul, Nat.mod_eq_of_lt h2]
      omega
    unfold bt
    rw [← BitVec.testBit_toNat, e, Nat.testBit_two_pow_sub_one, Bool.eq_iff_iff]; simp; omega
/-- One set within another. -/
def Sub (s t : BitVec 64) : Prop := ∀ k, k < 64 → bt s k = true → bt t k = true
theorem Sub.refl : Sub s s := fun _ _ h => h
theorem Sub.trans {s t u : BitVec 64} (h : Sub s t) (h2 : Sub t u) : Sub s u := fun k hk hb => h2 k hk (h k hk hb)
theorem Sub.antisymm {s t : BitVec 64} (h : Sub s t) (h2 : Sub t s) : s = t := bt_ext fun k hk => by rw [Bool.eq_iff_iff]; exact ⟨h k hk, h2 k hk⟩
theorem andNot_zero {s t : BitVec 64} : s &&& ~~~ t = 0#64 ↔ Sub s t := by
  constructor
  · intro h k hk hb
    have := congrArg (fun x => bt x k) h
    simp only [bt_and, bt_not, bt_zero] at this
    simpa [hb, hk] using this
  · intro h
    refine bt_ext fun k hk => ?_
    rw [bt_and, bt_not, bt_zero]
    have := h k hk
    cases hs : bt s k
    · simp
    · simp [this hs]
theorem sub_toNat {s t : BitVec 64} (h : Sub s t) : s.toNat ≤ t.toNat := by
  have : s = s &&& t := bt_ext fun k hk => by
    rw [bt_and]
    have := h k hk
    cases hs : bt s k
    · simp
    · simp [this hs]
  rw [this, BitVec.toNat_and]
  exact Nat.and_le_right
end
theorem sub_toNat_lt {s t : BitVec 64} (h : Sub s t) (hn : s ≠ t) : s.toNat < t.toNat := by
  have h1 := sub_toNat h
  have h2 : s.toNat ≠ t.toNat := fun e => hn (BitVec.eq_of_toNat_eq e)
  omega

theorem bt_boxTo (r : List (BitVec 64)) (s : BitVec 64) : ∀ n k, k < 64 → bt (boxTo r s n) k = (decide (k < n) && (nth r k &&& ~~~ s == 0#64))
  | 0, k, _ => by simp [boxTo, bt_zero]
  | n + 1, k, hk => by
    unfold boxTo
    by_cases e : k = n
    · subst e
      by_cases h : (nth r k &&& ~~~ s) = 0#64
      · rw [if_pos h, bt_or, bt_shl1, h]; simp [hk]
      · rw [if_neg h, bt_boxTo r s k k hk]; simp [h]
    · by_cases h : (nth r n &&& ~~~ s) = 0#64
      · rw [if_pos h, bt_or, bt_shl1, bt_boxTo r s n k hk, Bool.eq_iff_iff]; simp [e]; omega
      · rw [if_neg h, bt_boxTo r s n k hk, Bool.eq_iff_iff]; simp; omega
theorem bt_relBox (r : List (BitVec 64)) (s : BitVec 64) (k : Nat) (hk : k < 64) : bt (relBox r s) k = (decide (relCheck r = 0) && decide (k < r.length) && (nth r k &&& ~~~ s == 0#64)) := by
  unfold relBox
  by_cases h : relCheck r = 0
  · rw [if_pos h, bt_boxTo r s _ k hk]; simp [h]
  · rw [if_neg h, bt_zero]; simp [h]
theorem relBox_mono (r : List (BitVec 64)) {s t : BitVec 64} (h : Sub s t) : Sub (relBox r s) (relBox r t) := by
  intro k hk
  rw [bt_relBox _ _ _ hk, bt_relBox _ _ _ hk]
  simp only [Bool.and_eq_true, decide_eq_true_eq, beq_iff_eq, andNot_zero]
  rintro ⟨h1, h2⟩
  exact ⟨h1, h2.trans h⟩

/-- One step of common knowledge. -/
def cmnF (r : List (BitVec 64)) (n : Nat) (c s o : BitVec 64) : BitVec 64 := relBox r ((allW n &&& ~~~ c) ||| (s &&& o))
def cmnI (r : List (BitVec 64)) (n : Nat) (c s : BitVec 64) : Nat → BitVec 64
  | 0 => allW n
  | k + 1 => cmnF r n c s (cmnI r n c s k)
theorem cmnF_mono (r : List (BitVec 64)) (n : Nat) (c s : BitVec 64) {x y : BitVec 64} (h : Sub x y) : Sub (cmnF r n c s x) (cmnF r n c s y) := by
  refine relBox_mono r fun k hk => ?_
  rw [bt_or, bt_or, bt_and s, bt_and s]
  have := h k hk
  simp only [Bool.or_eq_true, Bool.and_eq_true]
  rintro (h1 | ⟨h1, h2⟩)
  · exact .inl h1
  · exact .inr ⟨h1, this h2⟩
theorem cmnI_step (r : List (BitVec 64)) (n : Nat) (hr : r.length ≤ n) (c s : BitVec 64) : ∀ k, Sub (cmnI r n c s (k + 1)) (cmnI r n c s k)
  | 0 => by
    intro k hk h
    show bt (allW n) k = true
    rw [bt_allW]
    have h2 : bt (cmnF r n c s (allW n)) k = true := h
    unfold cmnF at h2
    rw [bt_relBox _ _ _ hk] at h2
    simp only [Bool.and_eq_true, decide_eq_true_eq] at h2 ⊢
    exact ⟨hk, by omega⟩
  | k + 1 => cmnF_mono r n c s (cmnI_step r n hr c s k)
/-- How many worlds a set has. -/
def pop (s : BitVec 64) : Nat := (List.range 64).countP (fun i => bt s i)
theorem countP_lt : ∀ (l : List Nat) (p q : Nat → Bool), (∀ i ∈ l, p i = true → q i = true) → (∃ i ∈ l, q i = true ∧ p i = false) → l.countP p < l.countP q
  | [], _, _, _, h => by obtain ⟨i, hi, _⟩ := h; simp at hi
  | a :: l, p, q, h, he => by
    rw [List.countP_cons, List.countP_cons]
    have hle : l.countP p ≤ l.countP q := List.countP_mono_left fun i hi => h i (by simp [hi])
    by_cases ha : q a = true ∧ p a = false
    · rw [ha.1, ha.2]; simp; omega
    · have hlt : l.countP p < l.countP q := countP_lt l p q (fun i hi => h i (by simp [hi])) (by
        obtain ⟨i, hi, h1⟩ := he
        rcases List.mem_cons.1 hi with rfl | hi
        · exact absurd h1 ha
        · exact ⟨i, hi, h1⟩)
      have := h a (by simp)
      cases hp : p a
      · simp; omega
      · rw [this hp]; simp; omega
theorem pop_lt {s t : BitVec 64} (h : Sub s t) (hn : s ≠ t) : pop s < pop t := by
  refine countP_lt _ _ _ (fun i hi => h i (by simpa using hi)) ?_
  apply Classical.byContradiction
  intro hc
  refine hn (h.antisymm fun k hk hb => ?_)
  apply Classical.byContradiction
  intro h2
  exact hc ⟨k, by simpa using hk, hb, by simpa using h2⟩
theorem pop_le (s : BitVec 64) : pop s ≤ 64 := by
  have := List.countP_le_length (p := fun i => bt s i) (l := List.range 64)
  simpa [pop] using this
/-- The number of worlds of the first n. -/
theorem pop_allW (n : Nat) : pop (allW n) ≤ n := by
  have h : ∀ m, (List.range m).countP (fun i => bt (allW n) i) ≤ n ∧ (List.range m).countP (fun i => bt (allW n) i) ≤ m := by
    intro m
    induction m with
    | zero => simp
    | succ m ih =>
      rw [List.range_succ, List.countP_append, List.countP_singleton, bt_allW]
      split
      · rename_i h; simp at h; omega
      · omega
  exact (h 64).1
theorem cmnI_stop (r : List (BitVec 64)) (n : Nat) (hr : r.length ≤ n) (c s : BitVec 64) : ∀ k, cmnI r n c s (k + 1) = cmnI r n c s k ∨ pop (cmnI r n c s (k + 1)) + (k + 1) ≤ n
  | 0 => by
    by_cases h : cmnI r n c s 1 = cmnI r n c s 0
    · exact .inl h
    · have := pop_lt (cmnI_step r n hr c s 0) h
      have h2 : pop (cmnI r n c s 0) ≤ n := pop_allW n
      exact .inr (by omega)
  | k + 1 => by
    rcases cmnI_stop r n hr c s k with h | h
    · exact .inl (by rw [cmnI, h]; exact h)
    · by_cases h2 : cmnI r n c s (k + 1 + 1) = cmnI r n c s (k + 1)
      · exact .inl h2
      · have := pop_lt (cmnI_step r n hr c s (k + 1)) h2
        exact .inr (by omega)
theorem cmnI_const (r : List (BitVec 64)) (n : Nat) (c s : BitVec 64) (k : Nat) (h : cmnI r n c s (k + 1) = cmnI r n c s k) : ∀ j, cmnI r n c s (k + j) = cmnI r n c s k
  | 0 => rfl
  | j + 1 => by
    have := cmnI_const r n c s k h j
    rw [show k + (j + 1) = (k + j) + 1 by omega, cmnI, this]; exact h
/-- After n steps nothing changes. -/
theorem cmnI_fix (r : List (BitVec 64)) (n : Nat) (hr : r.length ≤ n) (c s : BitVec 64) : cmnI r n c s (n + 1) = cmnI r n c s n := by
  rcases cmnI_stop r n hr c s n with h | h
  · exact h
  · omega
/-- Common knowledge. -/
def cmn (r : List (BitVec 64)) (n : Nat) (c s : BitVec 64) : BitVec 64 := cmnI r n c s n
theorem cmn_of (r : List (BitVec 64)) (n : Nat) (hr : r.length ≤ n) (c s : BitVec 64) (k : Nat) (h : cmnI r n c s (k + 1) = cmnI r n c s k) : cmnI r n c s k = cmn r n c s := by
  have h1 := cmnI_const r n c s k h (n)
  have h2 := cmnI_const r n c s n (cmnI_fix r n hr c s) k
  unfold cmn
  rw [← h1, ← h2, Nat.add_comm]

theorem gather_le (j : BitVec 64 → BitVec 64 → BitVec 64) (M : Mo) (g : Int) {N : Nat} (ok : MoOk M N) : (gather j M g).length ≤ N := by
  unfold gather isGroup
  split
  · cases hx : gat j M.rel g.toNat M.rel.length with
    | none => simp
    | some x => simp only [Option.getD_some]; rw [gat_len j M.rel g.toNat N ok.row _ (Nat.le_refl _) x hx]; exact Nat.le_refl _
  · simp
/-- The set of a node, given those of its operands; false if it is not static or does not fit. -/
def valN (M : Mo) (o i g : Int) (x y : BitVec 64) : BitVec 64 × Bool :=
  if o = 1 then (allW M.worlds.toNat, true)
  else if o = 2 then (0#64, true)
  else if o = 3 then if (M.val.length : Int) ≤ i then (0#64, false) else (nth M.val i.toNat, true)
  else if o = 4 then (allW M.worlds.toNat &&& ~~~ x, true)
  else if o = 5 then (x &&& y, true)
  else if o = 6 then (x ||| y, true)
  else if o = 7 then ((allW M.worlds.toNat &&& ~~~ x) ||| y, true)
  else if o = 8 then (allW M.worlds.toNat &&& ~~~ (x ^^^ y), true)
  else if o = 9 then if (M.rel.length : Int) ≤ i then (0#64, false) else (relBox (nth M.rel i.toNat) x, true)
  else if o = 10 then if (M.rel.length : Int) ≤ i then (0#64, false) else (relDia (nth M.rel i.toNat) x, true)
  else if o = 11 then if p2 M.rel.length ≤ g then (0#64, false) else (relBox (groupOf M g) x, true)
  else if o = 12 then if p2 M.rel.length ≤ g then (0#64, false) else (relBox (meetOf M g) x, true)
  else if o = 13 then if p2 M.rel.length ≤ g then (0#64, false) else (cmn (groupOf M g) M.worlds.toNat x y, true)
  else (0#64, false)
/-- The set of a tree. -/
def semT (M : Mo) : Fm → BitVec 64 × Bool
  | .leaf o i _ g => valN M o i g 0#64 0#64
  | .un o i _ g x => if (semT M x).2 then valN M o i g (semT M x).1 0#64 else (0#64, false)
  | .bin o i _ g x y => if (semT M x).2 && (semT M y).2 then valN M o i g (semT M x).1 (semT M y).1 else (0#64, false)
end Wt

/- Rows that a call owns, over any element of one cell; plain laws on the sets of the nodes of a formula. -/
namespace Wt
open Go Go.RowKit Go.Proofs Fm

section
variable {α : Type} {w w' : World} {base T n : Nat} {enc : α → Value} {l : List α}
/-- A slice (never nil here) that the call owns holds a list. -/
structure OG (w : World) (base T : Nat) (enc : α → Value) (g n c : Nat) (l : List α) : Prop where
  len : l.length = n
  row : w.ownsRow base T 1 (.slice (some ⟨g, 0, none⟩) n c) n (l.map enc)
theorem OG.base_le {g c : Nat} (h : OG w base T enc g n c l) : base ≤ g := (h.row.lt g rfl).1
theorem OG.lt {g c : Nat} (h : OG w base T enc g n c l) : g < w.heap.size := (h.row.lt g rfl).2
theorem OG.cell [Inhabited α] {g c : Nat} (h : OG w base T enc g n c l) {k : Nat} (hk : k < n) : w.cell? ⟨g, k, none⟩ = some (enc (nth l k)) := by
  have hl := h.len
  rw [h.row.cellAt k (by omega), List.getElem?_map, nth_eq l k (by omega)]
  simp [show k < l.length by omega]
theorem OG.frozen {g c : Nat} (h : OG w base T enc g n c l) (k : Nat) : w.frozen? ⟨g, k, none⟩ = false := h.row.frozenAt k
theorem OG.set {g c : Nat} (h : OG w base T enc g n c l) (k : Nat) (s : α) : OG (w.setCell ⟨g, k, none⟩ (enc s)) base T enc g n c (l.set k s) :=
  ⟨by rw [List.length_set]; exact h.len, by rw [List.map_set]; exact (h.row.stored k (enc s)).1⟩
theorem OG.ext {g c : Nat} (h : OG w base T enc g n c l) (e : Ext w w') : OG w' base T enc g n c l :=
  ⟨h.len, h.row.kept (row := none) ⟨e.os, e.tape, e.output, e.size, fun k hk _ => e.block k hk⟩ (by simp [Value.ownBlock])⟩
theorem OG.other {g c g2 : Nat} (h : OG w base T enc g n c l) (k : Nat) (u : Value) (hne : g ≠ g2) : OG (w.setCell ⟨g2, k, none⟩ u) base T enc g n c l :=
  ⟨h.len, h.row.kept (row := some g2) ⟨rfl, rfl, rfl, by simp, fun j _ hj => heap_setCell_other w ⟨g2, k, none⟩ j u (fun e => hj (by simp [e]))⟩ (by simp [Value.ownBlock, hne])⟩
theorem OG.made (w : World) (n : Nat) (z : α) (hb : base ≤ w.heap.size) (hn : n ≤ 140737488355328) : OG (w.alloc (.cells (madeCells #[enc z] n) T)) base T enc w.heap.size n n (List.replicate n z) := by
  refine ⟨by simp, ?_⟩
  have h := World.ownsRow_lit (base := base) (e := T) (size := 1) w (madeCells #[enc z] n) n hb (by unfold maxLen; omega) (by simp [madeCells])
  rw [toList_madeCells_one] at h
  rw [List.map_replicate]
  exact h
end
theorem RU_of_OG {w : World} {base T g n c : Nat} {l : List (BitVec 64)} (h : OG w base T uv g n c l) (hn : n ≤ 140737488355328) : RU w (some ⟨g, 0, none⟩) l := by
  have hl := h.len
  refine ⟨by omega, fun k hk => ⟨g, 0, rfl, ?_⟩⟩
  rw [Nat.zero_add]
  exact h.cell (by omega)
theorem RB_of_OG {w : World} {base T g n c : Nat} {l : List Bool} (h : OG w base T Value.bool g n c l) (hn : n ≤ 140737488355328) : RB w (some ⟨g, 0, none⟩) l := by
  have hl := h.len
  refine ⟨by omega, fun k hk => ⟨g, 0, rfl, ?_⟩⟩
  rw [Nat.zero_add]
  exact h.cell (by omega)

/-- A list of which the first k are done. -/
def doneL {α : Type} (n k : Nat) (f : Nat → α) (z : α) : List α := (List.range n).map fun j => if j < k then f j else z
section
variable {α : Type} (n k : Nat) (f : Nat → α) (z : α)
theorem doneL_length : (doneL n k f z).length = n := by simp [doneL]
theorem doneL_nth [Inhabited α] {j : Nat} (hj : j < n) : nth (doneL n k f z) j = if j < k then f j else z := by
  rw [nth_eq _ _ (by rw [doneL_length]; exact hj)]
  simp [doneL]
theorem doneL_zero : doneL n 0 f z = List.replicate n z := by
  unfold doneL
  simp [List.map_const']
theorem doneL_set (hk : k < n) : (doneL n k f z).set k (f k) = doneL n (k + 1) f z := by
  apply List.ext_getElem?
  intro i
  rw [List.getElem?_set]
  by_cases e : k = i
  · subst e
    rw [if_pos rfl, if_pos (by rw [doneL_length]; exact hk)]
    simp [doneL, hk]
  · rw [if_neg e]
    unfold doneL
    rw [List.getElem?_map, List.getElem?_map]
    by_cases hi : i < n
    · rw [List.getElem?_range hi]
      simp only [Option.map_some]
      by_cases h : i < k
      · rw [if_pos h, if_pos (by omega)]
      · rw [if_neg h, if_neg (by omega)]
    · rw [List.getElem?_eq_none (by simpa using hi)]; rfl
theorem doneL_skip (hf : f k = z) : doneL n k f z = doneL n (k + 1) f z := by
  unfold doneL
  apply List.map_congr_left
  intro j _
  by_cases h : j < k
  · rw [if_pos h, if_pos (by omega)]
  · rw [if_neg h]
    by_cases h2 : j = k
    · subst h2; rw [if_pos (by omega), hf]
    · rw [if_neg (by omega)]
theorem doneL_all : doneL n n f z = (List.range n).map f := by
  unfold doneL
  apply List.map_congr_left
  intro j hj
  rw [if_pos (by simpa using hj)]
end

theorem valN_no (M : Mo) {o : Int} (i g : Int) (x y : BitVec 64) (h : o < 1 ∨ 13 < o) : valN M o i g x y = (0#64, false) := by
  unfold valN
  repeat rw [if_neg (by omega)]
theorem valN_false (M : Mo) (o i g : Int) (x y : BitVec 64) (h : (valN M o i g x y).2 = false) : (valN M o i g x y).1 = 0#64 := by
  by_cases ho : o < 1 ∨ 13 < o
  · rw [valN_no M i g x y ho]
  · rcases (show o = 1 ∨ o = 2 ∨ o = 3 ∨ o = 4 ∨ o = 5 ∨ o = 6 ∨ o = 7 ∨ o = 8 ∨ o = 9 ∨ o = 10 ∨ o = 11 ∨ o = 12 ∨ o = 13 by omega) with rfl | rfl | rfl | rfl | rfl | rfl | rfl | rfl | rfl | rfl | rfl | rfl | rfl
    all_goals
      simp [valN] at h ⊢
      try (split at h <;> simp_all)
theorem semT_false (M : Mo) (t : Fm) (h : (semT M t).2 = false) : (semT M t).1 = 0#64 := by
  cases t with
  | leaf o i e g => exact valN_false _ _ _ _ _ _ h
  | un o i e g x =>
    unfold semT at h ⊢
    split
    · rename_i hc; rw [if_pos hc] at h; exact valN_false _ _ _ _ _ _ h
    · rfl
  | bin o i e g x y =>
    unfold semT at h ⊢
    split
    · rename_i hc; rw [if_pos hc] at h; exact valN_false _ _ _ _ _ _ h
    · rfl
/-- Is an operator one of two operands, of those that the checker knows? -/
def bin2 (o : Int) : Prop := (5 ≤ o ∧ o ≤ 8) ∨ o = 13
section
variable {f : List Nd} (hw : Wf f) (M : Mo) {k : Nat} (hk : k < f.length)
include hw hk
theorem nd_op : 1 ≤ (nth f k).op ∧ (nth f k).op ≤ 21 := by
  have := (nodeErr_ok (hw k hk)).1
  rcases useOf_cases _ this with h | h | h | h | h | h | h | h | h | h | h | h | h | h | h | h | h | h | h | h | h <;> omega
theorem nd_i : 0 ≤ (nth f k).i := by
  obtain ⟨h1, _, _, h4, h5⟩ := nodeErr_ok (hw k hk)
  obtain ⟨fr, h' | h' | h' | h' | h' | h' | h' | h' | h'⟩ := useOf_pat _ h1 <;> rw [h'] at h4 h5 <;> simp [needless, wide, outs] at h4 h5 <;> omega
theorem nd_g : 0 ≤ (nth f k).g := by
  obtain ⟨h1, _, _, h4, h5⟩ := nodeErr_ok (hw k hk)
  obtain ⟨fr, h' | h' | h' | h' | h' | h' | h' | h' | h'⟩ := useOf_pat _ h1 <;> rw [h'] at h4 h5 <;> simp [needless, wide, outs] at h4 h5 <;> omega
theorem nd_x : ∃ X : Nat, (nth f k).x = X ∧ X < f.length ∧ (4 ≤ (nth f k).op → X < k) := by
  by_cases hx : (useOf (nth f k).op).1.x = true
  · obtain ⟨h0, h1⟩ := hw.x_lt hk hx
    exact ⟨(nth f k).x.toNat, by omega, by omega, fun _ => h1⟩
  · refine ⟨0, by rw [hw.x_zero hk (by simpa using hx)]; rfl, by omega, fun h => ?_⟩
    exfalso
    apply hx
    have := (nodeErr_ok (hw k hk)).1
    rcases useOf_cases _ this with e | e | e | e | e | e | e | e | e | e | e | e | e | e | e | e | e | e | e | e | e <;> rw [e] at h ⊢ <;> first | rfl | omega
theorem nd_y : ∃ Y : Nat, (nth f k).y = Y ∧ Y < f.length ∧ (bin2 (nth f k).op → Y < k) := by
  by_cases hy : (useOf (nth f k).op).1.y = true
  · obtain ⟨h0, h1⟩ := hw.y_lt hk hy
    exact ⟨(nth f k).y.toNat, by omega, by omega, fun _ => h1⟩
  · refine ⟨0, by rw [hw.y_zero hk (by simpa using hy)]; rfl, by omega, fun h => ?_⟩
    exfalso
    apply hy
    unfold bin2 at h
    rcases (show (nth f k).op = 5 ∨ (nth f k).op = 6 ∨ (nth f k).op = 7 ∨ (nth f k).op = 8 ∨ (nth f k).op = 13 by omega) with e | e | e | e | e <;> rw [e] <;> rfl
/-- The set of a leaf. -/
theorem sem_leaf (x y : BitVec 64) (ho : (nth f k).op < 4) : semT M (trAt f k) = valN M (nth f k).op (nth f k).i (nth f k).g x y := by
  have h1 := nd_op hw hk
  have e : (useOf (nth f k).op).1.x = false := by
    rcases (show (nth f k).op = 1 ∨ (nth f k).op = 2 ∨ (nth f k).op = 3 by omega) with e | e | e <;> rw [e] <;> rfl
  rw [trAt_leaf hk e]
  show valN M _ _ _ _ _ = _
  rcases (show (nth f k).op = 1 ∨ (nth f k).op = 2 ∨ (nth f k).op = 3 by omega) with e | e | e <;> rw [e] <;> simp [valN]
theorem sem_un {X : Nat} (hX : (nth f k).x = X) (y : BitVec 64) (ho : 4 ≤ (nth f k).op) (hb : ¬ bin2 (nth f k).op) :
    semT M (trAt f k) = if (semT M (trAt f X)).2 then valN M (nth f k).op (nth f k).i (nth f k).g (semT M (trAt f X)).1 y else (0#64, false) := by
  have h1 := nd_op hw hk
  unfold bin2 at hb
  by_cases h13 : 13 < (nth f k).op
  · rw [valN_no M _ _ _ _ (.inr h13), ite_self]
    by_cases hx : (useOf (nth f k).op).1.x = true
    · by_cases hy : (useOf (nth f k).op).1.y = true
      · rw [trAt_bin hw hk hy]; simp only [semT]; rw [valN_no M _ _ _ _ (.inr h13), ite_self]
      · rw [trAt_un hw hk hx (by simpa using hy)]; simp only [semT]; rw [valN_no M _ _ _ _ (.inr h13), ite_self]
    · rw [trAt_leaf hk (by simpa using hx)]; exact valN_no M _ _ _ _ (.inr h13)
  · have e : (useOf (nth f k).op).1.x = true ∧ (useOf (nth f k).op).1.y = false := by
      rcases (show (nth f k).op = 4 ∨ (nth f k).op = 9 ∨ (nth f k).op = 10 ∨ (nth f k).op = 11 ∨ (nth f k).op = 12 by omega) with e | e | e | e | e <;> rw [e] <;> exact ⟨rfl, rfl⟩
    rw [trAt_un hw hk e.1 e.2, hX]
    simp only [semT, Int.toNat_natCast]
    rcases (show (nth f k).op = 4 ∨ (nth f k).op = 9 ∨ (nth f k).op = 10 ∨ (nth f k).op = 11 ∨ (nth f k).op = 12 by omega) with e | e | e | e | e <;> rw [e] <;> simp [valN]
theorem sem_bin {X Y : Nat} (hX : (nth f k).x = X) (hY : (nth f k).y = Y) (hb : bin2 (nth f k).op) :
    semT M (trAt f k) = if (semT M (trAt f X)).2 && (semT M (trAt f Y)).2 then valN M (nth f k).op (nth f k).i (nth f k).g (semT M (trAt f X)).1 (semT M (trAt f Y)).1 else (0#64, false) := by
  unfold bin2 at hb
  have e : (useOf (nth f k).op).1.y = true := by
    rcases (show (nth f k).op = 5 ∨ (nth f k).op = 6 ∨ (nth f k).op = 7 ∨ (nth f k).op = 8 ∨ (nth f k).op = 13 by omega) with e | e | e | e | e <;> rw [e] <;> rfl
  rw [trAt_bin hw hk e, hX, hY]
  simp only [semT, Int.toNat_natCast]
end
end Wt

/- A law on regions that draw their order: pure operations are taken first, then the operations that only read (in the order of the text), and what is left goes by the walk's own law. -/
namespace Wt
open Go

section
variable {P : Program} {ops : Array Oper} {md : Region.Mode} {w : World}

/-- Every head operation that is not yet listed is waited for, within the head or by the first of the tail. -/
def sinkG (md : Region.Mode) (ops : Array Oper) (n : Nat) (L0 : Array Bool) : Bool :=
  (List.range n).all fun i => L0.getD i false || (List.range (n + 1)).any fun j => decide (i < j) && Region.waitsFor md ops j i
/-- Every operation of the tail but its first waits for one of the tail before it. -/
def chainG (md : Region.Mode) (ops : Array Oper) (n : Nat) : Bool :=
  (List.range ops.size).all fun t => decide (t ≤ n) || (List.range t).any fun s => decide (n ≤ s) && Region.waitsFor md ops t s
structure InvG (md : Region.Mode) (ops : Array Oper) (n : Nat) (L0 listed : Array Bool) : Prop where
  size : listed.size = ops.size
  closed : ∀ j oj, ops[j]? = some oj → listed.getD j false = true → ∀ e ∈ oj.after, Region.binds md e = true → listed.getD e.on false = true
  tail : ∀ t, n ≤ t → t < ops.size → listed.getD t true = false
  pre : ∀ j, L0.getD j false = true → listed.getD j false = true
theorem InvG.set {n i : Nat} {L0 listed : Array Bool} (inv : InvG md ops n L0 listed) (hi : i ∈ Region.ready md ops listed) (hin : i < n) : InvG md ops n L0 (listed.setIfInBounds i true) := by
  obtain ⟨_, oi, hoi, hall⟩ := mem_ready.1 hi
  refine ⟨by simp [inv.size], fun j oj hj hl e he hb => ?_, fun t ht ht' => by rw [getD_set_ne true (by omega)]; exact inv.tail t ht ht', fun j hj => getD_set_true (inv.pre j hj)⟩
  by_cases hij : i = j
  · subst hij
    have : oj = oi := Option.some.inj (hj.symm.trans hoi)
    subst this
    exact getD_set_true (hall e he hb)
  · rw [getD_set_ne false hij] at hl
    exact getD_set_true (inv.closed j oj hj hl e he hb)
theorem tail_waitsG {n : Nat} {L0 listed : Array Bool} (hs : sinkG md ops n L0 = true) (hc : chainG md ops n = true) (hn : n < ops.size) (inv : InvG md ops n L0 listed) :
    ∀ (d i : Nat), n - i = d → i < n → listed.getD i true = false → ∀ t, n ≤ t → t ∉ Region.ready md ops listed := by
  intro d
  induction d using Nat.strongRecOn with
  | _ d ih =>
    intro i hd hi hun t ht hr
    obtain ⟨_, ot, hot, hall⟩ := mem_ready.1 hr
    have htlt : t < ops.size := (Array.getElem?_eq_some_iff.1 hot).1
    by_cases htn : t = n
    · subst htn
      have h1 := List.all_eq_true.1 hs i (List.mem_range.2 hi)
      rw [Bool.or_eq_true] at h1
      rcases h1 with h1 | h1
      · have := inv.pre i h1
        rw [getD_both hun] at this
        cases this
      · obtain ⟨j, hj, hj2⟩ := List.any_eq_true.1 h1
        simp only [Bool.and_eq_true, decide_eq_true_eq] at hj2
        obtain ⟨oj, hoj, e, he, hb, hon⟩ := Region.waitsFor_spec hj2.2
        have hjle : j ≤ t := by have := List.mem_range.1 hj; omega
        by_cases hjt : j = t
        · subst hjt
          have : oj = ot := Option.some.inj (hoj.symm.trans hot)
          subst this
          have h2 := hall e he hb
          rw [hon, getD_both hun] at h2
          cases h2
        · cases hl : listed.getD j false with
          | true =>
            have h2 := inv.closed j oj hoj hl e he hb
            rw [hon, getD_both hun] at h2
            cases h2
          | false =>
            have hjs : j < listed.size := by rw [inv.size]; omega
            exact ih (t - j) (by omega) j rfl (by omega) (getD_in hjs hl) t (Nat.le_refl _) hr
    · have h1 := List.all_eq_true.1 hc t (List.mem_range.2 htlt)
      rw [Bool.or_eq_true] at h1
      rcases h1 with h1 | h1
      · simp only [decide_eq_true_eq] at h1; omega
      · obtain ⟨s, hsr, hs2⟩ := List.any_eq_true.1 h1
        simp only [Bool.and_eq_true, decide_eq_true_eq] at hs2
        obtain ⟨o', ho', e, he, hb, hon⟩ := Region.waitsFor_spec hs2.2
        have : o' = ot := Option.some.inj (ho'.symm.trans hot)
        subst this
        have h2 := hall e he hb
        have := List.mem_range.1 hsr
        rw [hon, getD_both (inv.tail s hs2.1 (by omega))] at h2
        cases h2
theorem wpAnyL_firstG {n i : Nat} {oi : Oper} {v : Value} {L0 : Array Bool} {L : Array Bool → Act → Prop} (hi : ops[i]? = some oi) (hsel : ∀ (j : Nat) (o : Oper) cs b, ops[j]? = some o → o.op ≠ .select cs b)
    (hs : sinkG md ops n L0 = true) (hc : chainG md ops n = true) (hn : n < ops.size) (hin : i < n)
    (hdone : ∀ listed a, L listed a → ∀ j ∈ Region.ready md ops listed, n ≤ j) :
    ∀ (f : Nat) (listed : Array Bool) (a : Act), InvG md ops n L0 listed →
      (∀ j oj, ops[j]? = some oj → j ≠ i → listed.getD j true = false → (∀ e ∈ oj.after, Region.binds md e = true → e.on ≠ i) → oi.apart ops oj = true) →
      i ∈ Region.ready md ops listed → YieldsAt P ops w oi v a →
      wpAnyL P md ops w n L f (listed.setIfInBounds i true) (a.put oi.dst v) → wpAnyL P md ops w n L (f + 1) listed a := by
  intro f
  induction f with
  | zero =>
    intro listed a inv _ hr hy H
    have hun := (mem_ready.1 hr).1
    refine ⟨fun h => (by rw [h] at hr; cases hr), fun j hj => ?_⟩
    have hjn : j < n := by
      rcases Nat.lt_or_ge j n with h | h
      · exact h
      · exact absurd hj (tail_waitsG hs hc hn inv _ i rfl hin hun j h)
    refine ⟨hjn, ?_⟩
    by_cases hji : j = i
    · subst hji; exact hy.stOp hi H
    · have := hdone _ _ H j (ready_mono hj hji)
      omega
  | succ f ih =>
    intro listed a inv hfree hr hy H
    have hun := (mem_ready.1 hr).1
    refine ⟨fun h => (by rw [h] at hr; cases hr), fun j hj => ?_⟩
    have hjn : j < n := by
      rcases Nat.lt_or_ge j n with h | h
      · exact h
      · exact absurd hj (tail_waitsG hs hc hn inv _ i rfl hin hun j h)
    refine ⟨hjn, ?_⟩
    by_cases hji : j = i
    · subst hji; exact hy.stOp hi H
    · have h1 := (H.2 j (ready_mono hj hji)).2
      obtain ⟨hjun, oj, hoj, hall⟩ := mem_ready.1 hj
      have hnot : ∀ e ∈ oj.after, Region.binds md e = true → e.on ≠ i := fun e he hb heq => by
        have h1 := hall e he hb
        rw [heq, getD_both hun] at h1
        cases h1
      have h2 := stOp_put hoj (hfree j oj hoj hji hjun hnot) (fun cs b => hsel i oi cs b hi) (fun cs b => hsel j oj cs b hoj) hy h1
      have hfree' : ∀ k ok, ops[k]? = some ok → k ≠ i → (listed.setIfInBounds j true).getD k true = false →
          (∀ e ∈ ok.after, Region.binds md e = true → e.on ≠ i) → oi.apart ops ok = true := fun k ok hk hki hun hno => by
        refine hfree k ok hk hki ?_ hno
        by_cases hjk : j = k
        · subst hjk; exact hjun
        · rw [getD_set_ne true hjk] at hun; exact hun
      refine stOp_mono (fun a' h3 => ih (listed.setIfInBounds j true) a' (inv.set hj hjn) hfree' (ready_mono hr (Ne.symm hji)) h3.1 ?_) h2
      rw [Array.setIfInBounds_comm _ _ hji]
      exact h3.2
/-- The head, number by number. -/
def headG (md : Region.Mode) (ops : Array Oper) (n : Nat) : List Nat → Array Bool → Bool
  | [], listed => (Region.ready md ops listed).all fun j => decide (n ≤ j)
  | k :: ks, listed => decide (k < n) && (Region.ready md ops listed).contains k && Region.free md ops listed k && headG md ops n ks (listed.setIfInBounds k true)
def setAll : List Nat → Array Bool → Array Bool
  | [], L => L
  | k :: ks, L => setAll ks (L.setIfInBounds k true)
theorem wpAnyL_headG {n : Nat} {L0 : Array Bool} {Lq : Act → Prop} (hsel : Region.noSelect ops = true) (hs : sinkG md ops n L0 = true) (hc : chainG md ops n = true) (hn : n < ops.size) (LF : Array Bool)
    (hF : ∀ j ∈ Region.ready md ops LF, n ≤ j) :
    ∀ (ks : List Nat) (l : List Oper) (listed : Array Bool) (a : Act), (ks.map fun k => ops[k]?) = l.map some → setAll ks listed = LF → InvG md ops n L0 listed →
    headG md ops n ks listed = true → wpStill P ops w Lq l a →
    wpAnyL P md ops w n (fun listed' a' => listed' = LF ∧ Lq a') ks.length listed a
  | [], l, listed, a, hl, hF2, inv, hB, h => by
    have : l = [] := by simpa using hl.symm
    subst this
    exact ⟨hF2, h⟩
  | k :: ks, [], listed, a, hl, hF2, inv, hB, h => by simp at hl
  | k :: ks, o :: l, listed, a, hl, hF2, inv, hB, h => by
    simp only [List.map_cons, List.cons.injEq] at hl
    obtain ⟨h0, hl⟩ := hl
    simp only [headG, Bool.and_eq_true, decide_eq_true_eq] at hB
    obtain ⟨⟨⟨hkn, hr⟩, hf⟩, hB'⟩ := hB
    have hr' : k ∈ Region.ready md ops listed := by simpa using hr
    have hst : stOp P ops w k (wpStill P ops w Lq l) a := by unfold stOp; simp only [h0]; exact h
    obtain ⟨v, hy, hK⟩ := yieldsAt_of_stOp h0 hst
    exact wpAnyL_firstG h0 (Region.noSelect_spec hsel) hs hc hn hkn (fun listed' a' hL => by rw [hL.1]; exact hF) ks.length listed a inv (Region.free_spec h0 hf) hr' hy
      (wpAnyL_headG hsel hs hc hn LF hF ks l _ _ hl hF2 (inv.set hr' hkn) hB' hK)
/-- Is a listing closed: what a listed operation waits for is listed? -/
def closedG (md : Region.Mode) (ops : Array Oper) (listed : Array Bool) : Bool :=
  (List.range ops.size).all fun j => !listed.getD j false || (match ops[j]? with | some oj => oj.after.all fun e => !Region.binds md e || listed.getD e.on false | none => true)
def tailG (ops : Array Oper) (n : Nat) (listed : Array Bool) : Bool := (List.range ops.size).all fun t => decide (t < n) || !listed.getD t true
/-- All that is asked of a region and of a listing of it. -/
def regG (md : Region.Mode) (ops : Array Oper) (n : Nat) (ks : List Nat) (listed : Array Bool) : Bool :=
  Region.noSelect ops && sinkG md ops n listed && chainG md ops n && decide (n < ops.size) && headG md ops n ks listed && closedG md ops listed && tailG ops n listed && decide (listed.size = ops.size) && (Region.ready md ops (setAll ks listed)).all fun j => decide (n ≤ j)
theorem wpAny_headG {n : Nat} (ks : List Nat) (g : Nat) {l : List Oper} {listed : Array Bool} {a : Act} {Q : Exit → Act → World → Prop} (hB : regG md ops n ks listed = true) (hl : (ks.map fun k => ops[k]?) = l.map some)
    (h : wpStill P ops w (fun a' => wpAny P md ops Q g (setAll ks listed) a' w) l a) : wpAny P md ops Q (ks.length + g) listed a w := by
  simp only [regG, Bool.and_eq_true, decide_eq_true_eq] at hB
  obtain ⟨⟨⟨⟨⟨⟨⟨⟨hsel, hs⟩, hc⟩, hn⟩, hh⟩, hcl⟩, ht⟩, hsz⟩, hF⟩ := hB
  have inv : InvG md ops n listed listed := by
    refine ⟨hsz, fun j oj hj hlj e he hb => ?_, fun t h1 h2 => ?_, fun _ h => h⟩
    · have := List.all_eq_true.1 hcl j (List.mem_range.2 (Array.getElem?_eq_some_iff.1 hj).1)
      rw [hlj, hj] at this
      simp only [Bool.not_true, Bool.false_or] at this
      have := Array.all_eq_true'.1 this e he
      rw [hb] at this
      simpa using this
    · have := List.all_eq_true.1 ht t (List.mem_range.2 h2)
      simp only [Bool.or_eq_true, decide_eq_true_eq, Bool.not_eq_true'] at this
      rcases this with h | h
      · omega
      · exact h
  exact wpAny_of_head (fun listed' a' hL => by rw [hL.1]; exact hL.2) _ _ _
    (wpAnyL_headG hsel hs hc hn (setAll ks listed) (fun j hj => by simpa using List.all_eq_true.1 hF j hj) ks l listed a hl rfl inv hh h)
/-- What is left comes up one by one, in the given order: it goes as a plain list. -/
def seqG (md : Region.Mode) (ops : Array Oper) : List Nat → Array Bool → Bool
  | [], listed => (Region.ready md ops listed).isEmpty
  | k :: ks, listed => decide (Region.ready md ops listed = [k]) && seqG md ops ks (listed.setIfInBounds k true)
theorem wpAny_of_seqG {Q : Exit → Act → World → Prop} : ∀ (ks : List Nat) (l : List Oper) (listed : Array Bool) (a : Act) (w : World), (ks.map fun k => ops[k]?) = l.map some →
    seqG md ops ks listed = true → wpList P ops Q l a w → wpAny P md ops Q ks.length listed a w
  | [], l, listed, a, w, hl, hB, h => by
    have : l = [] := by simpa using hl.symm
    subst this
    exact ⟨by simpa [seqG] using hB, h⟩
  | k :: ks, [], _, _, _, hl, _, _ => by simp at hl
  | k :: ks, o :: l, listed, a, w, hl, hB, h => by
    simp only [List.map_cons, List.cons.injEq] at hl
    obtain ⟨h0, hl⟩ := hl
    simp only [seqG, Bool.and_eq_true, decide_eq_true_eq] at hB
    refine ⟨fun h1 => (by rw [hB.1] at h1; cases h1), fun i hi => ?_⟩
    rw [hB.1] at hi
    have hik : i = k := by simpa using hi
    subst hik
    have hw : wpOp P ops Q i (wpList P ops Q l) a w := by unfold wpOp; simp only [h0]; exact h
    exact wpOp_mono (fun a' w' h' => wpAny_of_seqG ks l _ a' w' hl hB.2 h') hw
end
section
variable {P : Program} {L : List Oper} {md : Region.Mode} {w : World}
/-- The operation of a number. -/
inductive OpAt : List Oper → Nat → Oper → Prop where
  | here {o : Oper} {l : List Oper} : OpAt (o :: l) 0 o
  | next {o o' : Oper} {l : List Oper} {k : Nat} (h : OpAt l k o) : OpAt (o' :: l) (k + 1) o
theorem OpAt.eq {L : List Oper} {k : Nat} {o : Oper} (h : OpAt L k o) : L[k]? = some o := by
  induction h with
  | here => rfl
  | next _ ih => exact List.getElem?_cons_succ.trans ih
/-- The operations of these numbers. -/
inductive Picks (L : List Oper) : List Nat → List Oper → Prop where
  | nil : Picks L [] []
  | cons {k : Nat} {ks : List Nat} {o : Oper} {l : List Oper} (h : OpAt L k o) (t : Picks L ks l) : Picks L (k :: ks) (o :: l)
theorem Picks.eq {L : List Oper} {ks : List Nat} {l : List Oper} (h : Picks L ks l) : (ks.map fun k => L[k]?) = l.map some := by
  induction h with
  | nil => rfl
  | cons h _ ih => simp only [List.map_cons, h.eq, ih]
theorem get_toArray (ks : List Nat) : (ks.map fun k => L.toArray[k]?) = ks.map fun k => L[k]? := by simp
/-- The same, with the region's operations as a list: so that each is met as it is written. -/
theorem wpAny_headL {n : Nat} (ks : List Nat) (g : Nat) {l : List Oper} {listed : Array Bool} {a : Act} {Q : Exit → Act → World → Prop} (hB : regG md L.toArray n ks listed = true) (hl : Picks L ks l)
    (h : wpStill P L.toArray w (fun a' => wpAny P md L.toArray Q g (setAll ks listed) a' w) l a) : wpAny P md L.toArray Q (ks.length + g) listed a w :=
  wpAny_headG ks g hB ((get_toArray ks).trans hl.eq) h
theorem wpAny_of_seqL {Q : Exit → Act → World → Prop} (ks : List Nat) (l : List Oper) (listed : Array Bool) (a : Act) (w : World) (hl : Picks L ks l)
    (hB : seqG md L.toArray ks listed = true) (h : wpList P L.toArray Q l a w) : wpAny P md L.toArray Q ks.length listed a w :=
  wpAny_of_seqG ks l listed a w ((get_toArray ks).trans hl.eq) hB h
end
end Wt

/- The state of wittingref05's walk (the canonical list so far, the numbers of the nodes that are done), and what a call of put does to it: plain facts. -/
namespace Wt
open Go Go.RowKit Go.Maps Go.Proofs Fm

theorem node_fields : (Tryd.prog.fieldsOf 105).toList.map (fun f => (f.name == "_", f.type, f.offset)) = [(false, 3, 0), (false, 3, 1), (false, 3, 2), (false, 3, 3), (false, 3, 4), (false, 3, 5)] := by kernel_rfl
theorem node_struct : Tryd.prog.underlying 105 = some (.struct (Tryd.prog.fieldsOf 105)) := by kernel_rfl
theorem node_held : Tryd.prog.stoodInHeld 105 = false := by kernel_rfl
theorem eqFields_ints {P : Program} {w : World} (d : Nat) (h3 : P.underlying 3 = some (.int .i64)) (hp3 : P.plainKey 3 = true) (xs ys : Array Value) : ∀ (fs : List Field) (o : Nat) (us bs : List Int), fs.map (fun f => (f.name == "_", f.type, f.offset)) = (List.range' o us.length).map (fun k => (false, 3, k)) →
    us.length = bs.length → (∀ k, k < us.length → xs[o + k]? = some (.int .i64 (us.getD k 0))) → (∀ k, k < us.length → ys[o + k]? = some (.int .i64 (bs.getD k 0))) →
    (Op.eqFields (d + 1) xs ys fs).run P w = .ok (decide (us = bs)) w
  | [], o, us, bs, hf, hl, _, _ => by
    have : us = [] := by cases us with | nil => rfl | cons a us => simp [List.range'] at hf
    subst this
    have : bs = [] := by cases bs with | nil => rfl | cons b bs => simp at hl
    subst this
    simp [Op.eqFields]
  | f :: fs, o, [], bs, hf, hl, _, _ => by simp at hf
  | f :: fs, o, a :: us, [], hf, hl, _, _ => by simp at hl
  | f :: fs, o, a :: us, b :: bs, hf, hl, hx, hy => by
    simp only [List.map_cons, List.length_cons, List.range'_succ, List.cons.injEq, Prod.mk.injEq] at hf
    obtain ⟨⟨h1, h2, h4⟩, hf⟩ := hf
    have ih := eqFields_ints (w := w) d h3 hp3 xs ys fs (o + 1) us bs hf (by simpa using hl) (fun k hk => by have := hx (k + 1) (by simp; omega); rw [show o + (k + 1) = o + 1 + k by omega] at this; simpa using this) (fun k hk => by have := hy (k + 1) (by simp; omega); rw [show o + (k + 1) = o + 1 + k by omega] at this; simpa using this)
    have hx0 := hx 0 (by simp)
    have hy0 := hy 0 (by simp)
    simp at hx0 hy0
    unfold Op.eqFields
    rw [if_pos (by simpa using h1), h2, h4]
    have p1 := run_part_plain (P := P) (w := w) (e := 3) (xs := xs) (off := o) hp3 hx0
    have p2 := run_part_plain (P := P) (w := w) (e := 3) (xs := ys) (off := o) hp3 hy0
    have p3 := run_equalIn_int (P := P) (w := w) d 3 .i64 .i64 a b h3
    simp only [Sem.run_bind, p1, p2, p3, Result.andThen]
    by_cases hab : a = b
    · subst hab
      simp [ih]
    · simp [hab]
theorem int_plain : Tryd.prog.plainKey 3 = true := by kernel_rfl
/-- Nodes are compared field by field. -/
theorem run_nd_eql (a b : Nd) (W : World) : (binOp .eql 105 a.val b.val).run Tryd.prog W = .ok (.bool (decide (a = b))) W := by
  have h := eqFields_ints (P := Tryd.prog) (w := W) 9998 Tryd.underlying3 int_plain #[.int .i64 a.op, .int .i64 a.i, .int .i64 a.e, .int .i64 a.g, .int .i64 a.x, .int .i64 a.y] #[.int .i64 b.op, .int .i64 b.i, .int .i64 b.e, .int .i64 b.g, .int .i64 b.x, .int .i64 b.y] (Tryd.prog.fieldsOf 105).toList 0 [a.op, a.i, a.e, a.g, a.x, a.y] [b.op, b.i, b.e, b.g, b.x, b.y] (by rw [node_fields]; rfl) rfl
    (fun k hk => by
      rcases (show k = 0 ∨ k = 1 ∨ k = 2 ∨ k = 3 ∨ k = 4 ∨ k = 5 by simp at hk; omega) with rfl | rfl | rfl | rfl | rfl | rfl <;> rfl)
    (fun k hk => by
      rcases (show k = 0 ∨ k = 1 ∨ k = 2 ∨ k = 3 ∨ k = 4 ∨ k = 5 by simp at hk; omega) with rfl | rfl | rfl | rfl | rfl | rfl <;> rfl)
  unfold Nd.val
  rw [run_eql_struct, run_equalIn_agg (P := Tryd.prog) (w := W) (t := 105) (ht := node_struct) (hp := node_held), h]
  have : decide (a = b) = decide ([a.op, a.i, a.e, a.g, a.x, a.y] = [b.op, b.i, b.e, b.g, b.x, b.y]) := by
    cases a; cases b; simp
  rw [this]
  rfl

/-- What may differ behind a call: the state's block, the numbers' block, the list's own block, and what is new. -/
structure FR (wb g : Nat) (v : Value) (W W' : World) (v' : Value) : Prop where
  size : W.heap.size ≤ W'.heap.size
  keep : ∀ k, k < W.heap.size → k ≠ wb → k ≠ g → some k ≠ v.ownBlock → W'.heap[k]? = W.heap[k]?
  own : v'.ownBlock = v.ownBlock ∨ ∀ b, v'.ownBlock = some b → W.heap.size ≤ b
theorem FR.refl (wb g : Nat) (v : Value) (W : World) : FR wb g v W W v := ⟨Nat.le_refl _, fun _ _ _ _ _ => rfl, .inl rfl⟩
theorem FR.trans {wb g : Nat} {v v1 v2 : Value} {W W1 W2 : World} (a : FR wb g v W W1 v1) (b : FR wb g v1 W1 W2 v2) : FR wb g v W W2 v2 where
  size := Nat.le_trans a.size b.size
  keep k h1 h2 h3 h4 := by
    have hne : some k ≠ v1.ownBlock := by
      rcases a.own with e | e
      · rw [e]; exact h4
      · intro e2
        have := e k e2.symm
        omega
    exact (b.keep k (Nat.lt_of_lt_of_le h1 a.size) h2 h3 hne).trans (a.keep k h1 h2 h3 h4)
  own := by
    rcases b.own with e | e
    · rw [e]; exact a.own
    · exact .inr fun g hg => Nat.le_trans a.size (e g hg)
theorem FR.ext {wb g : Nat} {v v1 : Value} {W W1 W2 : World} (a : FR wb g v W W1 v1) (b : Ext W1 W2) : FR wb g v W W2 v1 :=
  a.trans ⟨b.size, fun k h1 _ _ _ => b.block k h1, .inl rfl⟩
theorem FR.pre {wb g : Nat} {v v1 : Value} {W W1 W2 : World} (b : Ext W W1) (a : FR wb g v W1 W2 v1) : FR wb g v W W2 v1 :=
  FR.trans (v1 := v) ⟨b.size, fun k h1 _ _ _ => b.block k h1, .inl rfl⟩ a
/-- A block that lies apart from the state is as it was. -/
theorem FR.block {wb g : Nat} {v v1 : Value} {W W1 : World} (a : FR wb g v W W1 v1) {k : Nat} (h1 : k < W.heap.size) (h2 : k ≠ wb) (h3 : k ≠ g) (h4 : some k ≠ v.ownBlock) : W1.heap[k]? = W.heap[k]? := a.keep k h1 h2 h3 h4
theorem FR.xb {wb g : Nat} {v v1 : Value} {W W1 : World} (a : FR wb g v W W1 v1) {b : Nat} (hb : b < W.heap.size) (hv : some b ≠ v.ownBlock) : some b ≠ v1.ownBlock := by
  rcases a.own with e | e
  · rw [e]; exact hv
  · intro e2; have := e b e2.symm; omega

section
variable (w : World) (wb g c : Nat) (l : List Nd)
/-- The state of wittingref05's walk over a formula. -/
structure RS (W : World) (L : List Fm) (v : Value) (D : List Int) : Prop where
  lo : w.heap.size ≤ wb
  hi : wb < W.heap.size
  ext : Ext w W
  co : W.cell? ⟨wb, 0, none⟩ = some v
  cd : W.cell? ⟨wb, 1, none⟩ = some (.slice (some ⟨g, 0, none⟩) l.length c)
  fz : ∀ o, W.frozen? ⟨wb, o, none⟩ = false
  own : W.ownsRow (wb + 1) 105 6 v L.length (rowN (encL L))
  dn : OG W (wb + 1) 3 (.int .i64) g l.length c D
  ne : v.ownBlock ≠ some g
  dD : ∀ i, i < l.length → nth D i = -1 ∨ (trAt l i ∈ L ∧ nth D i = idx L (trAt l i))
  nd : L.Nodup
  cl : Cl L
  ok : AllOk L
  sub : ∀ t ∈ L, t ∈ (List.range l.length).map (trAt l)
variable {w wb g c l} {W : World} {L : List Fm} {v : Value} {D : List Int}
theorem RS.len (h : RS w wb g c l W L v D) : L.length ≤ l.length := by
  have := nodup_sub_len h.nd h.sub
  simpa using this
theorem RS.vb (h : RS w wb g c l W L v D) : ∀ b, v.ownBlock = some b → wb + 1 ≤ b ∧ b < W.heap.size := h.own.lt
theorem RS.gb (h : RS w wb g c l W L v D) : wb + 1 ≤ g ∧ g < W.heap.size := ⟨h.dn.base_le, h.dn.lt⟩
/-- The state lives on where its blocks are as they were. -/
theorem RS.ext' (h : RS w wb g c l W L v D) {W' : World} (e : Ext W W') : RS w wb g c l W' L v D := by
  have hz := h.hi
  refine ⟨h.lo, by have := e.size; omega, h.ext.trans e, e.cell h.co, e.cell h.cd, fun o => ?_, ?_, h.dn.ext e, h.ne, h.dD, h.nd, h.cl, h.ok, h.sub⟩
  · rw [World.frozen?_of_block (w := W) (e.block _ hz)]; exact h.fz o
  · exact h.own.kept (row := none) ⟨e.os, e.tape, e.output, e.size, fun k hk _ => e.block k hk⟩ (by cases v.ownBlock <;> simp)
theorem RS.slice (h : RS w wb g c l W L v D) (hl : l.length ≤ 1000) : ∃ va vc, v = .slice va L.length vc ∧ RN W va (encL L) := by
  obtain ⟨va, vc, hv, hrn⟩ := RN_of_own (l := encL L) (by rw [encL_length]; exact h.own) (by rw [encL_length]; have := h.len; omega)
  rw [encL_length] at hv
  exact ⟨va, vc, hv, hrn⟩
/-- An append to the list, and its store. -/
theorem RS.push (h : RS w wb g c l W L v D) {t : Fm} (hn : t ∉ L) (hk : ∀ c, kid c t → c ∈ L) (ht : fok t) (hs : t ∈ (List.range l.length).map (trAt l)) {W1 : World} {v' : Value}
    (ho : W1.ownsRow (wb + 1) 105 6 v' (L.length + 1) (rowN (encL L) ++ ndCells (ndOf L t))) (g1 : W.grownBy W1 v.ownBlock) (hv : v'.ownBlock = v.ownBlock ∨ ∀ b, v'.ownBlock = some b → W.heap.size ≤ b) :
    RS w wb g c l (W1.setCell ⟨wb, 0, none⟩ v') (L ++ [t]) v' D ∧ FR wb g v W (W1.setCell ⟨wb, 0, none⟩ v') v' := by
  have hz := h.hi
  have hlo := h.lo
  have hgb := h.gb
  have hvb := h.vb
  have hz1 : W.heap.size ≤ W1.heap.size := g1.size
  have hwv : some wb ≠ v.ownBlock := fun e => by have := (hvb wb e.symm).1; omega
  have hgv : some g ≠ v.ownBlock := fun e => h.ne e.symm
  have co1 : W1.cell? ⟨wb, 0, none⟩ = some v := g1.cell h.co (by simpa using hwv)
  have cd1 : W1.cell? ⟨wb, 1, none⟩ = some (.slice (some ⟨g, 0, none⟩) l.length c) := g1.cell h.cd (by simpa using hwv)
  have hlt : ∀ b, v'.ownBlock = some b → wb + 1 ≤ b ∧ b < W1.heap.size := ho.lt
  have hwv' : v'.ownBlock ≠ some wb := fun e => by have := (hlt wb e).1; omega
  have dn1 : OG W1 (wb + 1) 3 (.int .i64) g l.length c D := ⟨h.dn.len, h.dn.row.kept g1 (by simpa [Value.ownBlock] using hgv)⟩
  have e1 : (L ++ [t]).length = L.length + 1 := by simp
  have e2 : rowN (encL (L ++ [t])) = rowN (encL L) ++ ndCells (ndOf L t) := by rw [encL_snoc h.cl hk, rowN_append]; simp [rowN]
  refine ⟨⟨hlo, by simp [World.setCell]; omega, ?_, World.cell?_setCell_same _ _ _ co1, ?_, fun o => ?_, ?_, dn1.other 0 v' (by omega), ?_, ?_, ?_, h.cl.snoc' hn hk, ?_, ?_⟩, ⟨by simpa [World.setCell] using hz1, fun k h1 h2 h3 h4 => ?_, hv⟩⟩
  · exact (ext_of_grown h.ext g1 (fun k hk => by have := (hvb k hk).1; omega)).setCell (by simp; omega) _
  · rw [World.cell?_setCell_other _ _ _ _ (by simp)]; exact cd1
  · rw [World.frozen?_setCell, World.frozen?_of_block (g1.block wb hz hwv)]; exact h.fz o
  · rw [e1, e2]
    exact ho.kept (row := some wb) ⟨rfl, rfl, rfl, by simp, fun j _ hj => heap_setCell_other W1 ⟨wb, 0, none⟩ j v' (fun e => hj (by simp [e]))⟩ (.inr hwv')
  · intro e
    rcases hv with hv | hv
    · rw [hv] at e; exact h.ne e
    · have := hv g e; omega
  · intro i hi
    rcases h.dD i hi with h1 | ⟨h1, h2⟩
    · exact .inl h1
    · exact .inr ⟨by simp [h1], by rw [idx_append h1]; exact h2⟩
  · rw [List.nodup_append]
    refine ⟨h.nd, by simp, fun a ha b hb => ?_⟩
    simp at hb
    subst hb
    rintro rfl
    exact hn ha
  · intro s hs'
    simp only [List.mem_append, List.mem_singleton] at hs'
    rcases hs' with h1 | rfl
    · exact h.ok s h1
    · exact ht
  · intro s hs'
    simp only [List.mem_append, List.mem_singleton] at hs'
    rcases hs' with h1 | rfl
    · exact h.sub s h1
    · exact hs
  · rw [Below.heap_setCell _ _ _ _ (by simpa using h2)]
    exact g1.block k h1 h4
/-- A node's number is written down. -/
theorem RS.mark (h : RS w wb g c l W L v D) {i : Nat} (hi : i < l.length) (hm : trAt l i ∈ L) : RS w wb g c l (W.setCell ⟨g, i, none⟩ (.int .i64 (idx L (trAt l i)))) L v (D.set i (idx L (trAt l i) : Int)) ∧ FR wb g v W (W.setCell ⟨g, i, none⟩ (.int .i64 (idx L (trAt l i)))) v := by
  have hz := h.hi
  have hlo := h.lo
  have hgb := h.gb
  have hdl := h.dn.len
  refine ⟨⟨hlo, by simpa [World.setCell] using hz, h.ext.setCell (by simp; omega) _, ?_, ?_, fun o => ?_, ?_, h.dn.set i _, h.ne, ?_, h.nd, h.cl, h.ok, h.sub⟩, ⟨by simp [World.setCell], fun k h1 h2 h3 h4 => ?_, .inl rfl⟩⟩
  · rw [World.cell?_setCell_other _ _ _ _ (by simp; try omega)]; exact h.co
  · rw [World.cell?_setCell_other _ _ _ _ (by simp; try omega)]; exact h.cd
  · rw [World.frozen?_setCell]; exact h.fz o
  · exact h.own.kept (row := some g) ⟨rfl, rfl, rfl, by simp, fun j _ hj => heap_setCell_other W ⟨g, i, none⟩ j _ (fun e => hj (by simp [e]))⟩ (.inr h.ne)
  · intro j hj
    by_cases hij : i = j
    · subst hij
      refine .inr ⟨hm, ?_⟩
      rw [nth_eq _ _ (by rw [List.length_set]; omega)]
      simp
    · have : nth (D.set i (idx L (trAt l i) : Int)) j = nth D j := by
        rw [nth_eq _ _ (by rw [List.length_set]; omega), nth_eq _ _ (by omega)]
        exact List.getElem_set_ne hij _
      rw [this]
      exact h.dD j hj
  · exact Below.heap_setCell _ _ _ _ (by simpa using h3)
/-- A store into a block that lies apart. -/
theorem RS.setBox (h : RS w wb g c l W L v D) {b : Nat} (h0 : w.heap.size ≤ b) (h1 : b ≠ wb) (h2 : b ≠ g) (h3 : some b ≠ v.ownBlock) (o : Nat) (u : Value) : RS w wb g c l (W.setCell ⟨b, o, none⟩ u) L v D := by
  refine ⟨h.lo, by simpa [World.setCell] using h.hi, h.ext.setCell (by simpa using h0) _, ?_, ?_, fun o => ?_, ?_, h.dn.other o u (Ne.symm h2), h.ne, h.dD, h.nd, h.cl, h.ok, h.sub⟩
  · rw [World.cell?_setCell_other _ _ _ _ (by simp)]; exact h.co
  · rw [World.cell?_setCell_other _ _ _ _ (by simp)]; exact h.cd
  · rw [World.frozen?_setCell]; exact h.fz o
  · exact h.own.kept (row := some b) ⟨rfl, rfl, rfl, by simp, fun j _ hj => heap_setCell_other W ⟨b, o, none⟩ j u (fun e => hj (by simp [e]))⟩ (.inr (Ne.symm h3))
theorem FR.setNew {wb g : Nat} {v v1 : Value} {W W1 : World} (a : FR wb g v W W1 v1) {b : Nat} (hb : W.heap.size ≤ b) (o : Nat) (u : Value) : FR wb g v W (W1.setCell ⟨b, o, none⟩ u) v1 :=
  ⟨by have := a.size; simpa [World.setCell] using this, fun k h1 h2 h3 h4 => (Below.heap_setCell _ _ _ _ (by simp; omega)).trans (a.keep k h1 h2 h3 h4), a.own⟩
/-- Where a node lies in the list. -/
theorem RS.found (h : RS w wb g c l W L v D) {t : Fm} (hk : ∀ c, kid c t → c ∈ L) (ht : fok t) {k : Nat} (hlt : k < L.length) (he : nth (encL L) k = ndOf L t) : t ∈ L ∧ k = idx L t := by
  have h1 : nth (encL L) k = ndOf L L[k] := by
    rw [nth_eq _ _ (by rw [encL_length]; exact hlt)]
    exact encL_get hlt
  have hm : L[k] ∈ L := List.getElem_mem hlt
  have h2 : L[k] = t := ndOf_inj (h.ok _ hm) ht (fun c hc => h.cl.kid hm hc) hk (by rw [← h1, he])
  exact ⟨h2 ▸ hm, by rw [← h2, idx_getElem h.nd hlt]⟩
theorem RS.none (_h : RS w wb g c l W L v D) {t : Fm} (hno : ∀ j, 0 ≤ j → j < L.length → nth (encL L) j ≠ ndOf L t) : t ∉ L := fun hm => by
  refine hno (idx L t) (Nat.zero_le _) (idx_lt hm) ?_
  rw [nth_eq _ _ (by rw [encL_length]; exact idx_lt hm)]
  rw [encL_get (idx_lt hm), getElem_idx hm]
end
end Wt
