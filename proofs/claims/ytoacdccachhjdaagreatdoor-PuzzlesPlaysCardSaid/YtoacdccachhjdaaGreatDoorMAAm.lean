/- Plain laws: masks below a bound; when a tree has a set; the rows of groups. -/
import Derived.Test.YtoacdccachhjdaaGreatDoorMAAj
import Derived.Test.YtoacdccachhjdaaGreatDoorMAAi
import Derived.Test.YtoacdccachhjdaaGreatDoorMAAl
namespace Wt
open Go Go.RowKit Go.Proofs Fm

theorem use_agent_group (op : Int) (h : (useOf op).1.agent = true) : (useOf op).1.group = false := by
  by_cases ho : (useOf op).2 = true
  · obtain ⟨fr, h' | h' | h' | h' | h' | h' | h' | h' | h'⟩ := useOf_pat op ho <;> rw [h'] at h ⊢ <;> simp_all
  · rw [useOf_no op ho] at h ⊢
theorem below_iff (B mask n : Nat) (hm : mask < 2 ^ B) (hB : B ≤ 31) : below mask n = true ↔ ∀ i, i < B → mask.testBit i = true → i < n := by
  unfold below
  constructor
  · intro h i hi hb
    simp only [Bool.or_eq_true, decide_eq_true_eq, beq_iff_eq] at h
    rcases h with h | h
    · omega
    · rcases Nat.lt_or_ge i n with h1 | h1
      · exact h1
      · have : (mask >>> n).testBit (i - n) = mask.testBit i := by rw [Nat.testBit_shiftRight]; congr 1; omega
        rw [h, hb] at this
        simp at this
  · intro h
    simp only [Bool.or_eq_true, decide_eq_true_eq, beq_iff_eq]
    rcases Nat.lt_or_ge n 31 with h1 | h1
    · refine .inr ?_
      apply Nat.eq_of_testBit_eq
      intro j
      rw [Nat.testBit_shiftRight, Nat.zero_testBit]
      rcases hb : mask.testBit (n + j) with _ | _
      · rfl
      · rcases Nat.lt_or_ge (n + j) B with h2 | h2
        · have := h _ h2 hb; omega
        · have : mask < 2 ^ (n + j) := Nat.lt_of_lt_of_le hm (Nat.pow_le_pow_right (by omega) h2)
          rw [Nat.testBit_lt_two_pow this] at hb
          cases hb
    · exact .inl h1
theorem unionL_bound (B : Nat) (m : Nd → Nat) : ∀ (l : List Nd) (a : Nat), a < 2 ^ B → (∀ n ∈ l, m n < 2 ^ B) → l.foldl (fun a n => a ||| m n) a < 2 ^ B
  | [], a, h, _ => h
  | n :: l, a, h, hm => unionL_bound B m l _ (Nat.or_lt_two_pow h (hm n (by simp))) (fun x hx => hm x (by simp [hx]))
theorem fAgents_lt (l : List Nd) : fAgents l < 2 ^ 4 := unionL_bound 4 agentN (fCompact l) 0 (by decide) fun n hn => by
  have h := (fCompact_ok l).1 n hn
  unfold agentN
  split
  · rename_i ha
    have := h.agent ha
    have : n.i.toNat % 9 ≤ 3 := by omega
    exact Nat.lt_of_le_of_lt (Nat.pow_le_pow_right (by omega) this) (by decide)
  · cases hg : (useOf n.op).1.group
    · have := h.nogroup hg; omega
    · have := h.group hg; omega
theorem fFacts_lt (l : List Nd) : fFacts l < 2 ^ 8 := unionL_bound 8 factN (fCompact l) 0 (by decide) fun n hn => by
  have h := (fCompact_ok l).1 n hn
  unfold factN
  split
  · rename_i ha
    have := h.fact ha
    have : n.i.toNat % 9 ≤ 7 := by omega
    exact Nat.lt_of_le_of_lt (Nat.pow_le_pow_right (by omega) this) (by decide)
  · decide
theorem bit_of (mask k : Nat) : (((mask : Int) / 2 ^ k).tmod 2 == 1) = mask.testBit k := by
  have h0 : (mask : Int) / 2 ^ k = ((mask / 2 ^ k : Nat) : Int) := by simp
  have h : ((mask : Int) / 2 ^ k).tmod 2 = ((mask / 2 ^ k % 2 : Nat) : Int) := by rw [h0]; rfl
  rw [h, Nat.testBit_eq_decide_div_mod_eq, Bool.eq_iff_iff]
  simp only [beq_iff_eq, decide_eq_true_eq]
  omega
theorem Sub.or {s t u : BitVec 64} (h1 : Sub s u) (h2 : Sub t u) : Sub (s ||| t) u := fun k hk h => by
  rw [bt_or, Bool.or_eq_true] at h
  exact h.elim (h1 k hk) (h2 k hk)
theorem Sub.orL (s t : BitVec 64) : Sub s (s ||| t) := fun k _ h => by rw [bt_or, h]; rfl
theorem Sub.orR (s t : BitVec 64) : Sub t (s ||| t) := fun k _ h => by rw [bt_or, h]; simp
/-! When a tree has a set. -/
theorem valN_snd (M : Mo) (o i g : Int) (x y x' y' : BitVec 64) : (valN M o i g x y).2 = (valN M o i g x' y').2 := by
  unfold valN
  simp only [apply_ite Prod.snd]
def okS (M : Mo) : Fm → Bool
  | .leaf o i _ g | .un o i _ g _ | .bin o i _ g _ _ => (valN M o i g 0#64 0#64).2
theorem semT_snd (M : Mo) : ∀ t, (semT M t).2 = true ↔ ∀ s, sbt s t → okS M s = true
  | .leaf o i e g => by
    constructor
    · rintro h s rfl; exact h
    · intro h; exact h _ rfl
  | .un o i e g x => by
    have ih := semT_snd M x
    have hv := valN_snd M o i g (semT M x).1 0#64 0#64 0#64
    constructor
    · intro h s hs
      have h1 : (semT M x).2 = true := by
        rcases hx : (semT M x).2 with _ | _
        · simp [semT, hx] at h
        · rfl
      simp [semT, h1] at h
      rcases hs with rfl | hs
      · show (valN M o i g 0#64 0#64).2 = true
        rw [← hv]; exact h
      · exact ih.1 h1 s hs
    · intro h
      have h1 := ih.2 fun s hs => h s (.inr hs)
      have h2 : (valN M o i g 0#64 0#64).2 = true := h _ (.inl rfl)
      simp [semT, h1]; rw [hv]; exact h2
  | .bin o i e g x y => by
    have ihx := semT_snd M x
    have ihy := semT_snd M y
    have hv := valN_snd M o i g (semT M x).1 (semT M y).1 0#64 0#64
    constructor
    · intro h s hs
      have h1 : (semT M x).2 = true := by
        rcases hx : (semT M x).2 with _ | _
        · simp [semT, hx] at h
        · rfl
      have h1y : (semT M y).2 = true := by
        rcases hx : (semT M y).2 with _ | _
        · simp [semT, hx] at h
        · rfl
      simp [semT, h1, h1y] at h
      rcases hs with rfl | hs | hs
      · show (valN M o i g 0#64 0#64).2 = true
        rw [← hv]; exact h
      · exact ihx.1 h1 s hs
      · exact ihy.1 h1y s hs
    · intro h
      have h1 := ihx.2 fun s hs => h s (.inr (.inl hs))
      have h1y := ihy.2 fun s hs => h s (.inr (.inr hs))
      have h2 : (valN M o i g 0#64 0#64).2 = true := h _ (.inl rfl)
      simp [semT, h1, h1y]; rw [hv]; exact h2
end Wt

namespace Wt
open Fm

theorem foldl_or (m : Nd → Nat) : ∀ (l : List Nd) (a : Nat), l.foldl (fun a n => a ||| m n) a = a ||| unionL m l
  | [], a => by simp [unionL]
  | n :: l, a => by
    show l.foldl _ (a ||| m n) = a ||| l.foldl _ (0 ||| m n)
    rw [foldl_or m l (a ||| m n), foldl_or m l (0 ||| m n), Nat.zero_or, Nat.or_assoc]
theorem unionL_cons (m : Nd → Nat) (n : Nd) (l : List Nd) : unionL m (n :: l) = m n ||| unionL m l := by
  show l.foldl _ (0 ||| m n) = _
  rw [foldl_or, Nat.zero_or]
theorem unionL_lt_iff (B : Nat) (m : Nd → Nat) : ∀ l, unionL m l < 2 ^ B ↔ ∀ n ∈ l, m n < 2 ^ B
  | [] => by simp [unionL, Nat.pow_pos]
  | n :: l => by
    rw [unionL_cons]
    have ih := unionL_lt_iff B m l
    constructor
    · intro h x hx
      have h1 : m n ≤ m n ||| unionL m l := Nat.left_le_or
      have h2 : unionL m l ≤ m n ||| unionL m l := Nat.right_le_or
      rcases List.mem_cons.1 hx with rfl | hx
      · omega
      · exact ih.1 (by omega) x hx
    · intro h
      exact Nat.or_lt_two_pow (h n (by simp)) (ih.2 fun x hx => h x (by simp [hx]))
theorem unionL_bit (m : Nd → Nat) (i : Nat) : ∀ l, (unionL m l).testBit i = true ↔ ∃ n ∈ l, (m n).testBit i = true
  | [] => by simp [unionL]
  | n :: l => by
    rw [unionL_cons, Nat.testBit_or, Bool.or_eq_true, unionL_bit m i l]
    constructor
    · rintro (h | ⟨x, hx, h⟩)
      · exact ⟨n, by simp, h⟩
      · exact ⟨x, by simp [hx], h⟩
    · rintro ⟨x, hx, h⟩
      rcases List.mem_cons.1 hx with rfl | hx
      · exact .inl h
      · exact .inr ⟨x, hx, h⟩
theorem grp_bits : ∀ (nr : _root_.Fin 5) (g : _root_.Fin 16), ((∀ i : _root_.Fin 4, g.val.testBit i.val = true → i.val < nr.val) ↔ g.val < 2 ^ nr.val) := by decide +kernel
theorem grp_bits' {nr g : Nat} (h1 : nr ≤ 4) (h2 : g ≤ 15) : (∀ i, i < 4 → g.testBit i = true → i < nr) ↔ g < 2 ^ nr := by
  have := grp_bits ⟨nr, by omega⟩ ⟨g, by omega⟩
  rw [← this]
  exact ⟨fun h i => h i.val i.isLt, fun h i hi => h ⟨i, hi⟩⟩
theorem pow_bits {a nr B : Nat} (h : a < B) : (∀ i, i < B → (2 ^ a).testBit i = true → i < nr) ↔ a < nr := by
  constructor
  · intro h2; exact h2 a h (by rw [Nat.testBit_two_pow_self])
  · intro h2 i _ hb
    rw [Nat.testBit_two_pow, decide_eq_true_eq] at hb
    omega
theorem zero_bits {nr B : Nat} : (∀ i, i < B → (0 : Nat).testBit i = true → i < nr) ↔ True := by simp
/-- A node fits a model, and is static. -/
def ndFits (M : Mo) (n : Nd) : Prop := fragN n < 16 ∧ (∀ i, i < 4 → (agentN n).testBit i = true → i < M.rel.length) ∧ (∀ i, i < 8 → (factN n).testBit i = true → i < M.val.length)
set_option maxHeartbeats 1000000 in
theorem nd_okS (M : Mo) (hr : M.rel.length ≤ 4) (n : Nd) (h : NdOk n) : (valN M n.op n.i n.g 0#64 0#64).2 = true ↔ ndFits M n := by
  obtain ⟨o, i, e, g, x, y⟩ := n
  have h1 := h.fact
  have h2 := h.agent
  have h3 := h.group
  have h4 := h.nogroup
  have h0 := h.op
  clear h
  dsimp only at *
  have plain : ∀ k : Int, (useOf k).1.fact = false → (useOf k).1.agent = false → g = 0 → (ndFits M ⟨k, i, e, g, x, y⟩ ↔ (useOf k).1.frag.toNat < 16) := by
    intro k hf ha hg
    unfold ndFits fragN agentN factN
    dsimp only
    rw [hf, ha, hg]
    simp
  have grp : ∀ k : Int, (useOf k).1.fact = false → (useOf k).1.agent = false → (1 ≤ g ∧ g ≤ 15) → (ndFits M ⟨k, i, e, g, x, y⟩ ↔ (useOf k).1.frag.toNat < 16 ∧ ¬ p2 M.rel.length ≤ g) := by
    intro k hf ha hg
    unfold ndFits fragN agentN factN
    dsimp only
    rw [hf, ha]
    simp only [Bool.false_eq_true, if_false]
    have hg2 : g.toNat % 512 = g.toNat := by omega
    rw [hg2, grp_bits' hr (by omega)]
    simp only [Nat.zero_testBit, Bool.false_eq_true, false_implies, implies_true, and_true]
    unfold p2
    constructor
    · rintro ⟨a, b⟩; exact ⟨a, by omega⟩
    · rintro ⟨a, b⟩; exact ⟨a, by omega⟩
  have agt : ∀ k : Int, (useOf k).1.fact = false → (useOf k).1.agent = true → (0 ≤ i ∧ i ≤ 3) → (ndFits M ⟨k, i, e, g, x, y⟩ ↔ (useOf k).1.frag.toNat < 16 ∧ ¬ (M.rel.length : Int) ≤ i) := by
    intro k hf ha hg
    unfold ndFits fragN agentN factN
    dsimp only
    rw [hf, ha]
    simp only [Bool.false_eq_true, if_false, if_true]
    have hg2 : i.toNat % 9 = i.toNat := by omega
    rw [hg2, pow_bits (by omega)]
    simp only [Nat.zero_testBit, Bool.false_eq_true, false_implies, implies_true, and_true]
    constructor
    · rintro ⟨a, b⟩; exact ⟨a, by omega⟩
    · rintro ⟨a, b⟩; exact ⟨a, by omega⟩
  rcases useOf_cases o h0 with rfl | rfl | rfl | rfl | rfl | rfl | rfl | rfl | rfl | rfl | rfl | rfl | rfl | rfl | rfl | rfl | rfl | rfl | rfl | rfl | rfl
  · rw [plain 1 rfl rfl (h4 rfl)]; simp [valN, useOf]
  · rw [plain 2 rfl rfl (h4 rfl)]; simp [valN, useOf]
  · have hg := h4 rfl
    have hi := h1 rfl
    have hi2 : i.toNat % 9 = i.toNat := by omega
    have hf : ndFits M ⟨3, i, e, g, x, y⟩ ↔ ¬ (M.val.length : Int) ≤ i := by
      unfold ndFits fragN agentN factN
      dsimp only
      rw [show (useOf 3).1.fact = true from rfl, show (useOf 3).1.agent = false from rfl, show (useOf 3).1.frag = 0 from rfl, hg]
      simp only [Bool.false_eq_true, if_false, if_true]
      rw [hi2, pow_bits (a := i.toNat) (B := 8) (by omega)]
      simp
      omega
    rw [hf]
    simp only [valN]
    by_cases hc : (M.val.length : Int) ≤ i <;> simp [hc]
  · rw [plain 4 rfl rfl (h4 rfl)]; simp [valN, useOf]
  · rw [plain 5 rfl rfl (h4 rfl)]; simp [valN, useOf]
  · rw [plain 6 rfl rfl (h4 rfl)]; simp [valN, useOf]
  · rw [plain 7 rfl rfl (h4 rfl)]; simp [valN, useOf]
  · rw [plain 8 rfl rfl (h4 rfl)]; simp [valN, useOf]
  · rw [agt 9 rfl rfl (h2 rfl)]; by_cases hc : (M.rel.length : Int) ≤ i <;> simp [valN, useOf, hc]
  · rw [agt 10 rfl rfl (h2 rfl)]; by_cases hc : (M.rel.length : Int) ≤ i <;> simp [valN, useOf, hc]
  · rw [grp 11 rfl rfl (h3 rfl)]; by_cases hc : p2 M.rel.length ≤ g <;> simp [valN, useOf, hc]
  · rw [grp 12 rfl rfl (h3 rfl)]; by_cases hc : p2 M.rel.length ≤ g <;> simp [valN, useOf, hc]
  · rw [grp 13 rfl rfl (h3 rfl)]; by_cases hc : p2 M.rel.length ≤ g <;> simp [valN, useOf, hc]
  · rw [agt 14 rfl rfl (h2 rfl)]; simp [valN, useOf]
  · rw [agt 15 rfl rfl (h2 rfl)]; simp [valN, useOf]
  · rw [plain 16 rfl rfl (h4 rfl)]; simp [valN, useOf]
  · rw [plain 17 rfl rfl (h4 rfl)]; simp [valN, useOf]
  · rw [plain 18 rfl rfl (h4 rfl)]; simp [valN, useOf]
  · rw [plain 19 rfl rfl (h4 rfl)]; simp [valN, useOf]
  · rw [plain 20 rfl rfl (h4 rfl)]; simp [valN, useOf]
  · rw [plain 21 rfl rfl (h4 rfl)]; simp [valN, useOf]
theorem okS_nd (M : Mo) (L : List Fm) (s : Fm) : okS M s = (valN M (ndOf L s).op (ndOf L s).i (ndOf L s).g 0#64 0#64).2 := by cases s <;> rfl
/-- A tree has a set exactly if its fragments are static, and its agents and facts are there. -/
theorem semT_fits (M : Mo) (hr : M.rel.length ≤ 4) (_hv : M.val.length ≤ 8) (t : Fm) (ht : fok t) :
    (semT M t).2 = (decide (unionL fragN (canon t) < 16) && below (unionL agentN (canon t)) M.rel.length && below (unionL factN (canon t)) M.val.length) := by
  have hok := canon_ok ht
  have hmem : ∀ P : Nd → Prop, (∀ n ∈ canon t, P n) ↔ ∀ s, sbt s t → P (ndOf (addT t []) s) := fun P => by
    constructor
    · intro h s hs
      exact h _ (List.mem_map.2 ⟨s, (mem_addT t []).2 (.inr hs), rfl⟩)
    · intro h n hn
      obtain ⟨s, hs, rfl⟩ := List.mem_map.1 hn
      exact h s (((mem_addT t []).1 hs).elim (fun h => by simp at h) id)
  have hag : unionL agentN (canon t) < 2 ^ 4 := (unionL_lt_iff 4 agentN _).2 fun n hn => by
    have h := hok n hn
    unfold agentN
    split
    · rename_i ha
      have := h.agent ha
      exact Nat.lt_of_le_of_lt (Nat.pow_le_pow_right (by omega) (show n.i.toNat % 9 ≤ 3 by omega)) (by decide)
    · cases hg : (useOf n.op).1.group
      · have := h.nogroup hg; omega
      · have := h.group hg; omega
  have hfa : unionL factN (canon t) < 2 ^ 8 := (unionL_lt_iff 8 factN _).2 fun n hn => by
    have h := hok n hn
    unfold factN
    split
    · rename_i ha
      have := h.fact ha
      exact Nat.lt_of_le_of_lt (Nat.pow_le_pow_right (by omega) (show n.i.toNat % 9 ≤ 7 by omega)) (by decide)
    · decide
  rw [Bool.eq_iff_iff, semT_snd]
  simp only [Bool.and_eq_true, decide_eq_true_eq]
  rw [show (16 : Nat) = 2 ^ 4 from rfl, unionL_lt_iff, below_iff 4 _ _ hag (by omega), below_iff 8 _ _ hfa (by omega)]
  have key : (∀ s, sbt s t → okS M s = true) ↔ ∀ n ∈ canon t, ndFits M n := by
    rw [hmem]
    constructor
    · intro h s hs
      have hn : ndOf (addT t []) s ∈ canon t := List.mem_map.2 ⟨s, (mem_addT t []).2 (.inr hs), rfl⟩
      rw [← nd_okS M hr _ (hok _ hn), ← okS_nd]; exact h s hs
    · intro h s hs
      have hn : ndOf (addT t []) s ∈ canon t := List.mem_map.2 ⟨s, (mem_addT t []).2 (.inr hs), rfl⟩
      rw [okS_nd M (addT t []), nd_okS M hr _ (hok _ hn)]; exact h s hs
  rw [key]
  constructor
  · intro h
    refine ⟨⟨fun n hn => (h n hn).1, fun i hi hb => ?_⟩, fun i hi hb => ?_⟩
    · obtain ⟨n, hn, hb⟩ := (unionL_bit _ _ _).1 hb
      exact (h n hn).2.1 i hi hb
    · obtain ⟨n, hn, hb⟩ := (unionL_bit _ _ _).1 hb
      exact (h n hn).2.2 i hi hb
  · rintro ⟨⟨h1, h2⟩, h3⟩ n hn
    exact ⟨h1 n hn, fun i hi hb => h2 i hi ((unionL_bit _ _ _).2 ⟨n, hn, hb⟩), fun i hi hb => h3 i hi ((unionL_bit _ _ _).2 ⟨n, hn, hb⟩)⟩
end Wt
namespace Wt
open Go Go.RowKit Go.Proofs Fm

/-- A row of a group's relation, after k agents. -/
def gRow (j : BitVec 64 → BitVec 64 → BitVec 64) (z : BitVec 64) (R : List (List (BitVec 64))) (G w : Nat) : Nat → BitVec 64
  | 0 => z
  | q + 1 => if G.testBit q then j (gRow j z R G w q) (nth (nth R q) w) else gRow j z R G w q
theorem gRow_yes {j : BitVec 64 → BitVec 64 → BitVec 64} {z : BitVec 64} {R : List (List (BitVec 64))} {G w q : Nat} (h : G.testBit q = true) : gRow j z R G w (q + 1) = j (gRow j z R G w q) (nth (nth R q) w) := if_pos h
theorem gRow_no {j : BitVec 64 → BitVec 64 → BitVec 64} {z : BitVec 64} {R : List (List (BitVec 64))} {G w q : Nat} (h : G.testBit q = false) : gRow j z R G w (q + 1) = gRow j z R G w q := if_neg (by simp [h])
def jOf (meet : Bool) : BitVec 64 → BitVec 64 → BitVec 64 := if meet then (fun x y => x &&& y) else (fun x y => x ||| y)
def zOf (meet : Bool) (N : Nat) : BitVec 64 := if meet then allW N else 0#64
def gRows (meet : Bool) (R : List (List (BitVec 64))) (G N : Nat) : List (BitVec 64) := (List.range N).map fun w => gRow (jOf meet) (zOf meet N) R G w R.length
theorem zip_nth (j : BitVec 64 → BitVec 64 → BitVec 64) (x y : List (BitVec 64)) (k : Nat) (hx : k < x.length) (hy : k < y.length) : nth (List.zipWith j x y) k = j (nth x k) (nth y k) := by
  rw [nth_eq _ _ (by simp; omega), nth_eq _ _ hx, nth_eq _ _ hy]
  simp
/-- The gathered relation, row by row. -/
theorem gat_row (j : BitVec 64 → BitVec 64 → BitVec 64) (z : BitVec 64) (R : List (List (BitVec 64))) (G n : Nat) (hrow : ∀ r ∈ R, r.length = n) (hz : ∀ q, q < R.length → ∀ w, w < n → j z (nth (nth R q) w) = nth (nth R q) w) :
    ∀ k, k ≤ R.length → ∀ w, w < n → (match gat j R G k with | none => gRow j z R G w k = z | some x => x.length = n ∧ nth x w = gRow j z R G w k)
  | 0, _, w, _ => rfl
  | k + 1, hk, w, hw => by
    have hrk : (nth R k).length = n := hrow _ (by rw [nth_eq R k (by omega)]; exact List.getElem_mem _)
    have ih := gat_row j z R G n hrow hz k (by omega) w hw
    cases hb : G.testBit k
    · have e : gat j R G (k + 1) = gat j R G k := if_neg (by simp [hb])
      rw [e, gRow_no hb]; exact ih
    · have e : gat j R G (k + 1) = (match gat j R G k with | none => some (nth R k) | some x => some (List.zipWith j x (nth R k))) := if_pos hb
      rw [e, gRow_yes hb]
      cases hg : gat j R G k with
      | none =>
        rw [hg] at ih
        have ih' : gRow j z R G w k = z := ih
        show (nth R k).length = n ∧ _
        rw [ih']
        exact ⟨hrk, (hz k (by omega) w hw).symm⟩
      | some x =>
        rw [hg] at ih
        obtain ⟨h1, h2⟩ : x.length = n ∧ nth x w = gRow j z R G w k := ih
        show (List.zipWith j x (nth R k)).length = n ∧ _
        exact ⟨by simp; omega, by rw [zip_nth j x _ w (by omega) (by omega), h2]⟩
theorem gat_some (j : BitVec 64 → BitVec 64 → BitVec 64) (R : List (List (BitVec 64))) (G : Nat) : ∀ k, gat j R G k = none → ∀ q, q < k → G.testBit q = false
  | 0, _, q, h => absurd h (Nat.not_lt_zero _)
  | k + 1, h, q, hq => by
    cases hb : G.testBit k
    · have e : gat j R G (k + 1) = gat j R G k := if_neg (by simp [hb])
      rw [e] at h
      rcases Nat.lt_or_ge q k with h1 | h1
      · exact gat_some j R G k h q h1
      · obtain rfl : q = k := by omega
        exact hb
    · have e : gat j R G (k + 1) = (match gat j R G k with | none => some (nth R k) | some x => some (List.zipWith j x (nth R k))) := if_pos hb
      rw [e] at h
      cases hg : gat j R G k <;> rw [hg] at h <;> cases h
theorem gather_rows (meet : Bool) (M : Mo) (G N : Nat) (ok : MoOk M N) (h1 : 1 ≤ G) (h2 : (G : Int) < p2 M.rel.length) : gather (jOf meet) M G = gRows meet M.rel G N := by
  unfold gather isGroup
  rw [if_pos (by simp [ok.check]; exact ⟨by omega, h2⟩), Int.toNat_natCast]
  have hz : ∀ q, q < M.rel.length → ∀ w, w < N → jOf meet (zOf meet N) (nth (nth M.rel q) w) = nth (nth M.rel q) w := by
    intro q hq w hw
    cases meet
    · simp [jOf, zOf]
    · show allW N &&& _ = _
      have hr : nth M.rel q ∈ M.rel := by rw [nth_eq _ _ hq]; exact List.getElem_mem _
      have hl := ok.row _ hr
      have hs : nth (nth M.rel q) w ∈ nth M.rel q := by rw [nth_eq _ w (by omega)]; exact List.getElem_mem _
      have := andNot_zero.1 (ok.relIn _ hr _ hs)
      apply bt_ext
      intro v hv
      rw [bt_and, Bool.eq_iff_iff, Bool.and_eq_true]
      exact ⟨fun h => h.2, fun h => ⟨this v hv h, h⟩⟩
  have hG := gat_row (jOf meet) (zOf meet N) M.rel G N ok.row hz M.rel.length (Nat.le_refl _)
  cases hg : gat (jOf meet) M.rel G M.rel.length with
  | none =>
    exfalso
    have hno := gat_some (jOf meet) M.rel G M.rel.length hg
    have : G = 0 := by
      apply Nat.eq_of_testBit_eq
      intro i
      rw [Nat.zero_testBit]
      rcases Nat.lt_or_ge i M.rel.length with h | h
      · exact hno i h
      · apply Nat.testBit_lt_two_pow
        unfold p2 at h2
        exact Nat.lt_of_lt_of_le (by omega) (Nat.pow_le_pow_right (by omega) h)
    omega
  | some x =>
    rw [hg] at hG
    have hxl : x.length = N := (hG 0 (by have := ok.one; omega)).1
    apply List.ext_getElem
    · simp [gRows, hxl]
    · intro w hw1 hw2
      have hwN : w < N := by simpa [hxl] using hw1
      have h3 : nth x w = _ := (hG w hwN).2
      rw [nth_eq _ _ (by omega)] at h3
      simp only [Option.getD_some]
      rw [h3]
      simp [gRows]
theorem rel_ok {r : List (BitVec 64)} {N : Nat} (hl : r.length = N) (h64 : N ≤ 64) (hrow : ∀ v, v < N → Sub (nth r v) (allW N)) : relCheck r = 0 := by
  unfold relCheck
  rw [if_neg (by omega), if_neg]
  unfold relBad
  rw [hl]
  simp only [Bool.not_eq_true]
  refine List.any_eq_false.2 fun s hs => ?_
  obtain ⟨k, hk, rfl⟩ := List.getElem_of_mem hs
  have := hrow k (by omega)
  rw [nth_eq _ _ hk] at this
  simp [outOne, andNot_zero.2 this]
theorem row_in {M : Mo} {N : Nat} (ok : MoOk M N) {k : Nat} (hk : k < M.rel.length) : (nth M.rel k).length = N ∧ ∀ v, v < N → Sub (nth (nth M.rel k) v) (allW N) := by
  have hr : nth M.rel k ∈ M.rel := by rw [nth_eq _ _ hk]; exact List.getElem_mem _
  have hl := ok.row _ hr
  refine ⟨hl, fun v hv => andNot_zero.1 (ok.relIn _ hr _ ?_)⟩
  have e : nth (nth M.rel k) v = (nth M.rel k)[v]'(by omega) := nth_eq _ v (by omega)
  rw [e]; exact List.getElem_mem _
theorem gRow_in (meet : Bool) {M : Mo} {N : Nat} (ok : MoOk M N) (G v : Nat) (hv : v < N) : ∀ q, q ≤ M.rel.length → Sub (gRow (jOf meet) (zOf meet N) M.rel G v q) (allW N)
  | 0, _ => by
    cases meet
    · intro k _ h; rw [show gRow (jOf false) (zOf false N) M.rel G v 0 = 0#64 from rfl, bt_zero] at h; cases h
    · exact Sub.refl _
  | q + 1, hq => by
    have ih := gRow_in meet ok G v hv q (by omega)
    have hr := (row_in ok (k := q) (by omega)).2 v hv
    cases hb : G.testBit q
    · rw [gRow_no hb]; exact ih
    · rw [gRow_yes hb]
      cases meet
      · exact Sub.or ih hr
      · intro k hk h
        have h' : bt (gRow (jOf true) (zOf true N) M.rel G v q &&& nth (nth M.rel q) v) k = true := h
        rw [bt_and, Bool.and_eq_true] at h'
        exact ih k hk h'.1
theorem gRows_in (meet : Bool) {M : Mo} {N : Nat} (ok : MoOk M N) (G : Nat) : (gRows meet M.rel G N).length = N ∧ ∀ v, v < N → Sub (nth (gRows meet M.rel G N) v) (allW N) := by
  refine ⟨by simp [gRows], fun v hv => ?_⟩
  rw [nth_eq _ _ (by simp [gRows]; exact hv)]
  simp only [gRows, List.getElem_map, List.getElem_range]
  exact gRow_in meet ok G v hv _ (Nat.le_refl _)
theorem group_in {M : Mo} {N : Nat} (ok : MoOk M N) {G : Nat} (h1 : 1 ≤ G) (h2 : (G : Int) < p2 M.rel.length) : (groupOf M G).length = N ∧ ∀ v, v < N → Sub (nth (groupOf M G) v) (allW N) := by
  have e : groupOf M G = gRows false M.rel G N := gather_rows false M G N ok h1 h2
  rw [e]; exact gRows_in false ok G
theorem meet_in {M : Mo} {N : Nat} (ok : MoOk M N) {G : Nat} (h1 : 1 ≤ G) (h2 : (G : Int) < p2 M.rel.length) : (meetOf M G).length = N ∧ ∀ v, v < N → Sub (nth (meetOf M G) v) (allW N) := by
  have e : meetOf M G = gRows true M.rel G N := gather_rows true M G N ok h1 h2
  rw [e]; exact gRows_in true ok G
section
variable {r : List (BitVec 64)} {s : BitVec 64} {n : Nat}
theorem boxTo_rel (hr : r.length = n) (hok : relCheck r = 0) : boxTo r s n = relBox r s := by
  unfold relBox; rw [if_pos hok, hr]
theorem boxTo_dia (hr : r.length = n) (hok : relCheck r = 0) (hrow : ∀ v, v < n → Sub (nth r v) (allW n)) : allW n &&& ~~~ boxTo r (allW n &&& ~~~ s) n = relDia r s := by
  unfold relDia; rw [if_pos hok, hr]
  congr 2
  apply bt_ext
  intro k hk
  rw [bt_boxTo _ _ _ _ hk, bt_boxTo _ _ _ _ hk, Bool.eq_iff_iff]
  simp only [Bool.and_eq_true, decide_eq_true_eq, beq_iff_eq, andNot_zero]
  constructor
  · rintro ⟨h1, h2⟩
    refine ⟨h1, fun v hv hb => ?_⟩
    have := h2 v hv hb
    rw [bt_and, Bool.and_eq_true] at this
    exact this.2
  · rintro ⟨h1, h2⟩
    refine ⟨h1, fun v hv hb => ?_⟩
    rw [bt_and, h2 v hv hb, hrow k h1 v hv hb]; rfl
end
end Wt

/- Plain laws: the tree of a formula that a constructor builds, and the set of a formula in a right model. -/
namespace Wt
open Go Go.RowKit Go.Proofs Fm

/-- The tree of a whole formula. -/
def rt (l : List Nd) : Fm := trAt l (l.length - 1)
/-- A right formula with this tree. -/
structure IsF (l : List Nd) (t : Fm) : Prop where
  ok : fCheck l = 0
  tree : rt l = t
section
variable {l f g : List Nd} {t a b : Fm}
theorem IsF.of (h : fCheck l = 0) : IsF l (rt l) := ⟨h, rfl⟩
theorem IsF.fk (h : IsF l t) : fok t := by
  obtain ⟨h0, _, hw⟩ := fCheck_ok.1 h.ok
  rw [← h.tree]; exact fok_trAt hw _ _ (Nat.lt_succ_self _) (by omega)
theorem IsF.compact (h : IsF l t) : fCompact l = canon t := by
  rw [(fCompact_of h.ok).1, ← h.tree]; rfl
theorem IsF.mk' (h : fok t) (hs : fsize t ≤ 200) : IsF (canon t) t := ⟨canon_check t h hs, trAt_canon t h⟩
theorem IsF.sz (h : IsF l t) : fsize t ≤ l.length := by
  obtain ⟨h0, _, hw⟩ := fCheck_ok.1 h.ok
  rw [← h.tree]; exact fsize_le hw (by omega)
theorem fsize_sub {L : List Fm} (hL : ∀ s, sbt s t → s ∈ L) : fsize t ≤ L.length := by
  have := nodup_sub_len (L := addT t []) (M := L) (addT_nodup _ List.nodup_nil) (fun s hs => by
    rcases (mem_addT t []).1 hs with h | h
    · simp at h
    · exact hL s h)
  simpa [fsize] using this
theorem sbt_mem {s : Fm} (h : sbt s t) : s ∈ addT t [] := (mem_addT t []).2 (.inr h)
theorem fsize_un (o i e q : Int) : fsize (.un o i e q a) ≤ fsize a + 1 := by
  have := fsize_sub (t := .un o i e q a) (L := addT a [] ++ [.un o i e q a]) (fun s hs => by
    rcases hs with rfl | h
    · simp
    · simp [sbt_mem h])
  simpa [fsize] using this
theorem fsize_bin (o i e q : Int) : fsize (.bin o i e q a b) ≤ fsize a + fsize b + 1 := by
  have := fsize_sub (t := .bin o i e q a b) (L := addT a [] ++ (addT b [] ++ [.bin o i e q a b])) (fun s hs => by
    rcases hs with rfl | h | h
    · simp
    · simp [sbt_mem h]
    · simp [sbt_mem h])
  simp only [List.length_append, List.length_singleton] at this
  show (addT _ []).length ≤ _
  simp only [fsize] at *
  omega
theorem nth_mapN {α β : Type} [Inhabited α] [Inhabited β] (F : α → β) (m : List α) {k : Nat} (h : k < m.length) : nth (m.map F) k = F (nth m k) := by
  rw [nth_eq _ _ (by simpa using h), nth_eq _ _ h]; simp
theorem tr_sh {C : List Nd} {s : Nat} (hC : Wf C) (h : ∀ j, j < C.length → nth l (s + j) = shN s (nth C j)) : ∀ (n k : Nat), k < C.length → tr n l (s + k) = tr n C k
  | 0, _, _ => rfl
  | n + 1, k, hk => by
    unfold tr
    rw [h k hk]
    simp only [shN]
    by_cases hx : (useOf (nth C k).op).1.x = true
    · obtain ⟨h1, h2⟩ := hC.x_lt hk hx
      have ex : ((nth C k).x + (s : Int)).toNat = s + (nth C k).x.toNat := by omega
      have r1 := tr_sh hC h n (nth C k).x.toNat (by omega)
      by_cases hy : (useOf (nth C k).op).1.y = true
      · obtain ⟨h3, h4⟩ := hC.y_lt hk hy
        have ey : ((nth C k).y + (s : Int)).toNat = s + (nth C k).y.toNat := by omega
        have r2 := tr_sh hC h n (nth C k).y.toNat (by omega)
        simp [hx, hy, ex, r1, ey, r2]
      · simp [hx, hy, ex, r1]
    · simp [hx]
theorem trAt_sh {C : List Nd} {s : Nat} (hC : Wf C) (h : ∀ j, j < C.length → nth l (s + j) = shN s (nth C j)) {k : Nat} (hk : k < C.length) : trAt l (s + k) = trAt C k := by
  unfold trAt; rw [tr_sh hC h _ k hk]; exact tr_fuel hC _ _ k hk (by omega) (by omega)
theorem isF_un {o i e q : Int} (h : IsF f a) (hk : fok (.un o i e q a)) (hs : fsize (.un o i e q a) ≤ 200) : IsF (fB ⟨o, i, e, q, 0, 0⟩ [f]) (.un o i e q a) := by
  have hk0 := hk
  obtain ⟨k1, k2, k3, k4, k5, k6⟩ := hk
  have hm : (canon a).length = fsize a := canon_length a
  have hp := fsize_pos a
  have e1 : bF [f] 1 = (canon a).map (shN 0) := by rw [← h.compact]; rfl
  have l1 : (bF [f] 1).length = fsize a := by rw [e1]; simp
  have e2 : bX ⟨o, i, e, q, 0, 0⟩ [f] 1 = ⟨o, i, e, q, (fsize a : Int) - 1, 0⟩ := by
    show Nd.mk o i e q (((bF [f] 1).length : Int) - 1) 0 = _
    rw [l1]
  have hn : nodeErr ⟨o, i, e, q, (fsize a : Int) - 1, 0⟩ (bF [f] 1).length = 0 := by
    refine nodeErr_zero k1 ?_ ?_ k4 k5
    · show opnd (useOf o).1.x ((fsize a : Int) - 1) _ = true
      rw [k2, l1]; simp [opnd]; omega
    · show opnd (useOf o).1.y 0 _ = true
      rw [k3]; simp [opnd]
  have hw : Wf (bF [f] 1 ++ [⟨o, i, e, q, (fsize a : Int) - 1, 0⟩]) := (bF_wf [f] 1).snoc hn
  have ht : bT ⟨o, i, e, q, 0, 0⟩ [f] = .un o i e q a := by
    show trAt (bF [f] 1 ++ [bX _ [f] 1]) (bF [f] 1).length = _
    rw [e2]
    have hl : (bF [f] 1).length < (bF [f] 1 ++ [Nd.mk o i e q ((fsize a : Int) - 1) 0]).length := by simp
    have en : nth (bF [f] 1 ++ [Nd.mk o i e q ((fsize a : Int) - 1) 0]) (bF [f] 1).length = ⟨o, i, e, q, (fsize a : Int) - 1, 0⟩ := by
      have := nth_appR (bF [f] 1) [Nd.mk o i e q ((fsize a : Int) - 1) 0] (k := 0) (by simp)
      rw [Nat.add_zero] at this; rw [this]; rfl
    rw [trAt_un hw hl (by rw [en]; exact k2) (by rw [en]; exact k3), en]
    show Fm.un o i e q (trAt _ ((fsize a : Int) - 1).toNat) = _
    congr 1
    have hs := trAt_sh (l := bF [f] 1 ++ [Nd.mk o i e q ((fsize a : Int) - 1) 0]) (C := canon a) (s := 0) (canon_wf a k6) (fun j hj => by
      rw [Nat.zero_add, nth_appL _ _ (by rw [l1]; omega), e1, nth_mapN _ _ hj]) (k := fsize a - 1) (by omega)
    rw [show ((fsize a : Int) - 1).toNat = 0 + (fsize a - 1) by omega, hs]
    have := trAt_canon a k6; rwa [hm] at this
  have hB : fB ⟨o, i, e, q, 0, 0⟩ [f] = canon (.un o i e q a) := by
    unfold fB
    rw [ht]
    have c1 : nodeErr (bX ⟨o, i, e, q, 0, 0⟩ [f] [f].length) (bF [f] [f].length).length = 0 := by
      show nodeErr (bX _ [f] 1) (bF [f] 1).length = 0
      rw [e2]; exact hn
    rw [c1]
    simp [h.ok]
    omega
  rw [hB]; exact IsF.mk' hk0 hs
theorem isF_bin {o i e q : Int} (h : IsF f a) (h2 : IsF g b) (hk : fok (.bin o i e q a b)) (hs : fsize (.bin o i e q a b) ≤ 200) (hx : (useOf o).1.x = true) : IsF (fB ⟨o, i, e, q, 0, 0⟩ [f, g]) (.bin o i e q a b) := by
  have hk0 := hk
  obtain ⟨k1, k3, k4, k5, k6, k7⟩ := hk
  have hm : (canon a).length = fsize a := canon_length a
  have hm2 : (canon b).length = fsize b := canon_length b
  have hp := fsize_pos a
  have hp2 := fsize_pos b
  have e1 : bF [f, g] 1 = (canon a).map (shN 0) := by rw [← h.compact]; rfl
  have l1 : (bF [f, g] 1).length = fsize a := by rw [e1]; simp
  have e3 : bF [f, g] 2 = bF [f, g] 1 ++ (canon b).map (shN (fsize a)) := by rw [← h2.compact, ← l1]; rfl
  have l2 : (bF [f, g] 2).length = fsize a + fsize b := by rw [e3]; simp [l1]
  have e2 : bX ⟨o, i, e, q, 0, 0⟩ [f, g] 2 = ⟨o, i, e, q, (fsize a : Int) - 1, (fsize a : Int) + fsize b - 1⟩ := by
    show Nd.mk o i e q (((bF [f, g] 1).length : Int) - 1) (((bF [f, g] 2).length : Int) - 1) = _
    rw [l1, l2]; simp
  have hn : nodeErr ⟨o, i, e, q, (fsize a : Int) - 1, (fsize a : Int) + fsize b - 1⟩ (bF [f, g] 2).length = 0 := by
    refine nodeErr_zero k1 ?_ ?_ k4 k5
    · show opnd (useOf o).1.x ((fsize a : Int) - 1) _ = true
      rw [hx, l2]; simp [opnd]; omega
    · show opnd (useOf o).1.y ((fsize a : Int) + fsize b - 1) _ = true
      rw [k3, l2]; simp [opnd]; omega
  have hw : Wf (bF [f, g] 2 ++ [⟨o, i, e, q, (fsize a : Int) - 1, (fsize a : Int) + fsize b - 1⟩]) := (bF_wf [f, g] 2).snoc hn
  have ht : bT ⟨o, i, e, q, 0, 0⟩ [f, g] = .bin o i e q a b := by
    show trAt (bF [f, g] 2 ++ [bX _ [f, g] 2]) (bF [f, g] 2).length = _
    rw [e2]
    generalize hn' : Nd.mk o i e q ((fsize a : Int) - 1) ((fsize a : Int) + fsize b - 1) = nd at *
    have hl : (bF [f, g] 2).length < (bF [f, g] 2 ++ [nd]).length := by simp
    have en : nth (bF [f, g] 2 ++ [nd]) (bF [f, g] 2).length = nd := by
      have := nth_appR (bF [f, g] 2) [nd] (k := 0) (by simp)
      rw [Nat.add_zero] at this; rw [this]; rfl
    rw [trAt_bin hw hl (by rw [en, ← hn']; exact k3), en, ← hn']
    show Fm.bin o i e q (trAt _ ((fsize a : Int) - 1).toNat) (trAt _ ((fsize a : Int) + fsize b - 1).toNat) = _
    have hs1 := trAt_sh (l := bF [f, g] 2 ++ [Nd.mk o i e q ((fsize a : Int) - 1) ((fsize a : Int) + fsize b - 1)]) (C := canon a) (s := 0) (canon_wf a k6) (fun j hj => by
      rw [Nat.zero_add, nth_appL _ _ (by rw [l2]; omega), e3, nth_appL _ _ (by rw [l1]; omega), e1, nth_mapN _ _ hj]) (k := fsize a - 1) (by omega)
    have hs2 := trAt_sh (l := bF [f, g] 2 ++ [Nd.mk o i e q ((fsize a : Int) - 1) ((fsize a : Int) + fsize b - 1)]) (C := canon b) (s := fsize a) (canon_wf b k7) (fun j hj => by
      have := nth_appR (bF [f, g] 1) ((canon b).map (shN (fsize a))) (k := j) (by simpa using hj)
      rw [l1] at this
      rw [nth_appL _ _ (by rw [l2]; omega), e3, this, nth_mapN _ _ hj]) (k := fsize b - 1) (by omega)
    rw [show ((fsize a : Int) - 1).toNat = 0 + (fsize a - 1) by omega, hs1, show ((fsize a : Int) + fsize b - 1).toNat = fsize a + (fsize b - 1) by omega, hs2]
    have r1 := trAt_canon a k6
    have r2 := trAt_canon b k7
    rw [hm] at r1; rw [hm2] at r2
    rw [r1, r2]
  have hB : fB ⟨o, i, e, q, 0, 0⟩ [f, g] = canon (.bin o i e q a b) := by
    unfold fB
    rw [ht]
    have c1 : nodeErr (bX ⟨o, i, e, q, 0, 0⟩ [f, g] [f, g].length) (bF [f, g] [f, g].length).length = 0 := by
      show nodeErr (bX _ [f, g] 2) (bF [f, g] 2).length = 0
      rw [e2]; exact hn
    rw [c1]
    simp [h.ok, h2.ok]
    omega
  rw [hB]; exact IsF.mk' hk0 hs
/-- A right formula in a right model: whether it has a set, and the set. -/
theorem set_sem {M : Mo} (hM : moCheck M = 0) (h : IsF f a) : (reqErr M f == 0) = (semT M a).2 ∧ holdsOf M f = (semT M a).1 := by
  obtain ⟨n, ok⟩ := moCheck_ok hM
  have e := semT_fits M ok.rel ok.val a h.fk
  have hr : (reqErr M f == 0) = (semT M a).2 := by
    rw [e]
    unfold reqErr fFits fFrags fAgents fFacts
    rw [h.compact, h.ok, hM]
    by_cases h1 : unionL fragN (canon a) < 16
    · have h1' : ¬ 16 ≤ unionL fragN (canon a) := by omega
      cases h2 : below (unionL agentN (canon a)) M.rel.length <;> cases h3 : below (unionL factN (canon a)) M.val.length <;> simp [h1, h1']
    · have h1' : 16 ≤ unionL fragN (canon a) := by omega
      simp [h1, h1']
  refine ⟨hr, ?_⟩
  unfold holdsOf
  by_cases hq : reqErr M f = 0
  · rw [if_pos hq]; unfold lastSet; rw [← h.tree]; rfl
  · rw [if_neg hq, semT_false M a (by rw [← hr]; simp [hq])]
theorem semT_un {M : Mo} (o i e q : Int) (h : (semT M a).2 = true) : semT M (.un o i e q a) = valN M o i q (semT M a).1 0#64 := by simp [semT, h]
theorem semT_bin {M : Mo} (o i e q : Int) (h : (semT M a).2 = true) (h2 : (semT M b).2 = true) : semT M (.bin o i e q a b) = valN M o i q (semT M a).1 (semT M b).1 := by simp [semT, h, h2]
theorem fok_not (h : fok a) : fok (.un 4 0 0 0 a) := ⟨rfl, rfl, rfl, rfl, rfl, h⟩
theorem fok_know (k : Nat) (hk : k < 4) (h : fok a) : fok (.un 9 k 0 0 a) := ⟨rfl, rfl, rfl, by simp [needless, useOf], by simp [wide, useOf, outs]; omega, h⟩
theorem fok_poss (k : Nat) (hk : k < 4) (h : fok a) : fok (.un 10 k 0 0 a) := ⟨rfl, rfl, rfl, by simp [needless, useOf], by simp [wide, useOf, outs]; omega, h⟩
theorem fok_every (k : Int) (hk : 1 ≤ k ∧ k ≤ 15) (h : fok a) : fok (.un 11 0 0 k a) := ⟨rfl, rfl, rfl, by simp [needless, useOf], by simp [wide, useOf, outs]; omega, h⟩
theorem fok_dist (k : Int) (hk : 1 ≤ k ∧ k ≤ 15) (h : fok a) : fok (.un 12 0 0 k a) := ⟨rfl, rfl, rfl, by simp [needless, useOf], by simp [wide, useOf, outs]; omega, h⟩
theorem fok_common (k : Int) (hk : 1 ≤ k ∧ k ≤ 15) (h : fok a) (h2 : fok b) : fok (.bin 13 0 0 k a b) := ⟨rfl, rfl, by simp [needless, useOf], by simp [wide, useOf, outs]; omega, h, h2⟩
theorem fok_and (h : fok a) (h2 : fok b) : fok (.bin 5 0 0 0 a b) := ⟨rfl, rfl, rfl, rfl, h, h2⟩
theorem fok_or (h : fok a) (h2 : fok b) : fok (.bin 6 0 0 0 a b) := ⟨rfl, rfl, rfl, rfl, h, h2⟩
theorem fok_imp (h : fok a) (h2 : fok b) : fok (.bin 7 0 0 0 a b) := ⟨rfl, rfl, rfl, rfl, h, h2⟩
theorem fok_iff (h : fok a) (h2 : fok b) : fok (.bin 8 0 0 0 a b) := ⟨rfl, rfl, rfl, rfl, h, h2⟩
end
theorem p2_small {R : Nat} (h1 : 1 ≤ R) (h4 : R ≤ 4) : 2 ≤ p2 R ∧ p2 R ≤ 16 := by
  have : R = 1 ∨ R = 2 ∨ R = 3 ∨ R = 4 := by omega
  rcases this with rfl | rfl | rfl | rfl <;> decide
theorem p2_sh {R : Nat} (h4 : R ≤ 4) : wrap64 ((2 : Int) ^ R) = p2 R := by
  have : R = 0 ∨ R = 1 ∨ R = 2 ∨ R = 3 ∨ R = 4 := by omega
  rcases this with rfl | rfl | rfl | rfl | rfl <;> (rw [← IntWalk.i64_left]; decide +kernel)
theorem full_group {R : Nat} (h1 : 1 ≤ R) (h4 : R ≤ 4) : ∃ G : Nat, (1 ≤ G ∧ G ≤ 15) ∧ (G : Int) < p2 R ∧ (∀ q, q < R → G.testBit q = true) ∧ p2 R - 1 = (G : Int) := by
  have : R = 1 ∨ R = 2 ∨ R = 3 ∨ R = 4 := by omega
  rcases this with rfl | rfl | rfl | rfl
  · exact ⟨1, by decide, by decide, by decide, by decide⟩
  · exact ⟨3, by decide, by decide, by decide, by decide⟩
  · exact ⟨7, by decide, by decide, by decide, by decide⟩
  · exact ⟨15, by decide, by decide, by decide, by decide⟩
theorem last_group {R : Nat} (h1 : 1 ≤ R) (h4 : R ≤ 4) : ∃ G : Nat, (1 ≤ G ∧ G ≤ 15) ∧ (G : Int) < p2 R ∧ (∀ q, q < R → G.testBit q = decide (q + 1 = R)) ∧ p2 (R - 1) = (G : Int) := by
  have : R = 1 ∨ R = 2 ∨ R = 3 ∨ R = 4 := by omega
  rcases this with rfl | rfl | rfl | rfl
  · exact ⟨1, by decide, by decide, by decide, by decide⟩
  · exact ⟨2, by decide, by decide, by decide, by decide⟩
  · exact ⟨4, by decide, by decide, by decide, by decide⟩
  · exact ⟨8, by decide, by decide, by decide, by decide⟩
theorem nth_mem {α : Type} [Inhabited α] {l : List α} {k : Nat} (h : k < l.length) : nth l k ∈ l := by rw [nth_eq _ _ h]; exact List.getElem_mem h
theorem nth_or {α : Type} [Inhabited α] (l : List α) (k : Nat) : nth l k ∈ l ∨ nth l k = default := by
  by_cases h : k < l.length
  · exact .inl (nth_mem h)
  · right; unfold nth; simp [List.getD, h]
theorem Sub.and1 {s t u : BitVec 64} (h : Sub s u) : Sub (s &&& t) u := fun k hk hb => by
  rw [bt_and, Bool.and_eq_true] at hb; exact h k hk hb.1
theorem box_in {r : List (BitVec 64)} {s : BitVec 64} {N : Nat} (h : r.length ≤ N) : Sub (relBox r s) (allW N) := fun k hk hb => by
  rw [bt_relBox r s k hk] at hb
  simp only [Bool.and_eq_true, decide_eq_true_eq] at hb
  rw [bt_allW]; simp; omega
theorem zero_in (s : BitVec 64) : Sub 0#64 s := fun k hk hb => by simp [bt_zero] at hb
theorem cmn_in {r : List (BitVec 64)} {N : Nat} (h : r.length ≤ N) (c s : BitVec 64) : Sub (cmn r N c s) (allW N) := by
  unfold cmn
  have hI : ∀ k, Sub (cmnI r N c s k) (allW N) := by
    intro k
    cases k with
    | zero => exact Sub.refl _
    | succ k => exact box_in h
  exact hI N
theorem semT_in {M : Mo} {N : Nat} (ok : MoOk M N) : ∀ t, Sub (semT M t).1 (allW N) := by
  have hN : M.worlds.toNat = N := by rw [ok.worlds]; exact Int.toNat_natCast N
  have hv : ∀ o i g x y, Sub x (allW N) → Sub y (allW N) → Sub (valN M o i g x y).1 (allW N) := by
    intro o i g x y hx hy
    have I : ∀ {c : Prop} [Decidable c] {a b : BitVec 64 × Bool}, (c → Sub a.1 (allW N)) → (¬c → Sub b.1 (allW N)) → Sub (if c then a else b).1 (allW N) := by
      intro c _ a b ha hb
      by_cases hc : c
      · rw [if_pos hc]; exact ha hc
      · rw [if_neg hc]; exact hb hc
    have hg : (groupOf M g).length ≤ N := gather_le _ M g ok
    have hg2 : (meetOf M g).length ≤ N := gather_le _ M g ok
    have hrl : (nth M.rel i.toNat).length ≤ N := by
      rcases nth_or M.rel i.toNat with h2 | h2
      · rw [ok.row _ h2]; exact Nat.le_refl _
      · rw [h2]; exact Nat.zero_le _
    have Z : Sub ((0#64, false) : BitVec 64 × Bool).1 (allW N) := zero_in _
    have A : Sub (allW M.worlds.toNat) (allW N) := by rw [hN]; exact Sub.refl _
    unfold valN
    refine I (fun _ => A) fun _ => I (fun _ => zero_in _) fun _ => I (fun _ => I (fun _ => Z) fun h => ?_) fun _ => I (fun _ => A.and1) fun _ => I (fun _ => hx.and1) fun _ => I (fun _ => hx.or hy) fun _ => I (fun _ => A.and1.or hy) fun _ => I (fun _ => A.and1) fun _ => I (fun _ => I (fun _ => Z) fun h => ?_) fun _ => I (fun _ => I (fun _ => Z) fun h => ?_) fun _ => I (fun _ => I (fun _ => Z) fun h => box_in hg) fun _ => I (fun _ => I (fun _ => Z) fun h => box_in hg2) fun _ => I (fun _ => I (fun _ => Z) fun h => ?_) fun _ => Z
    · show Sub (nth M.val i.toNat) _
      rcases nth_or M.val i.toNat with h2 | h2
      · exact andNot_zero.1 (ok.valIn _ h2)
      · rw [h2]; exact zero_in _
    · exact box_in hrl
    · show Sub (relDia _ _) _
      unfold relDia
      split
      · exact Sub.and1 (fun k hk hb => by rw [bt_allW] at hb ⊢; simp at hb ⊢; omega)
      · exact zero_in _
    · show Sub (cmn _ _ _ _) _
      rw [hN]; exact cmn_in hg _ _
  intro t
  induction t with
  | leaf o i e g => exact hv _ _ _ _ _ (zero_in _) (zero_in _)
  | un o i e g x ih =>
    unfold semT
    split
    · exact hv _ _ _ _ _ ih (zero_in _)
    · exact zero_in _
  | bin o i e g x y ih1 ih2 =>
    unfold semT
    split
    · exact hv _ _ _ _ _ ih1 ih2
    · exact zero_in _
end Wt
