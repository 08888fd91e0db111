/- Plain laws: masks below a bound; when a tree has a set; the rows of groups. -/
import Derived.Test.YtflnfcmbalhpnaaDoorM4Aj
import Derived.Test.YtflnfcmbalhpnaaDoorM4Ai
import Derived.Test.YtflnfcmbalhpnaaDoorM4Al
namespace Wt
open Go Go.RowKit Go.Proofs Fm

theorem use_agent_group (op : Int) (h : (useOf op).1.agent = true) : (useOf op).1.group = false := by
  by_cases ho : (useOf op).2 = true
  · obtain ⟨fr, h' | h' | h' | h' | h' | h' | h' | h' | h'⟩ := useOf_pat op ho <;> rw [h'] at h ⊢ <;> simp_all
  · rw [useOf_no op ho] at h ⊢
theorem below_iff (B mask n : Nat) (hm : mask < 2 ^ B) (hB : B ≤ 31) : below mask n = true ↔ ∀ i, i < B → mask.testBit i = true → i < n := by
  unfold below
  constructor
  · intro h i hi hb
    simp only [Bool.or_eq_true, decide_eq_true_eq, beq_iff_eq] at h
    rcases h with h | h
    · omega
    · rcases Nat.lt_or_ge i n with h1 | h1
      · exact h1
      · have : (mask >>> n).testBit (i - n) = mask.testBit i := by rw [Nat.testBit_shiftRight]; congr 1; omega
        rw [h, hb] at this
        simp at this
  · intro h
    simp only [Bool.or_eq_true, decide_eq_true_eq, beq_iff_eq]
    rcases Nat.lt_or_ge n 31 with h1 | h1
    · refine .inr ?_
      apply Nat.eq_of_testBit_eq
      intro j
      rw [Nat.testBit_shiftRight, Nat.zero_testBit]
      rcases hb : mask.testBit (n + j) with _ | _
      · rfl
      · rcases Nat.lt_or_ge (n + j) B with h2 | h2
        · have := h _ h2 hb; omega
        · have : mask < 2 ^ (n + j) := Nat.lt_of_lt_of_le hm (Nat.pow_le_pow_right (by omega) h2)
          rw [Nat.testBit_lt_two_pow this] at hb
          cases hb
    · exact .inl h1
theorem unionL_bound (B : Nat) (m : Nd → Nat) : ∀ (l : List Nd) (a : Nat), a < 2 ^ B → (∀ n ∈ l, m n < 2 ^ B) → l.foldl (fun a n => a ||| m n) a < 2 ^ B
  | [], a, h, _ => h
  | n :: l, a, h, hm => unionL_bound B m l _ (Nat.or_lt_two_pow h (hm n (by simp))) (fun x hx => hm x (by simp [hx]))
theorem fAgents_lt (l : List Nd) : fAgents l < 2 ^ 4 := unionL_bound 4 agentN (fCompact l) 0 (by decide) fun n hn => by
  have h := (fCompact_ok l).1 n hn
  unfold agentN
  split
  · rename_i ha
    have := h.agent ha
    have : n.i.toNat % 9 ≤ 3 := by omega
    exact Nat.lt_of_le_of_lt (Nat.pow_le_pow_right (by omega) this) (by decide)
  · cases hg : (useOf n.op).1.group
    · have := h.nogroup hg; omega
    · have := h.group hg; omega
theorem fFacts_lt (l : List Nd) : fFacts l < 2 ^ 8 := unionL_bound 8 factN (fCompact l) 0 (by decide) fun n hn => by
  have h := (fCompact_ok l).1 n hn
  unfold factN
  split
  · rename_i ha
    have := h.fact ha
    have : n.i.toNat % 9 ≤ 7 := by omega
    exact Nat.lt_of_le_of_lt (Nat.pow_le_pow_right (by omega) this) (by decide)
  · decide
theorem bit_of (mask k : Nat) : (((mask : Int) / 2 ^ k).tmod 2 == 1) = mask.testBit k := by
  have h0 : (mask : Int) / 2 ^ k = ((mask / 2 ^ k : Nat) : Int) := by simp
  have h : ((mask : Int) / 2 ^ k).tmod 2 = ((mask / 2 ^ k % 2 : Nat) : Int) := by rw [h0]; rfl
  rw [h, Nat.testBit_eq_decide_div_mod_eq, Bool.eq_iff_iff]
  simp only [beq_iff_eq, decide_eq_true_eq]
  omega
theorem Sub.or {s t u : BitVec 64} (h1 : Sub s u) (h2 : Sub t u) : Sub (s ||| t) u := fun k hk h => by
  rw [bt_or, Bool.or_eq_true] at h
  exact h.elim (h1 k hk) (h2 k hk)
theorem Sub.orL (s t : BitVec 64) : Sub s (s ||| t) := fun k _ h => by rw [bt_or, h]; rfl
theorem Sub.orR (s t : BitVec 64) : Sub t (s ||| t) := fun k _ h => by rw [bt_or, h]; simp
/-! When a tree has a set. -/
theorem valN_snd (M : Mo) (o i g : Int) (x y x' y' : BitVec 64) : (valN M o i g x y).2 = (valN M o i g x' y').2 := by
  unfold valN
  simp only [apply_ite Prod.snd]
def okS (M : Mo) : Fm → Bool
  | .leaf o i _ g | .un o i _ g _ | .bin o i _ g _ _ => (valN M o i g 0#64 0#64).2
theorem semT_snd (M : Mo) : ∀ t, (semT M t).2 = true ↔ ∀ s, sbt s t → okS M s = true
  | .leaf o i e g => by
    constructor
    · rintro h s rfl; exact h
    · intro h; exact h _ rfl
  | .un o i e g x => by
    have ih := semT_snd M x
    have hv := valN_snd M o i g (semT M x).1 0#64 0#64 0#64
    constructor
    · intro h s hs
      have h1 : (semT M x).2 = true := by
        rcases hx : (semT M x).2 with _ | _
        · simp [semT, hx] at h
        · rfl
      simp [semT, h1] at h
      rcases hs with rfl | hs
      · show (valN M o i g 0#64 0#64).2 = true
        rw [← hv]; exact h
      · exact ih.1 h1 s hs
    · intro h
      have h1 := ih.2 fun s hs => h s (.inr hs)
      have h2 : (valN M o i g 0#64 0#64).2 = true := h _ (.inl rfl)
      simp [semT, h1]; rw [hv]; exact h2
  | .bin o i e g x y => by
    have ihx := semT_snd M x
    have ihy := semT_snd M y
    have hv := valN_snd M o i g (semT M x).1 (semT M y).1 0#64 0#64
    constructor
    · intro h s hs
      have h1 : (semT M x).2 = true := by
        rcases hx : (semT M x).2 with _ | _
        · simp [semT, hx] at h
        · rfl
      have h1y : (semT M y).2 = true := by
        rcases hx : (semT M y).2 with _ | _
        · simp [semT, hx] at h
        · rfl
      simp [semT, h1, h1y] at h
      rcases hs with rfl | hs | hs
      · show (valN M o i g 0#64 0#64).2 = true
        rw [← hv]; exact h
      · exact ihx.1 h1 s hs
      · exact ihy.1 h1y s hs
    · intro h
      have h1 := ihx.2 fun s hs => h s (.inr (.inl hs))
      have h1y := ihy.2 fun s hs => h s (.inr (.inr hs))
      have h2 : (valN M o i g 0#64 0#64).2 = true := h _ (.inl rfl)
      simp [semT, h1, h1y]; rw [hv]; exact h2
end Wt

namespace Wt
open Fm

theorem foldl_or (m : Nd → Nat) : ∀ (l : List Nd) (a : Nat), l.foldl (fun a n => a ||| m n) a = a ||| unionL m l
  | [], a => by simp [unionL]
  | n :: l, a => by
    show l.foldl _ (a ||| m n) = a ||| l.foldl _ (0 ||| m n)
    rw [foldl_or m l (a ||| m n), foldl_or m l (0 ||| m n), Nat.zero_or, Nat.or_assoc]
theorem unionL_cons (m : Nd → Nat) (n : Nd) (l : List Nd) : unionL m (n :: l) = m n ||| unionL m l := by
  show l.foldl _ (0 ||| m n) = _
  rw [foldl_or, Nat.zero_or]
theorem unionL_lt_iff (B : Nat) (m : Nd → Nat) : ∀ l, unionL m l < 2 ^ B ↔ ∀ n ∈ l, m n < 2 ^ B
  | [] => by simp [unionL, Nat.pow_pos]
  | n :: l => by
    rw [unionL_cons]
    have ih := unionL_lt_iff B m l
    constructor
    · intro h x hx
      have h1 : m n ≤ m n ||| unionL m l := Nat.left_le_or
      have h2 : unionL m l ≤ m n ||| unionL m l := Nat.right_le_or
      rcases List.mem_cons.1 hx with rfl | hx
      · omega
      · exact ih.1 (by omega) x hx
    · intro h
      exact Nat.or_lt_two_pow (h n (by simp)) (ih.2 fun x hx => h x (by simp [hx]))
theorem unionL_bit (m : Nd → Nat) (i : Nat) : ∀ l, (unionL m l).testBit i = true ↔ ∃ n ∈ l, (m n).testBit i = true
  | [] => by simp [unionL]
  | n :: l => by
    rw [unionL_cons, Nat.testBit_or, Bool.or_eq_true, unionL_bit m i l]
    constructor
    · rintro (h | ⟨x, hx, h⟩)
      · exact ⟨n, by simp, h⟩
      · exact ⟨x, by simp [hx], h⟩
    · rintro ⟨x, hx, h⟩
      rcases List.mem_cons.1 hx with rfl | hx
      · exact .inl h
      · exact .inr ⟨x, hx, h⟩
theorem grp_bits : ∀ (nr : _root_.Fin 5) (g : _root_.Fin 16), ((∀ i : _root_.Fin 4, g.val.testBit i.val = true → i.val < nr.val) ↔ g.val < 2 ^ nr.val) := by decide +kernel
theorem grp_bits' {nr g : Nat} (h1 : nr ≤ 4) (h2 : g ≤ 15) : (∀ i, i < 4 → g.testBit i = true → i < nr) ↔ g < 2 ^ nr := by
  have := grp_bits ⟨nr, by omega⟩ ⟨g, by omega⟩
  rw [← this]
  exact ⟨fun h i => h i.val i.isLt, fun h i hi => h ⟨i, hi⟩⟩
theorem pow_bits {a nr B : Nat} (h : a < B) : (∀ i, i < B → (2 ^ a).testBit i = true → i < nr) ↔ a < nr := by
  constructor
  · intro h2; exact h2 a h (by rw [Nat.testBit_two_pow_self])
  · intro h2 i _ hb
    rw [Nat.testBit_two_pow, decide_eq_true_eq] at hb
    omega
theorem zero_bits {nr B : Nat} : (∀ i, i < B → (0 : Nat).testBit i = true → i < nr) ↔ True := by simp
/-- A node fits a model, and is static. -/
def ndFits (M : Mo) (n : Nd) : Prop := fragN n < 16 ∧ (∀ i, i < 4 → (agentN n).testBit i = true → i < M.rel.length) ∧ (∀ i, i < 8 → (factN n).testBit i = true → i < M.val.length)
set_option maxHeartbeats 1000000 in
theorem nd_okS (M : Mo) (hr : M.rel.length ≤ 4) (n : Nd) (h : NdOk n) : (valN M n.op n.i n.g 0#64 0#64).2 = true ↔ ndFits M n := by
  obtain ⟨o, i, e, g, x, y⟩ := n
  have h1 := h.fact
  have h2 := h.agent
  have h3 := h.group
  have h4 := h.nogroup
  have h0 := h.op
  clear h
  dsimp only at *
  have plain : ∀ k : Int, (useOf k).1.fact = false → (useOf k).1.agent = false → g = 0 → (ndFits M ⟨k, i, e, g, x, y⟩ ↔ (useOf k).1.frag.toNat < 16) := by
    intro k hf ha hg
    unfold ndFits fragN agentN factN
    dsimp only
    rw [hf, ha, hg]
    simp
  have grp : ∀ k : Int, (useOf k).1.fact = false → (useOf k).1.agent = false → (1 ≤ g ∧ g ≤ 15) → (ndFits M ⟨k, i, e, g, x, y⟩ ↔ (useOf k).1.frag.toNat < 16 ∧ ¬ p2 M.rel.length ≤ g) := by
    intro k hf ha hg
    unfold ndFits fragN agentN factN
    dsimp only
    rw [hf, ha]
    simp only [Bool.false_eq_true, if_false]
    have hg2 : g.toNat % 512 = g.toNat := by omega
    rw [hg2, grp_bits' hr (by omega)]
    simp only [Nat.zero_testBit, Bool.false_eq_true, false_implies, implies_true, and_true]
    unfold p2
    constructor
    · rintro ⟨a, b⟩; exact ⟨a, by omega⟩
    · rintro ⟨a, b⟩; exact ⟨a, by omega⟩
  have agt : ∀ k : Int, (useOf k).1.fact = false → (useOf k).1.agent = true → (0 ≤ i ∧ i ≤ 3) → (ndFits M ⟨k, i, e, g, x, y⟩ ↔ (useOf k).1.frag.toNat < 16 ∧ ¬ (M.rel.length : Int) ≤ i) := by
    intro k hf ha hg
    unfold ndFits fragN agentN factN
    dsimp only
    rw [hf, ha]
    simp only [Bool.false_eq_true, if_false, if_true]
    have hg2 : i.toNat % 9 = i.toNat := by omega
    rw [hg2, pow_bits (by omega)]
    simp only [Nat.zero_testBit, Bool.false_eq_true, false_implies, implies_true, and_true]
    constructor
    · rintro ⟨a, b⟩; exact ⟨a, by omega⟩
    · rintro ⟨a, b⟩; exact ⟨a, by omega⟩
  rcases useOf_cases o h0 with rfl | rfl | rfl | rfl | rfl | rfl | rfl | rfl | rfl | rfl | rfl | rfl | rfl | rfl | rfl | rfl | rfl | rfl | rfl | rfl | rfl
  · rw [plain 1 rfl rfl (h4 rfl)]; simp [valN, useOf]
  · rw [plain 2 rfl rfl (h4 rfl)]; simp [valN, useOf]
  · have hg := h4 rfl
    have hi := h1 rfl
    have hi2 : i.toNat % 9 = i.toNat := by omega
    have hf : ndFits M ⟨3, i, e, g, x, y⟩ ↔ ¬ (M.val.length : Int) ≤ i := by
      unfold ndFits fragN agentN factN
      dsimp only
      rw [show (useOf 3).1.fact = true from rfl, show (useOf 3).1.agent = false from rfl, show (useOf 3).1.frag = 0 from rfl, hg]
      simp only [Bool.false_eq_true, if_false, if_true]
      rw [hi2, pow_bits (a := i.toNat) (B := 8) (by omega)]
      simp
      omega
    rw [hf]
    simp only [valN]
    by_cases hc : (M.val.length : Int) ≤ i <;> simp [hc]
  · rw [plain 4 rfl rfl (h4 rfl)]; simp [valN, useOf]
  · rw [plain 5 rfl rfl (h4 rfl)]; simp [valN, useOf]
  · rw [plain 6 rfl rfl (h4 rfl)]; simp [valN, useOf]
  · rw [plain 7 rfl rfl (h4 rfl)]; simp [valN, useOf]
  · rw [plain 8 rfl rfl (h4 rfl)]; simp [valN, useOf]
  · rw [agt 9 rfl rfl (h2 rfl)]; by_cases hc : (M.rel.length : Int) ≤ i <;> simp [valN, useOf, hc]
  · rw [agt 10 rfl rfl (h2 rfl)]; by_cases hc : (M.rel.length : Int) ≤ i <;> simp [valN, useOf, hc]
  · rw [grp 11 rfl rfl (h3 rfl)]; by_cases hc : p2 M.rel.length ≤ g <;> simp [valN, useOf, hc]
  · rw [grp 12 rfl rfl (h3 rfl)]; by_cases hc : p2 M.rel.length ≤ g <;> simp [valN, useOf, hc]
  · rw [grp 13 rfl rfl (h3 rfl)]; by_cases hc : p2 M.rel.length ≤ g <;> simp [valN, useOf, hc]
  · rw [agt 14 rfl rfl (h2 rfl)]; simp [valN, useOf]
  · rw [agt 15 rfl rfl (h2 rfl)]; simp [valN, useOf]
  · rw [plain 16 rfl rfl (h4 rfl)]; simp [valN, useOf]
  · rw [plain 17 rfl rfl (h4 rfl)]; simp [valN, useOf]
  · rw [plain 18 rfl rfl (h4 rfl)]; simp [valN, useOf]
  · rw [plain 19 rfl rfl (h4 rfl)]; simp [valN, useOf]
  · rw [plain 20 rfl rfl (h4 rfl)]; simp [valN, useOf]
  · rw [plain 21 rfl rfl (h4 rfl)]; simp [valN, useOf]
theorem okS_nd (M : Mo) (L : List Fm) (s : Fm) : okS M s = (valN M (ndOf L s).op (ndOf L s).i (ndOf L s).g 0#64 0#64).2 := by cases s <;> rfl
/-- A tree has a set exactly if its fragments are static, and its agents and facts are there. -/
theorem semT_fits (M : Mo) (hr : M.rel.length ≤ 4) (_hv : M.val.length ≤ 8) (t : Fm) (ht : fok t) :
    (semT M t).2 = (decide (unionL fragN (canon t) < 16) && below (unionL agentN (canon t)) M.rel.length && below (unionL factN (canon t)) M.val.length) := by
  have hok := canon_ok ht
  have hmem : ∀ P : Nd → Prop, (∀ n ∈ canon t, P n) ↔ ∀ s, sbt s t → P (ndOf (addT t []) s) := fun P => by
    constructor
    · intro h s hs
      exact h _ (List.mem_map.2 ⟨s, (mem_addT t []).2 (.inr hs), rfl⟩)
    · intro h n hn
      obtain ⟨s, hs, rfl⟩ := List.mem_map.1 hn
      exact h s (((mem_addT t []).1 hs).elim (fun h => by simp at h) id)
  have hag : unionL agentN (canon t) < 2 ^ 4 := (unionL_lt_iff 4 agentN _).2 fun n hn => by
    have h := hok n hn
    unfold agentN
    split
    · rename_i ha
      have := h.agent ha
      exact Nat.lt_of_le_of_lt (Nat.pow_le_pow_right (by omega) (show n.i.toNat % 9 ≤ 3 by omega)) (by decide)
    · cases hg : (useOf n.op).1.group
      · have := h.nogroup hg; omega
      · have := h.group hg; omega
  have hfa : unionL factN (canon t) < 2 ^ 8 := (unionL_lt_iff 8 factN _).2 fun n hn => by
    have h := hok n hn
    unfold factN
    split
    · rename_i ha
      have := h.fact ha
      exact Nat.lt_of_le_of_lt (Nat.pow_le_pow_right (by omega) (show n.i.toNat % 9 ≤ 7 by omega)) (by decide)
    · decide
  rw [Bool.eq_iff_iff, semT_snd]
  simp only [Bool.and_eq_true, decide_eq_true_eq]
  rw [show (16 : Nat) = 2 ^ 4 from rfl, unionL_lt_iff, below_iff 4 _ _ hag (by omega), below_iff 8 _ _ hfa (by omega)]
  have key : (∀ s, sbt s t → okS M s = true) ↔ ∀ n ∈ canon t, ndFits M n := by
    rw [hmem]
    constructor
    · intro h s hs
      have hn : ndOf (addT t []) s ∈ canon t := List.mem_map.2 ⟨s, (mem_addT t []).2 (.inr hs), rfl⟩
      rw [← nd_okS M hr _ (hok _ hn), ← okS_nd]; exact h s hs
    · intro h s hs
      have hn : ndOf (addT t []) s ∈ canon t := List.mem_map.2 ⟨s, (mem_addT t []).2 (.inr hs), rfl⟩
      rw [okS_nd M (addT t []), nd_okS M hr _ (hok _ hn)]; exact h s hs
  rw [key]
  constructor
  · intro h
    refine ⟨⟨fun n hn => (h n hn).1, fun i hi hb => ?_⟩, fun i hi hb => ?_⟩
    · obtain ⟨n, hn, hb⟩ := (unionL_bit _ _ _).1 hb
      exact (h n hn).2.1 i hi hb
    · obtain ⟨n, hn, hb⟩ := (unionL_bit _ _ _).1 hb
      exact (h n hn).2.2 i hi hb
  · rintro ⟨⟨h1, h2⟩, h3⟩ n hn
    exact ⟨h1 n hn, fun i hi hb => h2 i hi ((unionL_bit _ _ _).2 ⟨n, hn, hb⟩), fun i hi hb => h3 i hi ((unionL_bit _ _ _).2 ⟨n, hn, hb⟩)⟩
end Wt
namespace Wt
open Go Go.RowKit Go.Proofs Fm

/-- A row of a group's relation, after k agents. -/
def gRow (j : BitVec 64 → BitVec 64 → BitVec 64) (z : BitVec 64) (R : List (List (BitVec 64))) (G w : Nat) : Nat → BitVec 64
  | 0 => z
  | q + 1 => if G.testBit q then j (gRow j z R G w q) (nth (nth R q) w) else gRow j z R G w q
theorem gRow_yes {j : BitVec 64 → BitVec 64 → BitVec 64} {z : BitVec 64} {R : List (List (BitVec 64))} {G w q : Nat} (h : G.testBit q = true) : gRow j z R G w (q + 1) = j (gRow j z R G w q) (nth (nth R q) w) := if_pos h
theorem gRow_no {j : BitVec 64 → BitVec 64 → BitVec 64} {z : BitVec 64} {R : List (List (BitVec 64))} {G w q : Nat} (h : G.testBit q = false) : gRow j z R G w (q + 1) = gRow j z R G w q := if_neg (by simp [h])
def jOf (meet : Bool) : BitVec 64 → BitVec 64 → BitVec 64 := if meet then (fun x y => x &&& y) else (fun x y => x ||| y)
def zOf (meet : Bool) (N : Nat) : BitVec 64 := if meet then allW N else 0#64
def gRows (meet : Bool) (R : List (List (BitVec 64))) (G N : Nat) : List (BitVec 64) := (List.range N).map fun w => gRow (jOf meet) (zOf meet N) R G w R.length
theorem zip_nth (j : BitVec 64 → BitVec 64 → BitVec 64) (x y : List (BitVec 64)) (k : Nat) (hx : k < x.length) (hy : k < y.length) : nth (List.zipWith j x y) k = j (nth x k) (nth y k) := by
  rw [nth_eq _ _ (by simp; omega), nth_eq _ _ hx, nth_eq _ _ hy]
  simp
/-- The gathered relation, row by row. -/
theorem gat_row (j : BitVec 64 → BitVec 64 → BitVec 64) (z : BitVec 64) (R : List (List (BitVec 64))) (G n : Nat) (hrow : ∀ r ∈ R, r.length = n) (hz : ∀ q, q < R.length → ∀ w, w < n → j z (nth (nth R q) w) = nth (nth R q) w) :
    ∀ k, k ≤ R.length → ∀ w, w < n → (match gat j R G k with | none => gRow j z R G w k = z | some x => x.length = n ∧ nth x w = gRow j z R G w k)
  | 0, _, w, _ => rfl
  | k + 1, hk, w, hw => by
    have hrk : (nth R k).length = n := hrow _ (by rw [nth_eq R k (by omega)]; exact List.getElem_mem _)
    have ih := gat_row j z R G n hrow hz k (by omega) w hw
    cases hb : G.testBit k
    · have e : gat j R G (k + 1) = gat j R G k := if_neg (by simp [hb])
      rw [e, gRow_no hb]; exact ih
    · have e : gat j R G (k + 1) = (match gat j R G k with | none => some (nth R k) | some x => some (List.zipWith j x (nth R k))) := if_pos hb
      rw [e, gRow_yes hb]
      cases hg : gat j R G k with
      | none =>
        rw [hg] at ih
        have ih' : gRow j z R G w k = z := ih
        show (nth R k).length = n ∧ _
        rw [ih']
        exact ⟨hrk, (hz k (by omega) w hw).symm⟩
      | some x =>
        rw [hg] at ih
        obtain ⟨h1, h2⟩ : x.length = n ∧ nth x w = gRow j z R G w k := ih
        show (List.zipWith j x (nth R k)).length = n ∧ _
        exact ⟨by simp; omega, by rw [zip_nth j x _ w (by omega) (by omega), h2]⟩
theorem gat_some (j : BitVec 64 → BitVec 64 → BitVec 64) (R : List (List (BitVec 64))) (G : Nat) : ∀ k, gat j R G k = none → ∀ q, q < k → G.testBit q = false
  | 0, _, q, h => absurd h (Nat.not_lt_zero _)
  | k + 1, h, q, hq => by
    cases hb : G.testBit k
    · have e : gat j R G (k + 1) = gat j R G k := if_neg (by simp [hb])
      rw [e] at h
      rcases Nat.lt_or_ge q k with h1 | h1
      · exact gat_some j R G k h q h1
      · obtain rfl : q = k := by omega
        exact hb
    · have e : gat j R G (k + 1) = (match gat j R G k with | none => some (nth R k) | some x => some (List.zipWith j x (nth R k))) := if_pos hb
      rw [e] at h
      cases hg : gat j R G k <;> rw [hg] at h <;> cases h
theorem gather_rows (meet : Bool) (M : Mo) (G N : Nat) (ok : MoOk M N) (h1 : 1 ≤ G) (h2 : (G : Int) < p2 M.rel.length) : gather (jOf meet) M G = gRows meet M.rel G N := by
  unfold gather isGroup
  rw [if_pos (by simp [ok.check]; exact ⟨by omega, h2⟩), Int.toNat_natCast]
  have hz : ∀ q, q < M.rel.length → ∀ w, w < N → jOf meet (zOf meet N) (nth (nth M.rel q) w) = nth (nth M.rel q) w := by
    intro q hq w hw
    cases meet
    · simp [jOf, zOf]
    · show allW N &&& _ = _
      have hr : nth M.rel q ∈ M.rel := by rw [nth_eq _ _ hq]; exact List.getElem_mem _
      have hl := ok.row _ hr
      have hs : nth (nth M.rel q) w ∈ nth M.rel q := by rw [nth_eq _ w (by omega)]; exact List.getElem_mem _
      have := andNot_zero.1 (ok.relIn _ hr _ hs)
      apply bt_ext
      intro v hv
      rw [bt_and, Bool.eq_iff_iff, Bool.and_eq_true]
      exact ⟨fun h => h.2, fun h => ⟨this v hv h, h⟩⟩
  have hG := gat_row (jOf meet) (zOf meet N) M.rel G N ok.row hz M.rel.length (Nat.le_refl _)
  cases hg : gat (jOf meet) M.rel G M.rel.length with
  | none =>
    exfalso
    have hno := gat_some (jOf meet) M.rel G M.rel.length hg
    have : G = 0 := by
      apply Nat.eq_of_testBit_eq
      intro i
      rw [Nat.zero_testBit]
      rcases Nat.lt_or_ge i M.rel.length with h | h
      · exact hno i h
      · apply Nat.testBit_lt_two_pow
        unfold p2 at h2
        exact Nat.lt_of_lt_of_le (by omega) (Nat.pow_le_pow_right (by omega) h)
    omega
  | some x =>
    rw [hg] at hG
    have hxl : x.length = N := (hG 0 (by have := ok.one; omega)).1
    apply List.ext_getElem
    · simp [gRows, hxl]
    · intro w hw1 hw2
      have hwN : w < N := by simpa [hxl] using hw1
      have h3 : nth x w = _ := (hG w hwN).2
      rw [nth_eq _ _ (by omega)] at h3
      simp only [Option.getD_some]
      rw [h3]
      simp [gRows]
theorem rel_ok {r : List (BitVec 64)} {N : Nat} (hl : r.length = N) (h64 : N ≤ 64) (hrow : ∀ v, v < N → Sub (nth r v) (allW N)) : relCheck r = 0 := by
  unfold relCheck
  rw [if_neg (by omega), if_neg]
  unfold relBad
  rw [hl]
  simp only [Bool.not_eq_true]
  refine List.any_eq_false.2 fun s hs => ?_
  obtain ⟨k, hk, rfl⟩ := List.getElem_of_mem hs
  have := hrow k (by omega)
  rw [nth_eq _ _ hk] at this
  simp [outOne, andNot_zero.2 this]
theorem row_in {M : Mo} {N : Nat} (ok : MoOk M N) {k : Nat} (hk : k < M.rel.length) : (nth M.rel k).length = N ∧ ∀ v, v < N → Sub (nth (nth M.rel k) v) (allW N) := by
  have hr : nth M.rel k ∈ M.rel := by rw [nth_eq _ _ hk]; exact List.getElem_mem _
  have hl := ok.row _ hr
  refine ⟨hl, fun v hv => andNot_zero.1 (ok.relIn _ hr _ ?_)⟩
  have e : nth (nth M.rel k) v = (nth M.rel k)[v]'(by omega) := nth_eq _ v (by omega)
  rw [e]; exact List.getElem_mem _
theorem gRow_in (meet : Bool) {M : Mo} {N : Nat} (ok : MoOk M N) (G v : Nat) (hv : v < N) : ∀ q, q ≤ M.rel.length → Sub (gRow (jOf meet) (zOf meet N) M.rel G v q) (allW N)
  | 0, _ => by
    cases meet
    · intro k _ h; rw [show gRow (jOf false) (zOf false N) M.rel G v 0 = 0#64 from rfl, bt_zero] at h; cases h
    · exact Sub.refl _
  | q + 1, hq => by
    have ih := gRow_in meet ok G v hv q (by omega)
    have hr := (row_in ok (k := q) (by omega)).2 v hv
    cases hb : G.testBit q
    · rw [gRow_no hb]; exact ih
    · rw [gRow_yes hb]
      cases meet
      · exact Sub.or ih hr
      · intro k hk h
        have h' : bt (gRow (jOf true) (zOf true N) M.rel G v q &&& nth (nth M.rel q) v) k = true := h
        rw [bt_and, Bool.and_eq_true] at h'
        exact ih k hk h'.1
theorem gRows_in (meet : Bool) {M : Mo} {N : Nat} (ok : MoOk M N) (G : Nat) : (gRows meet M.rel G N).length = N ∧ ∀ v, v < N → Sub (nth (gRows meet M.rel G N) v) (allW N) := by
  refine ⟨by simp [gRows], fun v hv => ?_⟩
  rw [nth_eq _ _ (by simp [gRows]; exact hv)]
  simp only [gRows, List.getElem_map, List.getElem_range]
  exact gRow_in meet ok G v hv _ (Nat.le_refl _)
theorem group_in {M : Mo} {N : Nat} (ok : MoOk M N) {G : Nat} (h1 : 1 ≤ G) (h2 : (G : Int) < p2 M.rel.length) : (groupOf M G).length = N ∧ ∀ v, v < N → Sub (nth (groupOf M G) v) (allW N) := by
  have e : groupOf M G = gRows false M.rel G N := gather_rows false M G N ok h1 h2
  rw [e]; exact gRows_in false ok G
theorem meet_in {M : Mo} {N : Nat} (ok : MoOk M N) {G : Nat} (h1 : 1 ≤ G) (h2 : (G : Int) < p2 M.rel.length) : (meetOf M G).length = N ∧ ∀ v, v < N → Sub (nth (meetOf M G) v) (allW N) := by
  have e : meetOf M G = gRows true M.rel G N := gather_rows true M G N ok h1 h2
  rw [e]; exact gRows_in true ok G
section
variable {r : List (BitVec 64)} {s : BitVec 64} {n : Nat}
theorem boxTo_rel (hr : r.length = n) (hok : relCheck r = 0) : boxTo r s n = relBox r s := by
  unfold relBox; rw [if_pos hok, hr]
theorem boxTo_dia (hr : r.length = n) (hok : relCheck r = 0) (hrow : ∀ v, v < n → Sub (nth r v) (allW n)) : allW n &&& ~~~ boxTo r (allW n &&& ~~~ s) n = relDia r s := by
  unfold relDia; rw [if_pos hok, hr]
  congr 2
  apply bt_ext
  intro k hk
  rw [bt_boxTo _ _ _ _ hk, bt_boxTo _ _ _ _ hk, Bool.eq_iff_iff]
  simp only [Bool.and_eq_true, decide_eq_true_eq, beq_iff_eq, andNot_zero]
  constructor
  · rintro ⟨h1, h2⟩
    refine ⟨h1, fun v hv hb => ?_⟩
    have := h2 v hv hb
    rw [bt_and, Bool.and_eq_true] at this
    exact this.2
  · rintro ⟨h1, h2⟩
    refine ⟨h1, fun v hv hb => ?_⟩
    rw [bt_and, h2 v hv hb, hrow k h1 v hv hb]; rfl
end
end Wt

/- Plain laws: the tree of a formula that a constructor builds, and the set of a formula in a right model. -/
namespace Wt
open Go Go.RowKit Go.Proofs Fm

/-- The tree of a whole formula. -/
def rt (l : List Nd) : Fm := trAt l (l.length - 1)
/-- A right formula with this tree. -/
structure IsF (l : List Nd) (t : Fm) : Prop where
  ok : fCheck l = 0
  tree : rt l = t
section
variable {l f g : List Nd} {t a b : Fm}
theorem IsF.of (h : fCheck l = 0) : IsF l (rt l) := ⟨h, rfl⟩
theorem IsF.fk (h : IsF l t) : fok t := by
  obtain ⟨h0, _, hw⟩ := fCheck_ok.1 h.ok
  rw [← h.tree]; exact fok_trAt hw _ _ (Nat.lt_succ_self _) (by omega)
theorem IsF.compact (h : IsF l t) : fCompact l = canon t := by
  rw [(fCompact_of h.ok).1, ← h.tree]; rfl
theorem IsF.mk' (h : fok t) (hs : fsize t ≤ 200) : IsF (canon t) t := ⟨canon_check t h hs, trAt_canon t h⟩
theorem IsF.sz (h : IsF l t) : fsize t ≤ l.length := by
  obtain ⟨h0, _, hw⟩ := fCheck_ok.1 h.ok
  rw [← h.tree]; exact fsize_le hw (by omega)
theorem fsize_sub {L : List Fm} (hL : ∀ s, sbt s t → s ∈ L) : fsize t ≤ L.length := by
  have := nodup_sub_len (L := addT t []) (M := L) (addT_nodup _ List.nodup_nil) (fun s hs => by
    rcases (mem_addT t []).1 hs with h | h
    · simp at h
    · exact hL s h)
  simpa [fsize] using this
theorem sbt_mem {s : Fm} (h : sbt s t) : s ∈ addT t [] := (mem_addT t []).2 (.inr h)
theorem fsize_un (o i e q : Int) : fsize (.un o i e q a) ≤ fsize a + 1 := by
  have := fsize_sub (t := .un o i e q a) (L := addT a [] ++ [.un o i e q a]) (fun s hs => by
    rcases hs with rfl | h
    · simp
    · simp [sbt_mem h])
  simpa [fsize] using this
theorem fsize_bin (o i e q : Int) : fsize (.bin o i e q a b) ≤ fsize a + fsize b + 1 := by
  have := fsize_sub (t := .bin o i e q a b) (L := addT a [] ++ (addT b [] ++ [.bin o i e q a b])) (fun s hs => by
    rcases hs with rfl | h | h
    · simp
    · simp [sbt_mem h]
    · simp [sbt_mem h])
  simp only [List.length_append, List.length_singleton] at this
  show (addT _ []).length ≤ _
  simp only [fsize] at *
  omega
theorem nth_mapN {α β : Type} [Inhabited α] [Inhabited β] (F : α → β) (m : List α) {k : Nat} (h : k < m.length) : nth (m.map F) k = F (nth m k) := by
  rw [nth_eq _ _ (by simpa using h), nth_eq _ _ h]; simp
theorem tr_sh {C : List Nd} {s : Nat} (hC : Wf C) (h : ∀ j, j < C.length → nth l (s + j) = shN s (nth C j)) : ∀ (n k : Nat), k < C.length → tr n l (s + k) = tr n C k
  | 0, _, _ => rfl
  | n + 1, k, hk => by
    unfold tr
    rw [h k hk]
    simp only [shN]
    by_cases hx : (useOf (nth C k).op).1.x = true
    · obtain ⟨h1, h2⟩ := hC.x_lt hk hx
      have ex : ((nth C k).x + (s : Int)).toNat = s + (nth C k).x.toNat := by omega
      have r1 := tr_sh hC h n (nth C k).x.toNat (by omega)
      by_cases hy : (useOf (nth C k).op).1.y = true
      · obtain ⟨h3, h4⟩ := hC.y_lt hk hy
        have ey : ((nth C k).y + (s : Int)).toNat = s + (nth C k).y.toNat := by omega
        have r2 := tr_sh hC h n (nth C k).y.toNat (by omega)
        simp [hx, hy, ex, r1, ey, r2]
      · simp [hx, hy, ex, r1]
    · simp [hx]
theorem trAt_sh {C : List Nd} {s : Nat} (hC : Wf C) (h : ∀ j, j < C.length → nth l (s + j) = shN s (nth C j)) {k : Nat} (hk : k < C.length) : trAt l (s + k) = trAt C k := by
  unfold trAt; rw [tr_sh hC h _ k hk]; exact tr_fuel hC _ _ k hk (by omega) (by omega)
theorem isF_un {o i e q : Int} (h : IsF f a) (hk : fok (.un o i e q a)) (hs : fsize (.un o i e q a) ≤ 200) : IsF (fB ⟨o, i, e, q, 0, 0⟩ [f]) (.un o i e q a) := by
  have hk0 := hk
  obtain ⟨k1, k2, k3, k4, k5, k6⟩ := hk
  have hm : (canon a).length = fsize a := canon_length a
  have hp := fsize_pos a
  have e1 : bF [f] 1 = (canon a).map (shN 0) := by rw [← h.compact]; rfl
  have l1 : (bF [f] 1).length = fsize a := by rw [e1]; simp
  have e2 : bX ⟨o, i, e, q, 0, 0⟩ [f] 1 = ⟨o, i, e, q, (fsize a : Int) - 1, 0⟩ := by
    show Nd.mk o i e q (((bF [f] 1).length : Int) - 1) 0 = _
    rw [l1]
  have hn : nodeErr ⟨o, i, e, q, (fsize a : Int) - 1, 0⟩ (bF [f] 1).length = 0 := by
    refine nodeErr_zero k1 ?_ ?_ k4 k5
    · show opnd (useOf o).1.x ((fsize a : Int) - 1) _ = true
      rw [k2, l1]; simp [opnd]; omega
    · show opnd (useOf o).1.y 0 _ = true
      rw [k3]; simp [opnd]
  have hw : Wf (bF [f] 1 ++ [⟨o, i, e, q, (fsize a : Int) - 1, 0⟩]) := (bF_wf [f] 1).snoc hn
  have ht : bT ⟨o, i, e, q, 0, 0⟩ [f] = .un o i e q a := by
    show trAt (bF [f] 1 ++ [bX _ [f] 1]) (bF [f] 1).length = _
    rw [e2]
    have hl : (bF [f] 1).length < (bF [f] 1 ++ [Nd.mk o i e q ((fsize a : Int) - 1) 0]).length := by simp
    have en : nth (bF [f] 1 ++ [Nd.mk o i e q ((fsize a : Int) - 1) 0]) (bF [f] 1).length = ⟨o, i, e, q, (fsize a : Int) - 1, 0⟩ := by
      have := nth_appR (bF [f] 1) [Nd.mk o i e q ((fsize a : Int) - 1) 0] (k := 0) (by simp)
      rw [Nat.add_zero] at this; rw [this]; rfl
    rw [trAt_un hw hl (by rw [en]; exact k2) (by rw [en]; exact k3), en]
    show Fm.un o i e q (trAt _ ((fsize a : Int) - 1).toNat) = _
    congr 1
    have hs := trAt_sh (l := bF [f] 1 ++ [Nd.mk o i e q ((fsize a : Int) - 1) 0]) (C := canon a) (s := 0) (canon_wf a k6) (fun j hj => by
      rw [Nat.zero_add, nth_appL _ _ (by rw [l1]; omega), e1, nth_mapN _ _ hj]) (k := fsize a - 1) (by omega)
    rw [show ((fsize a : Int) - 1).toNat = 0 + (fsize a - 1) by omega, hs]
    have := trAt_canon a k6; rwa [hm] at this
  have hB : fB ⟨o, i, e, q, 0, 0⟩ [f] = canon (.un o i e q a) := by
    unfold fB
    rw [ht]
    have c1 : nodeErr (bX ⟨o, i, e, q, 0, 0⟩ [f] [f].length) (bF [f] [f].length).length = 0 := by
      show nodeErr (bX _ [f] 1) (bF [f] 1).length = 0
      rw [e2]; exact hn
    rw [c1]
    simp [h.ok]
    omega
  rw [hB]; exact IsF.mk' hk0 hs
theorem isF_bin {o i e q : Int} (h : IsF f a) (h2 : IsF g b) (hk : fok (.bin o i e q a b)) (hs : fsize (.bin o i e q a b) ≤ 200) (hx : (useOf o).1.x = true) : IsF (fB ⟨o, i, e, q, 0, 0⟩ [f, g]) (.bin o i e q a b) := by
  have hk0 := hk
  obtain ⟨k1, k3, k4, k5, k6, k7⟩ := hk
  have hm : (canon a).length = fsize a := canon_length a
  have hm2 : (canon b).length = fsize b := canon_length b
  have hp := fsize_pos a
  have hp2 := fsize_pos b
  have e1 : bF [f, g] 1 = (canon a).map (shN 0) := by rw [← h.compact]; rfl
  have l1 : (bF [f, g] 1).length = fsize a := by rw [e1]; simp
  have e3 : bF [f, g] 2 = bF [f, g] 1 ++ (canon b).map (shN (fsize a)) := by rw [← h2.compact, ← l1]; rfl
  have l2 : (bF [f, g] 2).length = fsize a + fsize b := by rw [e3]; simp [l1]
  have e2 : bX ⟨o, i, e, q, 0, 0⟩ [f, g] 2 = ⟨o, i, e, q, (fsize a : Int) - 1, (fsize a : Int) + fsize b - 1⟩ := by
    show Nd.mk o i e q (((bF [f, g] 1).length : Int) - 1) (((bF [f, g] 2).length : Int) - 1) = _
    rw [l1, l2]; simp
  have hn : nodeErr ⟨o, i, e, q, (fsize a : Int) - 1, (fsize a : Int) + fsize b - 1⟩ (bF [f, g] 2).length = 0 := by
    refine nodeErr_zero k1 ?_ ?_ k4 k5
    · show opnd (useOf o).1.x ((fsize a : Int) - 1) _ = true
      rw [hx, l2]; simp [opnd]; omega
    · show opnd (useOf o).1.y ((fsize a : Int) + fsize b - 1) _ = true
      rw [k3, l2]; simp [opnd]; omega
  have hw : Wf (bF [f, g] 2 ++ [⟨o, i, e, q, (fsize a : Int) - 1, (fsize a : Int) + fsize b - 1⟩]) := (bF_wf [f, g] 2).snoc hn
  have ht : bT ⟨o, i, e, q, 0, 0⟩ [f, g] = .bin o i e q a b := by
    show trAt (bF [f, g] 2 ++ [bX _ [f, g] 2]) (bF [f, g] 2).length = _
    rw [e2]
    generalize hn' : Nd.mk o i e q ((fsize a : Int) - 1) ((fsize a : Int) + fsize b - 1) = nd at *
    have hl : (bF [f, g] 2).length < (bF [f, g] 2 ++ [nd]).length := by simp
    have en : nth (bF [f, g] 2 ++ [nd]) (bF [f, g] 2).length = nd := by
      have := nth_appR (bF [f, g] 2) [nd] (k := 0) (by simp)
      rw [Nat.add_zero] at this; rw [this]; rfl
    rw [trAt_bin hw hl (by rw [en, ← hn']; exact k3), en, ← hn']
    show Fm.bin o i e q (trAt _ ((fsize a : Int) - 1).toNat) (trAt _ ((fsize a : Int) + fsize b - 1).toNat) = _
    have hs1 := trAt_sh (l := bF [f, g] 2 ++ [Nd.mk o i e q ((fsize a : Int) - 1) ((fsize a : Int) + fsize b - 1)]) (C := canon a) (s := 0) (canon_wf a k6) (fun j hj => by
      rw [Nat.zero_add, nth_appL _ _ (by rw [l2]; omega), e3, nth_appL _ _ (by rw [l1]; omega), e1, nth_mapN _ _ hj]) (k := fsize a - 1) (by omega)
    have hs2 := trAt_sh (l := bF [f, g] 2 ++ [Nd.mk o i e q ((fsize a : Int) - 1) ((fsize a : Int) + fsize b - 1)]) (C := canon b) (s := fsize a) (canon_wf b k7) (fun j hj => by
      have := nth_appR (bF [f, g] 1) ((canon b).map (shN (fsize a))) (k := j) (by simpa using hj)
      rw [l1] at this
      rw [nth_appL _ _ (by rw [l2]; omega), e3, this, nth_mapN _ _ hj]) (k := fsize b - 1) (by omega)
    rw [show ((fsize a : Int) - 1).toNat = 0 + (fsize a - 1) by omega, hs1, show ((fsize a : Int) + fsize b - 1).toNat = fsize a + (fsize b - 1) by omega, hs2]
    have r1 := trAt_canon a k6
    have r2 := trAt_canon b k7
    rw [hm] at r1; rw [hm2] at r2
    rw [r1, r2]
  have hB : fB ⟨o, i, e, q, 0, 0⟩ [f, g] = canon (.bin o i e q a b) := by
    unfold fB
    rw [ht]
    have c1 : nodeErr (bX ⟨o, i, e, q, 0, 0⟩ [f, g] [f, g].length) (bF [f, g] [f, g].length).length = 0 := by
      show nodeErr (bX _ [f, g] 2) (bF [f, g] 2).length = 0
      rw [e2]; exact hn
    rw [c1]
    simp [h.ok, h2.ok]
    omega
  rw [hB]; exact IsF.mk' hk0 hs
/-- A right formula in a right model: whether it has a set, and the set. -/
theorem set_sem {M : Mo} (hM : moCheck M = 0) (h : IsF f a) : (reqErr M f == 0) = (semT M a).2 ∧ holdsOf M f = (semT M a).1 := by
  obtain ⟨n, ok⟩ := moCheck_ok hM
  have e := semT_fits M ok.rel ok.val a h.fk
  have hr : (reqErr M f == 0) = (semT M a).2 := by
    rw [e]
    unfold reqErr fFits fFrags fAgents fFacts
    rw [h.compact, h.ok, hM]
    by_cases h1 : unionL fragN (canon a) < 16
    · have h1' : ¬ 16 ≤ unionL fragN (canon a) := by omega
      cases h2 : below (unionL agentN (canon a)) M.rel.length <;> cases h3 : below (unionL factN (canon a)) M.val.length <;> simp [h1, h1']
    · have h1' : 16 ≤ unionL fragN (canon a) := by omega
      simp [h1, h1']
  refine ⟨hr, ?_⟩
  unfold holdsOf
  by_cases hq : reqErr M f = 0
  · rw [if_pos hq]; unfold lastSet; rw [← h.tree]; rfl
  · rw [if_neg hq, semT_false M a (by rw [← hr]; simp [hq])]
theorem semT_un {M : Mo} (o i e q : Int) (h : (semT M a).2 = true) : semT M (.un o i e q a) = valN M o i q (semT M a).1 0#64 := by simp [semT, h]
theorem semT_bin {M : Mo} (o i e q : Int) (h : (semT M a).2 = true) (h2 : (semT M b).2 = true) : semT M (.bin o i e q a b) = valN M o i q (semT M a).1 (semT M b).1 := by simp [semT, h, h2]
theorem fok_not (h : fok a) : fok (.un 4 0 0 0 a) := ⟨rfl, rfl, rfl, rfl, rfl, h⟩
theorem fok_know (k : Nat) (hk : k < 4) (h : fok a) : fok (.un 9 k 0 0 a) := ⟨rfl, rfl, rfl, by simp [needless, useOf], by simp [wide, useOf, outs]; omega, h⟩
theorem fok_poss (k : Nat) (hk : k < 4) (h : fok a) : fok (.un 10 k 0 0 a) := ⟨rfl, rfl, rfl, by simp [needless, useOf], by simp [wide, useOf, outs]; omega, h⟩
theorem fok_every (k : Int) (hk : 1 ≤ k ∧ k ≤ 15) (h : fok a) : fok (.un 11 0 0 k a) := ⟨rfl, rfl, rfl, by simp [needless, useOf], by simp [wide, useOf, outs]; omega, h⟩
theorem fok_dist (k : Int) (hk : 1 ≤ k ∧ k ≤ 15) (h : fok a) : fok (.un 12 0 0 k a) := ⟨rfl, rfl, rfl, by simp [needless, useOf], by simp [wide, useOf, outs]; omega, h⟩
theorem fok_common (k : Int) (hk : 1 ≤ k ∧ k ≤ 15) (h : fok a) (h2 : fok b) : fok (.bin 13 0 0 k a b) := ⟨rfl, rfl, by simp [needless, useOf], by simp [wide, useOf, outs]; omega, h, h2⟩
theorem fok_and (h : fok a) (h2 : fok b) : fok (.bin 5 0 0 0 a b) := ⟨rfl, rfl, rfl, rfl, h, h2⟩
theorem fok_or (h : fok a) (h2 : fok b) : fok (.bin 6 0 0 0 a b) := ⟨rfl, rfl, rfl, rfl, h, h2⟩
theorem fok_imp (h : fok a) (h2 : fok b) : fok (.bin 7 0 0 0 a b) := ⟨rfl, rfl, rfl, rfl, h, h2⟩
theorem fok_iff (h : fok a) (h2 : fok b) : fok (.bin 8 0 0 0 a b) := ⟨rfl, rfl, rfl, rfl, h, h2⟩
end
theorem p2_small {R : Nat} (h1 : 1 ≤ R) (h4 : R ≤ 4) : 2 ≤ p2 R ∧ p2 R ≤ 16 := by
  have : R = 1 ∨ R = 2 ∨ R = 3 ∨ R = 4 := by omega
  rcases this with rfl | rfl | rfl | rfl <;> decide
theorem p2_sh {R : Nat} (h4 : R ≤ 4) : wrap64 ((2 : Int) ^ R) = p2 R := by
  have : R = 0 ∨ R = 1 ∨ R = 2 ∨ R = 3 ∨ R = 4 := by omega
  rcases this with rfl | rfl | rfl | rfl | rfl <;> (rw [← IntWalk.i64_left]; decide +kernel)
theorem full_group {R : Nat} (h1 : 1 ≤ R) (h4 : R ≤ 4) : ∃ G : Nat, (1 ≤ G ∧ G ≤ 15) ∧ (G : Int) < p2 R ∧ (∀ q, q < R → G.testBit q = true) ∧ p2 R - 1 = (G : Int) := by
  have : R = 1 ∨ R = 2 ∨ R = 3 ∨ R = 4 := by omega
  rcases this with rfl | rfl | rfl | rfl
  · exact ⟨1, by decide, by decide, by decide, by decide⟩
  · exact ⟨3, by decide, by decide, by decide, by decide⟩
  · exact ⟨7, by decide, by decide, by decide, by decide⟩
  · exact ⟨15, by decide, by decide, by decide, by decide⟩
theorem last_group {R : Nat} (h1 : 1 ≤ R) (h4 : R ≤ 4) : ∃ G : Nat, (1 ≤ G ∧ G ≤ 15) ∧ (G : Int) < p2 R ∧ (∀ q, q < R → G.testBit q = decide (q + 1 = R)) ∧ p2 (R - 1) = (G : Int) := by
  have : R = 1 ∨ R = 2 ∨ R = 3 ∨ R = 4 := by omega
  rcases this with rfl | rfl | rfl | rfl
  · exact ⟨1, by decide, by decide, by decide, by decide⟩
  · exact ⟨2, by decide, by decide, by decide, by decide⟩
  · exact ⟨4, by decide, by decide, by decide, by decide⟩
  · exact ⟨8, by decide, by decide, by decide, by decide⟩
theorem nth_mem {α : Type} [Inhabited α] {l : List α} {k : Nat} (h : k < l.length) : nth l k ∈ l := by rw [nth_eq _ _ h]; exact List.getElem_mem h
theorem nth_or {α : Type} [Inhabited α] (l : List α) (k : Nat) : nth l k ∈ l ∨ nth l k = default := by
  by_cases h : k < l.length
  · exact .inl (nth_mem h)
  · right; unfold nth; simp [List.getD, h]
theorem Sub.and1 {s t u : BitVec 64} (h : Sub s u) : Sub (s &&& t) u := fun k hk hb => by
  rw [bt_and, Bool.and_eq_true] at hb; exact h k hk hb.1
theorem box_in {r : List (BitVec 64)} {s : BitVec 64} {N : Nat} (h : r.length ≤ N) : Sub (relBox r s) (allW N) := fun k hk hb => by
  rw [bt_relBox r s k hk] at hb
  simp only [Bool.and_eq_true, decide_eq_true_eq] at hb
  rw [bt_allW]; simp; omega
theorem zero_in (s : BitVec 64) : Sub 0#64 s := fun k hk hb => by simp [bt_zero] at hb
theorem cmn_in {r : List (BitVec 64)} {N : Nat} (h : r.length ≤ N) (c s : BitVec 64) : Sub (cmn r N c s) (allW N) := by
  unfold cmn
  have hI : ∀ k, Sub (cmnI r N c s k) (allW N) := by
    intro k
    cases k with
    | zero => exact Sub.refl _
    | succ k => exact box_in h
  exact hI N
theorem semT_in {M : Mo} {N : Nat} (ok : MoOk M N) : ∀ t, Sub (semT M t).1 (allW N) := by
  have hN : M.worlds.toNat = N := by rw [ok.worlds]; exact Int.toNat_natCast N
  have hv : ∀ o i g x y, Sub x (allW N) → Sub y (allW N) → Sub (valN M o i g x y).1 (allW N) := by
    intro o i g x y hx hy
    have I : ∀ {c : Prop} [Decidable c] {a b : BitVec 64 × Bool}, (c → Sub a.1 (allW N)) → (¬c → Sub b.1 (allW N)) → Sub (if c then a else b).1 (allW N) := by
      intro c _ a b ha hb
      by_cases hc : c
      · rw [if_pos hc]; exact ha hc
      · rw [if_neg hc]; exact hb hc
    have hg : (groupOf M g).length ≤ N := gather_le _ M g ok
    have hg2 : (meetOf M g).length ≤ N := gather_le _ M g ok
    have hrl : (nth M.rel i.toNat).length ≤ N := by
      rcases nth_or M.rel i.toNat with h2 | h2
      · rw [ok.row _ h2]; exact Nat.le_refl _
      · rw [h2]; exact Nat.zero_le _
    have Z : Sub ((0#64, false) : BitVec 64 × Bool).1 (allW N) := zero_in _
    have A : Sub (allW M.worlds.toNat) (allW N) := by rw [hN]; exact Sub.refl _
    unfold valN
    refine I (fun _ => A) fun _ => I (fun _ => zero_in _) fun _ => I (fun _ => I (fun _ => Z) fun h => ?_) fun _ => I (fun _ => A.and1) fun _ => I (fun _ => hx.and1) fun _ => I (fun _ => hx.or hy) fun _ => I (fun _ => A.and1.or hy) fun _ => I (fun _ => A.and1) fun _ => I (fun _ => I (fun _ => Z) fun h => ?_) fun _ => I (fun _ => I (fun _ => Z) fun h => ?_) fun _ => I (fun _ => I (fun _ => Z) fun h => box_in hg) fun _ => I (fun _ => I (fun _ => Z) fun h => box_in hg2) fun _ => I (fun _ => I (fun _ => Z) fun h => ?_) fun _ => Z
    · show Sub (nth M.val i.toNat) _
      rcases nth_or M.val i.toNat with h2 | h2
      · exact andNot_zero.1 (ok.valIn _ h2)
      · rw [h2]; exact zero_in _
    · exact box_in hrl
    · show Sub (relDia _ _) _
      unfold relDia
      split
      · exact Sub.and1 (fun k hk hb => by rw [bt_allW] at hb ⊢; simp at hb ⊢; omega)
      · exact zero_in _
    · show Sub (cmn _ _ _ _) _
      rw [hN]; exact cmn_in hg _ _
  intro t
  induction t with
  | leaf o i e g => exact hv _ _ _ _ _ (zero_in _) (zero_in _)
  | un o i e g x ih =>
    unfold semT
    split
    · exact hv _ _ _ _ _ ih (zero_in _)
    · exact zero_in _
  | bin o i e g x y ih1 ih2 =>
    unfold semT
    split
    · exact hv _ _ _ _ _ ih1 ih2
    · exact zero_in _
end Wt

/- Plain laws: what the laws of the checker compute by their own rounds is what the checker answers. -/
namespace Wt
open Go Go.RowKit Go.Proofs Fm

/-- Is p true of all numbers below? -/
def allQ (p : Nat → Bool) : Nat → Bool
  | 0 => true
  | q + 1 => allQ p q && p q
theorem allQ_iff (p : Nat → Bool) : ∀ n, allQ p n = true ↔ ∀ q, q < n → p q = true
  | 0 => by simp [allQ]
  | n + 1 => by
    rw [allQ, Bool.and_eq_true, allQ_iff p n]
    constructor
    · rintro ⟨h1, h2⟩ q hq
      rcases Nat.lt_or_ge q n with h | h
      · exact h1 q h
      · obtain rfl : q = n := by omega
        exact h2
    · exact fun h => ⟨fun q hq => h q (by omega), h n (by omega)⟩
theorem sub_or_iff {a b z : BitVec 64} : Sub (a ||| b) z ↔ Sub a z ∧ Sub b z :=
  ⟨fun h => ⟨(Sub.orL a b).trans h, (Sub.orR a b).trans h⟩, fun h => h.1.or h.2⟩
theorem sub_bool (a z : BitVec 64) : (a &&& ~~~ z == 0#64) = true ↔ Sub a z := by rw [beq_iff_eq]; exact andNot_zero
theorem or_sub (a b z : BitVec 64) : ((a ||| b) &&& ~~~ z == 0#64) = ((a &&& ~~~ z == 0#64) && (b &&& ~~~ z == 0#64)) := by
  rw [Bool.eq_iff_iff, Bool.and_eq_true, sub_bool, sub_bool, sub_bool]; exact sub_or_iff
theorem gRow_all (R : List (List (BitVec 64))) (G k N : Nat) (Z : BitVec 64) : ∀ q, (gRow (jOf false) (zOf false N) R G k q &&& ~~~ Z == 0#64) = allQ (fun q => !G.testBit q || (nth (nth R q) k &&& ~~~ Z == 0#64)) q
  | 0 => by simp [gRow, zOf, allQ]
  | q + 1 => by
    have ih := gRow_all R G k N Z q
    rw [allQ, ← ih]
    cases hb : G.testBit q
    · rw [gRow_no hb]; simp
    · rw [gRow_yes hb]
      show ((_ ||| _) &&& _ == _) = _
      rw [or_sub]; simp
section
variable {M : Mo} {N : Nat} (ok : MoOk M N)
include ok
theorem group_row {G : Nat} (h1 : 1 ≤ G) (h2 : (G : Int) < p2 M.rel.length) {k : Nat} (hk : k < N) : nth (groupOf M G) k = gRow (jOf false) (zOf false N) M.rel G k M.rel.length := by
  show nth (gather (jOf false) M G) k = _
  rw [gather_rows false M G N ok h1 h2, gRows, nth_eq _ _ (by simpa using hk)]
  simp
theorem meet_row {G : Nat} (h1 : 1 ≤ G) (h2 : (G : Int) < p2 M.rel.length) {k : Nat} (hk : k < N) : nth (meetOf M G) k = gRow (jOf true) (zOf true N) M.rel G k M.rel.length := by
  show nth (gather (jOf true) M G) k = _
  rw [gather_rows true M G N ok h1 h2, gRows, nth_eq _ _ (by simpa using hk)]
  simp
theorem bt_group {G : Nat} (h1 : 1 ≤ G) (h2 : (G : Int) < p2 M.rel.length) (Z : BitVec 64) {k : Nat} (hk : k < 64) :
    bt (relBox (groupOf M G) Z) k = (decide (k < N) && allQ (fun q => !G.testBit q || (nth (nth M.rel q) k &&& ~~~ Z == 0#64)) M.rel.length) := by
  obtain ⟨hl, hrow⟩ := group_in ok h1 h2
  rw [bt_relBox _ _ _ hk, hl, rel_ok hl ok.most hrow]
  by_cases hn : k < N
  · rw [group_row ok h1 h2 hn, gRow_all]; simp [hn]
  · simp [hn]
theorem bt_agent {q : Nat} (hq : q < M.rel.length) (Z : BitVec 64) {k : Nat} (hk : k < 64) : bt (relBox (nth M.rel q) Z) k = (decide (k < N) && (nth (nth M.rel q) k &&& ~~~ Z == 0#64)) := by
  obtain ⟨hl, hrow⟩ := row_in ok hq
  rw [bt_relBox _ _ _ hk, hl, rel_ok hl ok.most hrow]; simp
end

/-! The greatest fixed point. -/
def insK (M : Mo) (x y s : BitVec 64) (w : Nat) : Nat → Bool := allQ fun q => (nth (nth M.rel q) w &&& x) &&& ~~~ (y &&& s) == 0#64
def nextK (M : Mo) (x y s : BitVec 64) : Nat → BitVec 64
  | 0 => 0#64
  | w + 1 => if insK M x y s w M.rel.length then nextK M x y s w ||| 1#64 <<< w else nextK M x y s w
def fxS (M : Mo) (N : Nat) (x y : BitVec 64) : Nat → BitVec 64
  | 0 => allW N
  | k + 1 => fxS M N x y k &&& nextK M x y (fxS M N x y k) N
theorem bt_nextK (M : Mo) (x y s : BitVec 64) {k : Nat} (hk : k < 64) : ∀ m, bt (nextK M x y s m) k = (decide (k < m) && insK M x y s k M.rel.length)
  | 0 => by simp [nextK, bt_zero]
  | m + 1 => by
    have ih := bt_nextK M x y s hk m
    unfold nextK
    by_cases h : k = m
    · subst h
      cases hi : insK M x y s k M.rel.length
      · rw [if_neg (by simp), ih]; simp
      · rw [if_pos rfl, bt_or, ih, bt_shl1]; simp [hk]
    · cases hi : insK M x y s m M.rel.length
      · rw [if_neg (by simp), ih]
        congr 1; simp; omega
      · rw [if_pos rfl, bt_or, ih, bt_shl1]
        have : (decide (k < m + 1)) = decide (k < m) := by simp; omega
        rw [this]; simp [h]
theorem and_sub {s t : BitVec 64} (h : Sub t s) : s &&& t = t := bt_ext fun k hk => by
  have := h k hk
  rw [bt_and]
  cases h1 : bt t k <;> simp_all
theorem row_cond {r x y s : BitVec 64} {N : Nat} (h : Sub r (allW N)) : ((r &&& x) &&& ~~~ (y &&& s) == 0#64) = (r &&& ~~~ ((allW N &&& ~~~ x) ||| (y &&& s)) == 0#64) := by
  rw [Bool.eq_iff_iff, sub_bool, sub_bool]
  constructor
  · intro h2 k hk hb
    rw [bt_or, bt_and, bt_not, h k hk hb]
    have := h2 k hk
    rw [bt_and, hb] at this
    cases hx : bt x k
    · simp [hk]
    · rw [this (by simp [hx])]; simp
  · intro h2 k hk hb
    rw [bt_and, Bool.and_eq_true] at hb
    have := h2 k hk hb.1
    rw [bt_or, bt_and, bt_not, hb.2] at this
    simpa using this
theorem fxS_cmn {M : Mo} {N : Nat} (ok : MoOk M N) {G : Nat} (h1 : 1 ≤ G) (h2 : (G : Int) < p2 M.rel.length) (hG : ∀ q, q < M.rel.length → G.testBit q = true) (x y : BitVec 64) : ∀ k, fxS M N x y k = cmnI (groupOf M G) N x y k
  | 0 => rfl
  | k + 1 => by
    have ih := fxS_cmn ok h1 h2 hG x y k
    have hst := cmnI_step (groupOf M G) N (gather_le _ M G ok) x y k
    have e : nextK M x y (fxS M N x y k) N = cmnI (groupOf M G) N x y (k + 1) := by
      apply bt_ext
      intro w hw
      show _ = bt (relBox (groupOf M G) ((allW N &&& ~~~ x) ||| (y &&& cmnI (groupOf M G) N x y k))) w
      rw [bt_nextK M x y _ hw, bt_group ok h1 h2 _ hw, ih]
      by_cases hn : w < N
      · congr 1
        rw [Bool.eq_iff_iff]
        unfold insK
        rw [allQ_iff, allQ_iff]
        constructor
        · intro h q hq
          rw [hG q hq, ← row_cond ((row_in ok hq).2 w hn)]
          simpa using h q hq
        · intro h q hq
          have := h q hq
          rw [hG q hq, ← row_cond ((row_in ok hq).2 w hn)] at this
          simpa using this
      · simp [hn]
    show fxS M N x y k &&& nextK M x y (fxS M N x y k) N = _
    rw [e, ih]
    exact and_sub hst
theorem fix_law {M : Mo} {N : Nat} (ok : MoOk M N) {G : Nat} (h1 : 1 ≤ G) (h2 : (G : Int) < p2 M.rel.length) (hG : ∀ q, q < M.rel.length → G.testBit q = true) (x y : BitVec 64) : cmn (groupOf M G) N x y = fxS M N x y (N + 1) := by
  rw [fxS_cmn ok h1 h2 hG]; exact (cmnI_fix (groupOf M G) N (gather_le _ M G ok) x y).symm

/-! Duals: what everybody knows, and distributed knowledge. -/
def wantK (M : Mo) (G N : Nat) (s : BitVec 64) : Nat → BitVec 64
  | 0 => allW N
  | q + 1 => if G.testBit q then wantK M G N s q &&& relBox (nth M.rel q) s else wantK M G N s q
def someK (M : Mo) (G : Nat) (s : BitVec 64) : Nat → BitVec 64
  | 0 => 0#64
  | q + 1 => if G.testBit q then someK M G s q ||| relBox (nth M.rel q) s else someK M G s q
theorem bt_wantK {M : Mo} {N : Nat} (ok : MoOk M N) (G : Nat) (s : BitVec 64) {k : Nat} (hk : k < 64) : ∀ q, q ≤ M.rel.length → bt (wantK M G N s q) k = (decide (k < N) && allQ (fun q => !G.testBit q || (nth (nth M.rel q) k &&& ~~~ s == 0#64)) q)
  | 0, _ => by simp [wantK, allQ, bt_allW, hk]
  | q + 1, hq => by
    have ih := bt_wantK ok G s hk q (by omega)
    unfold wantK
    rw [allQ]
    cases hb : G.testBit q
    · rw [if_neg (by simp), ih]; simp
    · rw [if_pos rfl, bt_and, ih, bt_agent ok (by omega) s hk]
      cases decide (k < N) <;> simp
theorem every_law {M : Mo} {N : Nat} (ok : MoOk M N) {G : Nat} (h1 : 1 ≤ G) (h2 : (G : Int) < p2 M.rel.length) (s : BitVec 64) : relBox (groupOf M G) s = wantK M G N s M.rel.length :=
  bt_ext fun k hk => by rw [bt_group ok h1 h2 s hk, bt_wantK ok G s hk _ (Nat.le_refl _)]
theorem someK_in {M : Mo} {N : Nat} (ok : MoOk M N) (G : Nat) (s : BitVec 64) {k : Nat} (hk : k < 64) : ∀ q, q ≤ M.rel.length → bt (someK M G s q) k = true → k < N ∧ Sub (gRow (jOf true) (zOf true N) M.rel G k q) s
  | 0, _, h => by simp [someK, bt_zero] at h
  | q + 1, hq, h => by
    unfold someK at h
    cases hb : G.testBit q
    · rw [hb, if_neg (by simp)] at h
      rw [gRow_no hb]; exact someK_in ok G s hk q (by omega) h
    · rw [hb, if_pos rfl, bt_or, Bool.or_eq_true] at h
      rw [gRow_yes hb]
      show k < N ∧ Sub (_ &&& _) s
      rcases h with h | h
      · obtain ⟨h3, h4⟩ := someK_in ok G s hk q (by omega) h
        exact ⟨h3, h4.and1⟩
      · rw [bt_agent ok (by omega) s hk, Bool.and_eq_true, sub_bool] at h
        refine ⟨by simpa using h.1, ?_⟩
        rw [BitVec.and_comm]; exact h.2.and1
theorem dist_law {M : Mo} {N : Nat} (ok : MoOk M N) {G : Nat} (h1 : 1 ≤ G) (h2 : (G : Int) < p2 M.rel.length) (s : BitVec 64) : (someK M G s M.rel.length &&& ~~~ relBox (meetOf M G) s == 0#64) = true := by
  rw [sub_bool]
  intro k hk hb
  obtain ⟨h3, h4⟩ := someK_in ok G s hk _ (Nat.le_refl _) hb
  obtain ⟨hl, hrow⟩ := meet_in ok h1 h2
  rw [bt_relBox _ _ _ hk, hl, rel_ok hl ok.most hrow, meet_row ok h1 h2 h3]
  simp only [decide_true, Bool.true_and, Bool.and_eq_true, decide_eq_true_eq]
  exact ⟨h3, (sub_bool _ _).2 h4⟩
theorem dual_law {M : Mo} {N : Nat} (ok : MoOk M N) {q : Nat} (hq : q < M.rel.length) (s : BitVec 64) : allW N &&& ~~~ relBox (nth M.rel q) (allW N &&& ~~~ s) = relDia (nth M.rel q) s := by
  obtain ⟨hl, hrow⟩ := row_in ok hq
  have h0 := rel_ok hl ok.most hrow
  rw [← boxTo_rel hl h0]; exact boxTo_dia hl h0 hrow

/-! Paths of bounded length. -/
def nxP (r : List (BitVec 64)) (x e : BitVec 64) : Nat → BitVec 64
  | 0 => 0#64
  | v + 1 => if bt e v then nxP r x e v ||| (nth r v &&& x) else nxP r x e v
def endP (r : List (BitVec 64)) (x : BitVec 64) (N : Nat) (e : BitVec 64) : Nat → BitVec 64
  | 0 => e
  | k + 1 => nxP r x (endP r x N e k) N
def badP (r : List (BitVec 64)) (x y : BitVec 64) (N : Nat) (e : BitVec 64) : Nat → Bool
  | 0 => false
  | k + 1 => badP r x y N e k || (endP r x N e (k + 1) &&& ~~~ y != 0#64)
theorem bt_nxP (r : List (BitVec 64)) (x e : BitVec 64) {k : Nat} : ∀ m, bt (nxP r x e m) k = true ↔ ∃ v, v < m ∧ bt e v = true ∧ bt (nth r v &&& x) k = true
  | 0 => by simp [nxP, bt_zero]
  | m + 1 => by
    have ih := bt_nxP r x e (k := k) m
    unfold nxP
    cases hm : bt e m
    · rw [if_neg (by simp), ih]
      constructor
      · rintro ⟨v, h1, h2⟩; exact ⟨v, by omega, h2⟩
      · rintro ⟨v, h1, h2, h3⟩
        rcases Nat.lt_or_ge v m with h | h
        · exact ⟨v, h, h2, h3⟩
        · obtain rfl : v = m := by omega
          rw [hm] at h2; cases h2
    · rw [if_pos rfl, bt_or, Bool.or_eq_true, ih]
      constructor
      · rintro (⟨v, h1, h2⟩ | h)
        · exact ⟨v, by omega, h2⟩
        · exact ⟨m, by omega, hm, h⟩
      · rintro ⟨v, h1, h2, h3⟩
        rcases Nat.lt_or_ge v m with h | h
        · exact .inl ⟨v, h, h2, h3⟩
        · obtain rfl : v = m := by omega
          exact .inr h3
theorem endP_shift (r : List (BitVec 64)) (x : BitVec 64) (N : Nat) (e : BitVec 64) : ∀ k, endP r x N e (k + 1) = endP r x N (nxP r x e N) k
  | 0 => rfl
  | k + 1 => by
    show nxP r x (endP r x N e (k + 1)) N = nxP r x (endP r x N (nxP r x e N) k) N
    rw [endP_shift r x N e k]
theorem badP_shift (r : List (BitVec 64)) (x y : BitVec 64) (N : Nat) (e : BitVec 64) : ∀ k, badP r x y N e (k + 1) = ((nxP r x e N &&& ~~~ y != 0#64) || badP r x y N (nxP r x e N) k)
  | 0 => by
    show (false || (nxP r x e N &&& ~~~ y != 0#64)) = ((nxP r x e N &&& ~~~ y != 0#64) || false)
    simp
  | k + 1 => by
    show (badP r x y N e (k + 1) || (endP r x N e (k + 2) &&& ~~~ y != 0#64)) = ((nxP r x e N &&& ~~~ y != 0#64) || (badP r x y N (nxP r x e N) k || (endP r x N (nxP r x e N) (k + 1) &&& ~~~ y != 0#64)))
    rw [badP_shift r x y N e k, endP_shift r x N e (k + 1), Bool.or_assoc]
theorem bt_lt64 {s : BitVec 64} {k : Nat} (h : bt s k = true) : k < 64 := by
  rcases Nat.lt_or_ge k 64 with h2 | h2
  · exact h2
  · rw [show bt s k = false from BitVec.getLsbD_of_ge s k h2] at h; cases h
theorem path_main {r : List (BitVec 64)} {N : Nat} (hr : r.length = N) (hn : N ≤ 64) (hrow : ∀ v, v < N → Sub (nth r v) (allW N)) (x y : BitVec 64) : ∀ k e, Sub e (allW N) → (badP r x y N e k = false ↔ ∀ v, v < N → bt e v = true → bt (cmnI r N x y k) v = true)
  | 0, e, he => by
    constructor
    · intro _ v hv _
      show bt (allW N) v = true
      rw [bt_allW]; simp; omega
    · intro _; rfl
  | k + 1, e, he => by
    have hnx : Sub (nxP r x e N) (allW N) := fun u hu hb => by
      obtain ⟨v, h1, _, h3⟩ := (bt_nxP r x e N).1 hb
      rw [bt_and, Bool.and_eq_true] at h3
      exact hrow v h1 u hu h3.1
    have ih := path_main hr hn hrow x y k (nxP r x e N) hnx
    have hok := rel_ok hr hn hrow
    have step : ∀ v, v < N → (bt (cmnI r N x y (k + 1)) v = true ↔ Sub (nth r v &&& x) (y &&& cmnI r N x y k)) := by
      intro v hv
      show bt (relBox r ((allW N &&& ~~~ x) ||| (y &&& cmnI r N x y k))) v = true ↔ _
      rw [bt_relBox _ _ _ (by omega), hr, hok, ← row_cond (hrow v hv), ← sub_bool]
      simp [hv]
    rw [badP_shift, Bool.or_eq_false_iff, ih, bne_eq_false_iff_eq, andNot_zero]
    constructor
    · rintro ⟨h1, h2⟩ v hv hb
      rw [step v hv]
      intro u hu hbu
      have hn2 : bt (nxP r x e N) u = true := (bt_nxP r x e N).2 ⟨v, hv, hb, hbu⟩
      have huN : u < N := by
        have := hnx u hu hn2
        rw [bt_allW] at this; simp at this; exact this.2
      rw [bt_and, h1 u hu hn2, h2 u huN hn2]; rfl
    · intro h
      have key : ∀ u, u < 64 → bt (nxP r x e N) u = true → bt (y &&& cmnI r N x y k) u = true := by
        intro u hu hb
        obtain ⟨v, h1, h2, h3⟩ := (bt_nxP r x e N).1 hb
        exact (step v h1).1 (h v h1 h2) u hu h3
      constructor
      · intro u hu hb
        have := key u hu hb
        rw [bt_and, Bool.and_eq_true] at this; exact this.1
      · intro u hu hb
        have := key u (by omega) hb
        rw [bt_and, Bool.and_eq_true] at this; exact this.2
theorem path_law {r : List (BitVec 64)} {N : Nat} (hr : r.length = N) (hn : N ≤ 64) (hrow : ∀ v, v < N → Sub (nth r v) (allW N)) (x y : BitVec 64) {w : Nat} (hw : w < N) : badP r x y N (1#64 <<< w) N = !bt (cmn r N x y) w := by
  have h := path_main hr hn hrow x y N (1#64 <<< w) (fun u hu hb => by
    rw [bt_shl1] at hb; rw [bt_allW]; simp at hb ⊢; omega)
  have e : (∀ v, v < N → bt (1#64 <<< w) v = true → bt (cmnI r N x y N) v = true) ↔ bt (cmn r N x y) w = true := by
    constructor
    · intro h2
      exact h2 w hw (by rw [bt_shl1]; simp; omega)
    · intro h2 v hv hb
      rw [bt_shl1] at hb
      simp at hb
      rw [hb.2]; exact h2
  rw [e] at h
  cases hb : badP r x y N (1#64 <<< w) N
  · rw [h.1 hb]; rfl
  · cases hc : bt (cmn r N x y) w
    · rfl
    · rw [h.2 hc] at hb; cases hb
end Wt

/- Plain laws: a model of some worlds of a model, closed under all relations, has the same sets at them. -/
namespace Wt
open Go Go.RowKit Go.Proofs Fm

/-- The model whose world i is the world of a list at this place. -/
def arrM (M : Mo) (ws : List Nat) : Mo := ⟨ws.length, M.val.map (fun s => pullL s ws), M.rel.map fun r => ws.map fun w => pullL (nth r w) ws⟩
/-- A relation of a model, at the worlds of a list, that leads to worlds of the list alone. -/
structure Arr (r r' : List (BitVec 64)) (N : Nat) (ws : List Nat) : Prop where
  len : r.length = N
  len' : r'.length = ws.length
  row : ∀ i, i < ws.length → nth r' i = pullL (nth r (nth ws i)) ws
  inN : ∀ v, v < N → Sub (nth r v) (allW N)
  cl : ∀ i, i < ws.length → ∀ u, bt (nth r (nth ws i)) u = true → ∃ j, j < ws.length ∧ nth ws j = u
/-- The sets agree at the worlds of the list. -/
def Agr (ws : List Nat) (x' x : BitVec 64) : Prop := ∀ i, i < ws.length → bt x' i = bt x (nth ws i)
section
variable {N : Nat} {ws : List Nat} (h64 : N ≤ 64) (hl : ws.length ≤ 64) (hlt : ∀ i, i < ws.length → nth ws i < N)
theorem pull_in (s : BitVec 64) (hl : ws.length ≤ 64) : Sub (pullL s ws) (allW ws.length) := fun k hk hb => by
  rw [bt_pullL s ws hl, Bool.and_eq_true] at hb
  rw [bt_allW]; simp at hb ⊢; exact ⟨hk, hb.1⟩
include hl in
theorem pull_agr (s : BitVec 64) : Agr ws (pullL s ws) s := fun i hi => by rw [bt_pullL s ws hl]; simp [hi]
include h64 hl hlt in
theorem all_agr : Agr ws (allW ws.length) (allW N) := fun i hi => by
  have := hlt i hi
  rw [bt_allW, bt_allW]
  have h1 : i < 64 := by omega
  have h2 : nth ws i < 64 := by omega
  simp [hi, h1, h2, this]
include h64 hl hlt in
theorem not_agr {x' x : BitVec 64} (h : Agr ws x' x) : Agr ws (allW ws.length &&& ~~~ x') (allW N &&& ~~~ x) := fun i hi => by
  have h1 : i < 64 := by omega
  have h2 : nth ws i < 64 := by have := hlt i hi; omega
  rw [bt_and, bt_and, bt_not, bt_not, all_agr h64 hl hlt i hi, h i hi]
  simp [h1, h2]
theorem and_agr {x' x y' y : BitVec 64} (h : Agr ws x' x) (h2 : Agr ws y' y) : Agr ws (x' &&& y') (x &&& y) := fun i hi => by rw [bt_and, bt_and, h i hi, h2 i hi]
theorem or_agr {x' x y' y : BitVec 64} (h : Agr ws x' x) (h2 : Agr ws y' y) : Agr ws (x' ||| y') (x ||| y) := fun i hi => by rw [bt_or, bt_or, h i hi, h2 i hi]
theorem xor_agr {x' x y' y : BitVec 64} (h : Agr ws x' x) (h2 : Agr ws y' y) : Agr ws (x' ^^^ y') (x ^^^ y) := fun i hi => by rw [bt_xor, bt_xor, h i hi, h2 i hi]
include h64 hl hlt in
theorem box_agr {r r' : List (BitVec 64)} (hA : Arr r r' N ws) {x' x : BitVec 64} (h : Agr ws x' x) : Agr ws (relBox r' x') (relBox r x) := fun i hi => by
  have hi64 : i < 64 := by omega
  have hwi := hlt i hi
  have hrow' : ∀ v, v < ws.length → Sub (nth r' v) (allW ws.length) := fun v hv => by rw [hA.row v hv]; exact pull_in _ hl
  rw [bt_relBox _ _ _ hi64, bt_relBox _ _ _ (by omega), hA.len, hA.len', rel_ok hA.len h64 hA.inN, rel_ok hA.len' hl hrow', hA.row i hi]
  have e : (pullL (nth r (nth ws i)) ws &&& ~~~ x' == 0#64) = (nth r (nth ws i) &&& ~~~ x == 0#64) := by
    rw [Bool.eq_iff_iff, sub_bool, sub_bool]
    constructor
    · intro h2 u hu hb
      obtain ⟨j, hj, rfl⟩ := hA.cl i hi u hb
      have h3 := h2 j (by omega) (by rw [bt_pullL _ _ hl]; simp [hj, hb])
      rw [h j hj] at h3; exact h3
    · intro h2 j hj hb
      rw [bt_pullL _ _ hl, Bool.and_eq_true, decide_eq_true_eq] at hb
      rw [h j hb.1]
      exact h2 _ (by have := hlt j hb.1; omega) hb.2
  rw [e]; simp [hi, hwi]
include h64 hl hlt in
theorem cmnI_agr {r r' : List (BitVec 64)} (hA : Arr r r' N ws) {c' c s' s : BitVec 64} (hc : Agr ws c' c) (hs : Agr ws s' s) : ∀ k, Agr ws (cmnI r' ws.length c' s' k) (cmnI r N c s k)
  | 0 => all_agr h64 hl hlt
  | k + 1 => box_agr h64 hl hlt hA (or_agr (not_agr h64 hl hlt hc) (and_agr hs (cmnI_agr hA hc hs k)))
include h64 hl hlt in
theorem cmn_agr (hN : ws.length ≤ N) {r r' : List (BitVec 64)} (hA : Arr r r' N ws) {c' c s' s : BitVec 64} (hc : Agr ws c' c) (hs : Agr ws s' s) : Agr ws (cmn r' ws.length c' s') (cmn r N c s) := by
  have hfix := cmnI_fix r' ws.length (by rw [hA.len']; exact Nat.le_refl _) c' s'
  have hk := cmnI_const r' ws.length c' s' ws.length hfix (N - ws.length)
  rw [show ws.length + (N - ws.length) = N by omega] at hk
  unfold cmn
  rw [← hk]
  exact cmnI_agr h64 hl hlt hA hc hs N
end
theorem nth_out {α : Type} [Inhabited α] {l : List α} {k : Nat} (h : l.length ≤ k) : nth l k = default := by unfold nth; simp [List.getD, h]
theorem pull_or (a b : BitVec 64) (ws : List Nat) (hl : ws.length ≤ 64) : pullL (a ||| b) ws = pullL a ws ||| pullL b ws := bt_ext fun k hk => by
  rw [bt_or, bt_pullL _ _ hl, bt_pullL _ _ hl, bt_pullL _ _ hl, bt_or]; cases decide (k < ws.length) <;> simp
theorem pull_and (a b : BitVec 64) (ws : List Nat) (hl : ws.length ≤ 64) : pullL (a &&& b) ws = pullL a ws &&& pullL b ws := bt_ext fun k hk => by
  rw [bt_and, bt_pullL _ _ hl, bt_pullL _ _ hl, bt_pullL _ _ hl, bt_and]; cases decide (k < ws.length) <;> simp
/-- Some worlds of a model, closed under all relations. -/
structure Subm (M : Mo) (N : Nat) (ws : List Nat) : Prop where
  ok : MoOk M N
  one : 1 ≤ ws.length
  inj : ws.Nodup
  lt : ∀ i, i < ws.length → nth ws i < N
  cl : ∀ q, q < M.rel.length → ∀ i, i < ws.length → ∀ u, bt (nth (nth M.rel q) (nth ws i)) u = true → ∃ j, j < ws.length ∧ nth ws j = u
section
variable {M : Mo} {N : Nat} {ws : List Nat} (h : Subm M N ws)
include h
theorem Subm.le : ws.length ≤ N := by
  have := nodup_sub_len (L := ws) (M := List.range N) h.inj (fun x hx => by
    obtain ⟨i, hi, rfl⟩ := List.getElem_of_mem hx
    have := h.lt i hi
    rw [nth_eq _ _ hi] at this
    exact List.mem_range.2 this)
  simpa using this
theorem Subm.l64 : ws.length ≤ 64 := Nat.le_trans h.le h.ok.most
omit h in
theorem arr_row {q : Nat} (hq : q < M.rel.length) : nth (arrM M ws).rel q = ws.map fun w => pullL (nth (nth M.rel q) w) ws := nth_mapN _ _ hq
omit h in
theorem arr_cell {q i : Nat} (hq : q < M.rel.length) (hi : i < ws.length) : nth (nth (arrM M ws).rel q) i = pullL (nth (nth M.rel q) (nth ws i)) ws := by
  rw [arr_row hq, nth_mapN _ _ hi]
theorem arr_ok : MoOk (arrM M ws) ws.length where
  worlds := rfl
  one := h.one
  most := h.l64
  rel := by simpa [arrM] using h.ok.rel
  val := by simpa [arrM] using h.ok.val
  row := fun r hr => by
    simp only [arrM, List.mem_map] at hr
    obtain ⟨r0, _, rfl⟩ := hr
    simp
  valIn := fun s hs => by
    simp only [arrM, List.mem_map] at hs
    obtain ⟨s0, _, rfl⟩ := hs
    exact andNot_zero.2 (pull_in _ h.l64)
  relIn := fun r hr s hs => by
    simp only [arrM, List.mem_map] at hr
    obtain ⟨r0, _, rfl⟩ := hr
    simp only [List.mem_map] at hs
    obtain ⟨w0, _, rfl⟩ := hs
    exact andNot_zero.2 (pull_in _ h.l64)
theorem agent_arr {q : Nat} (hq : q < M.rel.length) : Arr (nth M.rel q) (nth (arrM M ws).rel q) N ws where
  len := (row_in h.ok hq).1
  len' := by rw [arr_row hq]; simp
  row := fun i hi => arr_cell hq hi
  inN := (row_in h.ok hq).2
  cl := h.cl q hq
theorem gRow_arr (b : Bool) (G : Nat) {i : Nat} (hi : i < ws.length) : ∀ q, q ≤ M.rel.length → gRow (jOf b) (zOf b ws.length) (arrM M ws).rel G i q = pullL (gRow (jOf b) (zOf b N) M.rel G (nth ws i) q) ws
  | 0, _ => by
    show zOf b ws.length = pullL (zOf b N) ws
    apply bt_ext
    intro k hk
    rw [bt_pullL _ _ h.l64]
    cases b
    · simp [zOf, bt_zero]
    · show bt (allW ws.length) k = _
      rw [bt_allW]
      by_cases hk2 : k < ws.length
      · have := h.lt k hk2
        have h3 := h.ok.most
        show _ = (_ && bt (allW N) (nth ws k))
        rw [bt_allW]
        simp [hk, hk2, this]; omega
      · simp [hk2]
  | q + 1, hq => by
    have ih := gRow_arr b G hi q (by omega)
    cases hb : G.testBit q
    · rw [gRow_no hb, gRow_no hb]; exact ih
    · rw [gRow_yes hb, gRow_yes hb, ih, arr_cell (by omega) hi]
      cases b
      · exact (pull_or _ _ ws h.l64).symm
      · exact (pull_and _ _ ws h.l64).symm
omit h in
theorem rel_len : (arrM M ws).rel.length = M.rel.length := by simp [arrM]
theorem or_cl (G : Nat) {i : Nat} (hi : i < ws.length) {u : Nat} : ∀ q, q ≤ M.rel.length → bt (gRow (jOf false) (zOf false N) M.rel G (nth ws i) q) u = true → ∃ j, j < ws.length ∧ nth ws j = u
  | 0, _, hb => by simp [gRow, zOf, bt_zero] at hb
  | q + 1, hq, hb => by
    cases hg : G.testBit q
    · rw [gRow_no hg] at hb; exact or_cl G hi q (by omega) hb
    · rw [gRow_yes hg] at hb
      have hb : bt (_ ||| _) u = true := hb
      rw [bt_or, Bool.or_eq_true] at hb
      rcases hb with hb | hb
      · exact or_cl G hi q (by omega) hb
      · exact h.cl q (by omega) i hi u hb
omit h in
theorem and_sub_row (G : Nat) {v u p : Nat} (hp : G.testBit p = true) : ∀ q, p < q → bt (gRow (jOf true) (zOf true N) M.rel G v q) u = true → bt (nth (nth M.rel p) v) u = true
  | 0, hq, _ => absurd hq (Nat.not_lt_zero _)
  | q + 1, hq, hb => by
    by_cases hpq : p = q
    · subst hpq
      rw [gRow_yes hp] at hb
      have hb : bt (_ &&& _) u = true := hb
      rw [bt_and, Bool.and_eq_true] at hb
      exact hb.2
    · cases hg : G.testBit q
      · rw [gRow_no hg] at hb; exact and_sub_row G hp q (by omega) hb
      · rw [gRow_yes hg] at hb
        have hb : bt (_ &&& _) u = true := hb
        rw [bt_and, Bool.and_eq_true] at hb
        exact and_sub_row G hp q (by omega) hb.1
theorem group_arr {G : Nat} (h1 : 1 ≤ G) (h2 : (G : Int) < p2 M.rel.length) : Arr (groupOf M G) (groupOf (arrM M ws) G) N ws where
  len := (group_in h.ok h1 h2).1
  len' := (group_in (arr_ok h) h1 (by rw [rel_len]; exact h2)).1
  row := fun i hi => by rw [group_row (arr_ok h) h1 (by rw [rel_len]; exact h2) hi, group_row h.ok h1 h2 (h.lt i hi), rel_len, gRow_arr h false G hi _ (Nat.le_refl _)]
  inN := (group_in h.ok h1 h2).2
  cl := fun i hi u hb => by
    rw [group_row h.ok h1 h2 (h.lt i hi)] at hb
    exact or_cl h G hi _ (Nat.le_refl _) hb
theorem meet_arr {G : Nat} (h1 : 1 ≤ G) (h2 : (G : Int) < p2 M.rel.length) : Arr (meetOf M G) (meetOf (arrM M ws) G) N ws where
  len := (meet_in h.ok h1 h2).1
  len' := (meet_in (arr_ok h) h1 (by rw [rel_len]; exact h2)).1
  row := fun i hi => by rw [meet_row (arr_ok h) h1 (by rw [rel_len]; exact h2) hi, meet_row h.ok h1 h2 (h.lt i hi), rel_len, gRow_arr h true G hi _ (Nat.le_refl _)]
  inN := (meet_in h.ok h1 h2).2
  cl := fun i hi u hb => by
    rw [meet_row h.ok h1 h2 (h.lt i hi)] at hb
    obtain ⟨p, hp1, hp2⟩ : ∃ p, p < M.rel.length ∧ G.testBit p = true := by
      apply Classical.byContradiction
      intro hno
      have : G = 0 := by
        apply Nat.eq_of_testBit_eq
        intro i
        rw [Nat.zero_testBit]
        rcases Nat.lt_or_ge i M.rel.length with h3 | h3
        · cases hb2 : G.testBit i
          · rfl
          · exact absurd ⟨i, h3, hb2⟩ hno
        · apply Nat.testBit_lt_two_pow
          unfold p2 at h2
          exact Nat.lt_of_lt_of_le (by omega) (Nat.pow_le_pow_right (by omega) h3)
      omega
    exact h.cl p hp1 i hi u (and_sub_row G hp2 _ hp1 hb)
end
/-- Two answers agree. -/
def AgrP (ws : List Nat) (p' p : BitVec 64 × Bool) : Prop := p'.2 = p.2 ∧ Agr ws p'.1 p.1
theorem agrP_ite {ws : List Nat} {c : Prop} [Decidable c] {a' a b' b : BitVec 64 × Bool} (h1 : c → AgrP ws a' a) (h2 : ¬ c → AgrP ws b' b) : AgrP ws (if c then a' else b') (if c then a else b) := by
  by_cases hc : c
  · rw [if_pos hc, if_pos hc]; exact h1 hc
  · rw [if_neg hc, if_neg hc]; exact h2 hc
theorem zero_agr (ws : List Nat) : Agr ws 0#64 0#64 := fun i _ => by rw [bt_zero, bt_zero]
theorem zero_agrP (ws : List Nat) (b : Bool) : AgrP ws (0#64, b) (0#64, b) := ⟨rfl, zero_agr ws⟩
theorem relBox_nil (x : BitVec 64) : relBox [] x = 0#64 := by simp [relBox, boxTo]
theorem relDia_nil (x : BitVec 64) : relDia [] x = 0#64 := by simp [relDia, allW]
theorem cmn_nil {n : Nat} (hn : 1 ≤ n) (c s : BitVec 64) : cmn [] n c s = 0#64 := by
  obtain ⟨k, rfl⟩ : ∃ k, n = k + 1 := ⟨n - 1, by omega⟩
  show relBox [] ((allW (k + 1) &&& ~~~ c) ||| (s &&& cmnI [] (k + 1) c s k)) = 0#64
  exact relBox_nil _
theorem gather_no {M : Mo} {g : Int} (j : BitVec 64 → BitVec 64 → BitVec 64) (hg : g < 1) : gather j M g = [] := by
  unfold gather isGroup
  rw [if_neg (by simp; omega)]
section
variable {M : Mo} {N : Nat} {ws : List Nat} (h : Subm M N ws)
include h
theorem dia_agr {q : Nat} (hq : q < M.rel.length) {x' x : BitVec 64} (hx : Agr ws x' x) : Agr ws (relDia (nth (arrM M ws).rel q) x') (relDia (nth M.rel q) x) := by
  rw [← dual_law h.ok hq, ← dual_law (arr_ok h) (by rw [rel_len]; exact hq)]
  exact not_agr h.ok.most h.l64 h.lt (box_agr h.ok.most h.l64 h.lt (agent_arr h hq) (not_agr h.ok.most h.l64 h.lt hx))
theorem valN_arr (o i g : Int) {x' x y' y : BitVec 64} (hx : Agr ws x' x) (hy : Agr ws y' y) : AgrP ws (valN (arrM M ws) o i g x' y') (valN M o i g x y) := by
  have hA : (arrM M ws).worlds.toNat = ws.length := by simp [arrM]
  have hM : M.worlds.toNat = N := by rw [h.ok.worlds]; exact Int.toNat_natCast N
  have hv : (arrM M ws).val.length = M.val.length := by simp [arrM]
  have hr : (arrM M ws).rel.length = M.rel.length := rel_len
  have all := all_agr h.ok.most h.l64 h.lt
  have nt : ∀ {a' a : BitVec 64}, Agr ws a' a → Agr ws (allW ws.length &&& ~~~ a') (allW N &&& ~~~ a) := fun ha => not_agr h.ok.most h.l64 h.lt ha
  have bx : ∀ {r r' : List (BitVec 64)}, Arr r r' N ws → ∀ {a' a : BitVec 64}, Agr ws a' a → Agr ws (relBox r' a') (relBox r a) := by
    intro r r' hr a' a ha
    exact box_agr h.ok.most h.l64 h.lt hr ha
  have grp : ∀ {j : BitVec 64 → BitVec 64 → BitVec 64}, (∀ G : Nat, 1 ≤ G → (G : Int) < p2 M.rel.length → Arr (gather j M G) (gather j (arrM M ws) G) N ws) → ¬ p2 M.rel.length ≤ g → Agr ws (relBox (gather j (arrM M ws) g) x') (relBox (gather j M g) x) := by
    intro j hj hg
    by_cases hg1 : g < 1
    · rw [gather_no j hg1, gather_no j hg1, relBox_nil, relBox_nil]; exact zero_agr ws
    · obtain ⟨G, rfl⟩ := Int.eq_ofNat_of_zero_le (show 0 ≤ g by omega)
      exact bx (hj G (by omega) (by omega)) hx
  unfold valN
  rw [hA, hM, hv, hr]
  refine agrP_ite (fun _ => ⟨rfl, all⟩) fun _ => agrP_ite (fun _ => zero_agrP ws true) fun _ => agrP_ite (fun _ => agrP_ite (fun _ => zero_agrP ws false) fun hi => ⟨rfl, ?_⟩) fun _ => agrP_ite (fun _ => ⟨rfl, nt hx⟩) fun _ => agrP_ite (fun _ => ⟨rfl, and_agr hx hy⟩) fun _ => agrP_ite (fun _ => ⟨rfl, or_agr hx hy⟩) fun _ => agrP_ite (fun _ => ⟨rfl, or_agr (nt hx) hy⟩) fun _ => agrP_ite (fun _ => ⟨rfl, nt (xor_agr hx hy)⟩) fun _ => agrP_ite (fun _ => agrP_ite (fun _ => zero_agrP ws false) fun hi => ⟨rfl, ?_⟩) fun _ => agrP_ite (fun _ => agrP_ite (fun _ => zero_agrP ws false) fun hi => ⟨rfl, ?_⟩) fun _ => agrP_ite (fun _ => agrP_ite (fun _ => zero_agrP ws false) fun hg => ⟨rfl, grp (fun G h1 h2 => group_arr h h1 h2) hg⟩) fun _ => agrP_ite (fun _ => agrP_ite (fun _ => zero_agrP ws false) fun hg => ⟨rfl, grp (fun G h1 h2 => meet_arr h h1 h2) hg⟩) fun _ => agrP_ite (fun _ => agrP_ite (fun _ => zero_agrP ws false) fun hg => ⟨rfl, ?_⟩) fun _ => zero_agrP ws false
  · show Agr ws (nth (arrM M ws).val i.toNat) (nth M.val i.toNat)
    by_cases hk : i.toNat < M.val.length
    · have e : nth (arrM M ws).val i.toNat = pullL (nth M.val i.toNat) ws := nth_mapN _ _ hk
      rw [e]; exact pull_agr h.l64 _
    · rw [nth_out (by rw [hv]; omega), nth_out (by omega)]; exact zero_agr ws
  · show Agr ws (relBox (nth (arrM M ws).rel i.toNat) x') (relBox (nth M.rel i.toNat) x)
    by_cases hk : i.toNat < M.rel.length
    · exact bx (agent_arr h hk) hx
    · rw [nth_out (by rw [hr]; omega), nth_out (by omega), show (default : List (BitVec 64)) = [] from rfl, relBox_nil, relBox_nil]; exact zero_agr ws
  · show Agr ws (relDia (nth (arrM M ws).rel i.toNat) x') (relDia (nth M.rel i.toNat) x)
    by_cases hk : i.toNat < M.rel.length
    · exact dia_agr h hk hx
    · rw [nth_out (by rw [hr]; omega), nth_out (by omega), show (default : List (BitVec 64)) = [] from rfl, relDia_nil, relDia_nil]; exact zero_agr ws
  · show Agr ws (cmn (groupOf (arrM M ws) g) ws.length x' y') (cmn (groupOf M g) N x y)
    by_cases hg1 : g < 1
    · have e1 : groupOf (arrM M ws) g = [] := gather_no _ hg1
      have e2 : groupOf M g = [] := gather_no _ hg1
      rw [e1, e2, cmn_nil h.one, cmn_nil h.ok.one]; exact zero_agr ws
    · obtain ⟨G, rfl⟩ := Int.eq_ofNat_of_zero_le (show 0 ≤ g by omega)
      exact cmn_agr h.ok.most h.l64 h.lt h.le (group_arr h (by omega) (by omega)) hx hy
/-- The sets of a tree agree at the worlds of the list. -/
theorem sem_arr : ∀ t, AgrP ws (semT (arrM M ws) t) (semT M t)
  | .leaf o i e g => valN_arr h o i g (zero_agr ws) (zero_agr ws)
  | .un o i e g x => by
    have ih := sem_arr x
    unfold semT
    rw [ih.1]
    exact agrP_ite (fun _ => valN_arr h o i g ih.2 (zero_agr ws)) fun _ => zero_agrP ws false
  | .bin o i e g x y => by
    have ih := sem_arr x
    have ih2 := sem_arr y
    unfold semT
    rw [ih.1, ih2.1]
    exact agrP_ite (fun _ => valN_arr h o i g ih.2 ih2.2) fun _ => zero_agrP ws false
end
end Wt
