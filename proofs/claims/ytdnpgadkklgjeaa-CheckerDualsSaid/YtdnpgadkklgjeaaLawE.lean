/- The walk of the law's function set; the set of a formula lies in the model. -/
import Derived.Test.YtdnpgadkklgjeaaLawC
import Derived.Test.YtdnpgadkklgjeaaSet
namespace Wt
open Go Go.RowKit Go.Maps Go.Proofs Fm

def RetG (s : BitVec 64) (b : Bool) (e : Ending) (w w' : World) : Prop := e = .returned (.tuple #[.int .u64 (un s), .bool b]) ∧ Ext w w'
set_option maxRecDepth 20000 in
set_option maxHeartbeats 1000000 in
theorem set_any (M : Mo) (va ra : Option Addr) (vc rc : Nat) (fa : Option Addr) (fc : Nat) (f : List Nd) (w : World) (hm : RM w va ra M) (hf : RN w fa f) :
    Calls Try.prog 22 #[.agg #[.int .i64 M.worlds, .slice va M.val.length vc, .slice ra M.rel.length rc], .slice fa f.length fc] w fun e w' => RetG (holdsOf M f) (reqErr M f == 0) e w w' := by
  have hE0 := (Ext.refl w).alloc (.cells #[.int .i64 M.worlds, .slice va M.val.length vc, .slice ra M.rel.length rc] 25)
  have hbx := MoBox.new w M.worlds M.val M.rel va vc ra rc 25
  have HM := Lib.hid (hm.ext hE0)
  have HF := Lib.hid (hf.ext hE0)
  have HE := Lib.hid hE0
  obtain ⟨m0, m1, m2⟩ := hbx
  dsimp only at m0 m1 m2
  clear hm hf hE0
  go_enter Try.func22, Try.ntmps22
  go_wp2_with fail
  refine (holds_any M va ra vc rc fa fc f _ HM.out HF.out).mono ?_
  rintro _ w1 ⟨rfl, hX1⟩
  dsimp only
  go_wp2_with fail
  go_ret2
  exact ⟨rfl, HE.out.trans hX1⟩
/-- The set of a right formula that has one. -/
theorem setT {M : Mo} (hM : moCheck M = 0) {l : List Nd} {t : Fm} {s : BitVec 64} (h : IsF l t) (hs : semT M t = (s, true)) (va ra : Option Addr) (vc rc : Nat) (fa : Option Addr) (fc : Nat) (w : World) (hm : RM w va ra M) (hf : RN w fa l) :
    Calls Try.prog 22 #[.agg #[.int .i64 M.worlds, .slice va M.val.length vc, .slice ra M.rel.length rc], .slice fa l.length fc] w fun e w' => RetG s true e w w' := by
  obtain ⟨h1, h2⟩ := set_sem hM h
  have := set_any M va ra vc rc fa fc l w hm hf
  rw [h1, h2, hs] at this
  exact this
/-- What the law knows of a formula that has a set. -/
theorem set_ok {M : Mo} {f : List Nd} (h : (reqErr M f == 0) = true) : moCheck M = 0 ∧ IsF f (rt f) ∧ semT M (rt f) = (holdsOf M f, true) := by
  have h0 : reqErr M f = 0 := by simpa using h
  obtain ⟨h1, h2, _, _⟩ := reqErr_ok h0
  have hF := IsF.of h2
  obtain ⟨e1, e2⟩ := set_sem h1 hF
  exact ⟨h1, hF, by rw [Prod.ext_iff]; exact ⟨e2.symm, by rw [← e1]; exact h⟩⟩
theorem p2_small {R : Nat} (h1 : 1 ≤ R) (h4 : R ≤ 4) : 2 ≤ p2 R ∧ p2 R ≤ 16 := by
  have : R = 1 ∨ R = 2 ∨ R = 3 ∨ R = 4 := by omega
  rcases this with rfl | rfl | rfl | rfl <;> decide
theorem p2_sh {R : Nat} (h4 : R ≤ 4) : wrap64 ((2 : Int) ^ R) = p2 R := by
  have : R = 0 ∨ R = 1 ∨ R = 2 ∨ R = 3 ∨ R = 4 := by omega
  rcases this with rfl | rfl | rfl | rfl | rfl <;> (rw [← IntWalk.i64_left]; decide +kernel)
theorem full_group {R : Nat} (h1 : 1 ≤ R) (h4 : R ≤ 4) : ∃ G : Nat, (1 ≤ G ∧ G ≤ 15) ∧ (G : Int) < p2 R ∧ (∀ q, q < R → G.testBit q = true) ∧ p2 R - 1 = (G : Int) := by
  have : R = 1 ∨ R = 2 ∨ R = 3 ∨ R = 4 := by omega
  rcases this with rfl | rfl | rfl | rfl
  · exact ⟨1, by decide, by decide, by decide, by decide⟩
  · exact ⟨3, by decide, by decide, by decide, by decide⟩
  · exact ⟨7, by decide, by decide, by decide, by decide⟩
  · exact ⟨15, by decide, by decide, by decide, by decide⟩
theorem last_group {R : Nat} (h1 : 1 ≤ R) (h4 : R ≤ 4) : ∃ G : Nat, (1 ≤ G ∧ G ≤ 15) ∧ (G : Int) < p2 R ∧ (∀ q, q < R → G.testBit q = decide (q + 1 = R)) ∧ p2 (R - 1) = (G : Int) := by
  have : R = 1 ∨ R = 2 ∨ R = 3 ∨ R = 4 := by omega
  rcases this with rfl | rfl | rfl | rfl
  · exact ⟨1, by decide, by decide, by decide, by decide⟩
  · exact ⟨2, by decide, by decide, by decide, by decide⟩
  · exact ⟨4, by decide, by decide, by decide, by decide⟩
  · exact ⟨8, by decide, by decide, by decide, by decide⟩
theorem nth_mem {α : Type} [Inhabited α] {l : List α} {k : Nat} (h : k < l.length) : nth l k ∈ l := by rw [nth_eq _ _ h]; exact List.getElem_mem h
theorem nth_or {α : Type} [Inhabited α] (l : List α) (k : Nat) : nth l k ∈ l ∨ nth l k = default := by
  by_cases h : k < l.length
  · exact .inl (nth_mem h)
  · right; unfold nth; simp [List.getD, h]
theorem Sub.and1 {s t u : BitVec 64} (h : Sub s u) : Sub (s &&& t) u := fun k hk hb => by
  rw [bt_and, Bool.and_eq_true] at hb; exact h k hk hb.1
theorem box_in {r : List (BitVec 64)} {s : BitVec 64} {N : Nat} (h : r.length ≤ N) : Sub (relBox r s) (allW N) := fun k hk hb => by
  rw [bt_relBox r s k hk] at hb
  simp only [Bool.and_eq_true, decide_eq_true_eq] at hb
  rw [bt_allW]; simp; omega
theorem zero_in (s : BitVec 64) : Sub 0#64 s := fun k hk hb => by simp [bt_zero] at hb
theorem cmn_in {r : List (BitVec 64)} {N : Nat} (h : r.length ≤ N) (c s : BitVec 64) : Sub (cmn r N c s) (allW N) := by
  unfold cmn
  have hI : ∀ k, Sub (cmnI r N c s k) (allW N) := by
    intro k
    cases k with
    | zero => exact Sub.refl _
    | succ k => exact box_in h
  exact hI N
theorem semT_in {M : Mo} {N : Nat} (ok : MoOk M N) : ∀ t, Sub (semT M t).1 (allW N) := by
  have hN : M.worlds.toNat = N := by rw [ok.worlds]; exact Int.toNat_natCast N
  have hv : ∀ o i g x y, Sub x (allW N) → Sub y (allW N) → Sub (valN M o i g x y).1 (allW N) := by
    intro o i g x y hx hy
    have I : ∀ {c : Prop} [Decidable c] {a b : BitVec 64 × Bool}, (c → Sub a.1 (allW N)) → (¬c → Sub b.1 (allW N)) → Sub (if c then a else b).1 (allW N) := by
      intro c _ a b ha hb
      by_cases hc : c
      · rw [if_pos hc]; exact ha hc
      · rw [if_neg hc]; exact hb hc
    have hg : (groupOf M g).length ≤ N := gather_le _ M g ok
    have hg2 : (meetOf M g).length ≤ N := gather_le _ M g ok
    have hrl : (nth M.rel i.toNat).length ≤ N := by
      rcases nth_or M.rel i.toNat with h2 | h2
      · rw [ok.row _ h2]; exact Nat.le_refl _
      · rw [h2]; exact Nat.zero_le _
    have Z : Sub ((0#64, false) : BitVec 64 × Bool).1 (allW N) := zero_in _
    have A : Sub (allW M.worlds.toNat) (allW N) := by rw [hN]; exact Sub.refl _
    unfold valN
    refine I (fun _ => A) fun _ => I (fun _ => zero_in _) fun _ => I (fun _ => I (fun _ => Z) fun h => ?_) fun _ => I (fun _ => A.and1) fun _ => I (fun _ => hx.and1) fun _ => I (fun _ => hx.or hy) fun _ => I (fun _ => A.and1.or hy) fun _ => I (fun _ => A.and1) fun _ => I (fun _ => I (fun _ => Z) fun h => ?_) fun _ => I (fun _ => I (fun _ => Z) fun h => ?_) fun _ => I (fun _ => I (fun _ => Z) fun h => box_in hg) fun _ => I (fun _ => I (fun _ => Z) fun h => box_in hg2) fun _ => I (fun _ => I (fun _ => Z) fun h => ?_) fun _ => Z
    · show Sub (nth M.val i.toNat) _
      rcases nth_or M.val i.toNat with h2 | h2
      · exact andNot_zero.1 (ok.valIn _ h2)
      · rw [h2]; exact zero_in _
    · exact box_in hrl
    · show Sub (relDia _ _) _
      unfold relDia
      split
      · exact Sub.and1 (fun k hk hb => by rw [bt_allW] at hb ⊢; simp at hb ⊢; omega)
      · exact zero_in _
    · show Sub (cmn _ _ _ _) _
      rw [hN]; exact cmn_in hg _ _
  intro t
  induction t with
  | leaf o i e g => exact hv _ _ _ _ _ (zero_in _) (zero_in _)
  | un o i e g x ih =>
    unfold semT
    split
    · exact hv _ _ _ _ _ ih (zero_in _)
    · exact zero_in _
  | bin o i e g x y ih1 ih2 =>
    unfold semT
    split
    · exact hv _ _ _ _ _ ih1 ih2
    · exact zero_in _
end Wt
