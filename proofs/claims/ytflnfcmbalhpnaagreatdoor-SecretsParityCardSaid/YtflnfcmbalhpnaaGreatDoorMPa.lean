/- A law on regions that draw their order: pure operations (of the tail, too) are taken first, then the operations that only read or call quietly, and what is left goes as a plain list. -/
import Derived.Test.YtflnfcmbalhpnaaGreatDoorM4Al
import Derived.Deep.RegionHeld
import Derived.Test.YtflnfcmbalhpnaaGreatDoorM4Br
import Derived.Deep.RegionHeld3
import Derived.Deep.CutRange
import Derived.Test.YtflnfcmbalhpnaaGreatDoorRows
import Derived.Test.YtflnfcmbalhpnaaGreatDoorCards
import Derived.Test.YtflnfcmbalhpnaaGreatDoorTie
import Derived.Test.YtflnfcmbalhpnaaGreatDoorM4Bp
import Derived.Test.YtflnfcmbalhpnaaGreatDoorM4Bq
import Derived.ProofKit
import Derived.LaidMore
import Derived.SizedLaws
import Derived.SevenTiedAt
namespace Wt
open Go

section
variable {P : Program} {ops : Array Oper} {md : Region.Mode} {w : World}
/-- Every operation of the tail but its first waits for one of the tail before it. -/
def chainH (md : Region.Mode) (ops : Array Oper) (n : Nat) (L0 : Array Bool) : Bool :=
  (List.range ops.size).all fun t => decide (t ≤ n) || L0.getD t false || (List.range t).any fun s => decide (n ≤ s) && !L0.getD s false && Region.waitsFor md ops t s
structure InvH (md : Region.Mode) (ops : Array Oper) (n : Nat) (L0 listed : Array Bool) : Prop where
  size : listed.size = ops.size
  closed : ∀ j oj, ops[j]? = some oj → listed.getD j false = true → ∀ e ∈ oj.after, Region.binds md e = true → listed.getD e.on false = true
  tail : ∀ t, n ≤ t → t < ops.size → listed.getD t false = true → L0.getD t false = true
  pre : ∀ j, L0.getD j false = true → listed.getD j false = true
theorem InvH.set {n i : Nat} {L0 listed : Array Bool} (inv : InvH md ops n L0 listed) (hi : i ∈ Region.ready md ops listed) (hin : i < n) : InvH md ops n L0 (listed.setIfInBounds i true) := by
  obtain ⟨_, oi, hoi, hall⟩ := mem_ready.1 hi
  refine ⟨by simp [inv.size], fun j oj hj hl e he hb => ?_, fun t ht ht' h => by rw [getD_set_ne false (by omega)] at h; exact inv.tail t ht ht' h, fun j hj => getD_set_true (inv.pre j hj)⟩
  by_cases hij : i = j
  · subst hij
    have : oj = oi := Option.some.inj (hj.symm.trans hoi)
    subst this
    exact getD_set_true (hall e he hb)
  · rw [getD_set_ne false hij] at hl
    exact getD_set_true (inv.closed j oj hj hl e he hb)
theorem tail_waitsH {n : Nat} {L0 listed : Array Bool} (hs : sinkG md ops n L0 = true) (hc : chainH md ops n L0 = true) (hn : n < ops.size) (inv : InvH md ops n L0 listed) :
    ∀ (d i : Nat), n - i = d → i < n → listed.getD i true = false → ∀ t, n ≤ t → t ∉ Region.ready md ops listed := by
  intro d
  induction d using Nat.strongRecOn with
  | _ d ih =>
    intro i hd hi hun t ht hr
    obtain ⟨_, ot, hot, hall⟩ := mem_ready.1 hr
    have htlt : t < ops.size := (Array.getElem?_eq_some_iff.1 hot).1
    by_cases htn : t = n
    · subst htn
      have h1 := List.all_eq_true.1 hs i (List.mem_range.2 hi)
      rw [Bool.or_eq_true] at h1
      rcases h1 with h1 | h1
      · have := inv.pre i h1
        rw [getD_both hun] at this
        cases this
      · obtain ⟨j, hj, hj2⟩ := List.any_eq_true.1 h1
        simp only [Bool.and_eq_true, decide_eq_true_eq] at hj2
        obtain ⟨oj, hoj, e, he, hb, hon⟩ := Region.waitsFor_spec hj2.2
        have hjle : j ≤ t := by have := List.mem_range.1 hj; omega
        by_cases hjt : j = t
        · subst hjt
          have : oj = ot := Option.some.inj (hoj.symm.trans hot)
          subst this
          have h2 := hall e he hb
          rw [hon, getD_both hun] at h2
          cases h2
        · cases hl : listed.getD j false with
          | true =>
            have h2 := inv.closed j oj hoj hl e he hb
            rw [hon, getD_both hun] at h2
            cases h2
          | false =>
            have hjs : j < listed.size := by rw [inv.size]; omega
            exact ih (t - j) (by omega) j rfl (by omega) (getD_in hjs hl) t (Nat.le_refl _) hr
    · have h1 := List.all_eq_true.1 hc t (List.mem_range.2 htlt)
      rw [Bool.or_eq_true, Bool.or_eq_true] at h1
      rcases h1 with (h1 | h1) | h1
      · simp only [decide_eq_true_eq] at h1; omega
      · have h3 := inv.pre t h1
        rw [getD_both (mem_ready.1 hr).1] at h3
        cases h3
      · obtain ⟨s, hsr, hs2⟩ := List.any_eq_true.1 h1
        simp only [Bool.and_eq_true, decide_eq_true_eq, Bool.not_eq_true'] at hs2
        obtain ⟨o', ho', e, he, hb, hon⟩ := Region.waitsFor_spec hs2.2
        have : o' = ot := Option.some.inj (ho'.symm.trans hot)
        subst this
        have h2 := hall e he hb
        have := List.mem_range.1 hsr
        rw [hon] at h2
        have h5 := inv.tail s hs2.1.1 (by omega) h2
        rw [hs2.1.2] at h5
        cases h5
theorem wpAnyL_firstH {n i : Nat} {oi : Oper} {v : Value} {L0 : Array Bool} {L : Array Bool → Act → Prop} (hi : ops[i]? = some oi) (hsel : ∀ (j : Nat) (o : Oper) cs b, ops[j]? = some o → o.op ≠ .select cs b)
    (hs : sinkG md ops n L0 = true) (hc : chainH md ops n L0 = true) (hn : n < ops.size) (hin : i < n)
    (hdone : ∀ listed a, L listed a → ∀ j ∈ Region.ready md ops listed, n ≤ j) :
    ∀ (f : Nat) (listed : Array Bool) (a : Act), InvH md ops n L0 listed →
      (∀ j oj, ops[j]? = some oj → j ≠ i → listed.getD j true = false → (∀ e ∈ oj.after, Region.binds md e = true → e.on ≠ i) → oi.apart ops oj = true) →
      i ∈ Region.ready md ops listed → YieldsAt P ops w oi v a →
      wpAnyL P md ops w n L f (listed.setIfInBounds i true) (a.put oi.dst v) → wpAnyL P md ops w n L (f + 1) listed a := by
  intro f
  induction f with
  | zero =>
    intro listed a inv _ hr hy H
    have hun := (mem_ready.1 hr).1
    refine ⟨fun h => (by rw [h] at hr; cases hr), fun j hj => ?_⟩
    have hjn : j < n := by
      rcases Nat.lt_or_ge j n with h | h
      · exact h
      · exact absurd hj (tail_waitsH hs hc hn inv _ i rfl hin hun j h)
    refine ⟨hjn, ?_⟩
    by_cases hji : j = i
    · subst hji; exact hy.stOp hi H
    · have := hdone _ _ H j (ready_mono hj hji)
      omega
  | succ f ih =>
    intro listed a inv hfree hr hy H
    have hun := (mem_ready.1 hr).1
    refine ⟨fun h => (by rw [h] at hr; cases hr), fun j hj => ?_⟩
    have hjn : j < n := by
      rcases Nat.lt_or_ge j n with h | h
      · exact h
      · exact absurd hj (tail_waitsH hs hc hn inv _ i rfl hin hun j h)
    refine ⟨hjn, ?_⟩
    by_cases hji : j = i
    · subst hji; exact hy.stOp hi H
    · have h1 := (H.2 j (ready_mono hj hji)).2
      obtain ⟨hjun, oj, hoj, hall⟩ := mem_ready.1 hj
      have hnot : ∀ e ∈ oj.after, Region.binds md e = true → e.on ≠ i := fun e he hb heq => by
        have h1 := hall e he hb
        rw [heq, getD_both hun] at h1
        cases h1
      have h2 := stOp_put hoj (hfree j oj hoj hji hjun hnot) (fun cs b => hsel i oi cs b hi) (fun cs b => hsel j oj cs b hoj) hy h1
      have hfree' : ∀ k ok, ops[k]? = some ok → k ≠ i → (listed.setIfInBounds j true).getD k true = false →
          (∀ e ∈ ok.after, Region.binds md e = true → e.on ≠ i) → oi.apart ops ok = true := fun k ok hk hki hun hno => by
        refine hfree k ok hk hki ?_ hno
        by_cases hjk : j = k
        · subst hjk; exact hjun
        · rw [getD_set_ne true hjk] at hun; exact hun
      refine stOp_mono (fun a' h3 => ih (listed.setIfInBounds j true) a' (inv.set hj hjn) hfree' (ready_mono hr (Ne.symm hji)) h3.1 ?_) h2
      rw [Array.setIfInBounds_comm _ _ hji]
      exact h3.2
theorem wpAnyL_headH {n : Nat} {L0 : Array Bool} {Lq : Act → Prop} (hsel : Region.noSelect ops = true) (hs : sinkG md ops n L0 = true) (hc : chainH md ops n L0 = true) (hn : n < ops.size) (LF : Array Bool)
    (hF : ∀ j ∈ Region.ready md ops LF, n ≤ j) :
    ∀ (ks : List Nat) (l : List Oper) (listed : Array Bool) (a : Act), (ks.map fun k => ops[k]?) = l.map some → setAll ks listed = LF → InvH md ops n L0 listed →
    headG md ops n ks listed = true → wpStill P ops w Lq l a →
    wpAnyL P md ops w n (fun listed' a' => listed' = LF ∧ Lq a') ks.length listed a
  | [], l, listed, a, hl, hF2, inv, hB, h => by
    have : l = [] := by simpa using hl.symm
    subst this
    exact ⟨hF2, h⟩
  | k :: ks, [], listed, a, hl, hF2, inv, hB, h => by simp at hl
  | k :: ks, o :: l, listed, a, hl, hF2, inv, hB, h => by
    simp only [List.map_cons, List.cons.injEq] at hl
    obtain ⟨h0, hl⟩ := hl
    simp only [headG, Bool.and_eq_true, decide_eq_true_eq] at hB
    obtain ⟨⟨⟨hkn, hr⟩, hf⟩, hB'⟩ := hB
    have hr' : k ∈ Region.ready md ops listed := by simpa using hr
    have hst : stOp P ops w k (wpStill P ops w Lq l) a := by unfold stOp; simp only [h0]; exact h
    obtain ⟨v, hy, hK⟩ := yieldsAt_of_stOp h0 hst
    exact wpAnyL_firstH h0 (Region.noSelect_spec hsel) hs hc hn hkn (fun listed' a' hL => by rw [hL.1]; exact hF) ks.length listed a inv (Region.free_spec h0 hf) hr' hy
      (wpAnyL_headH hsel hs hc hn LF hF ks l _ _ hl hF2 (inv.set hr' hkn) hB' hK)
/-- All that is asked of a region and of a listing of it. -/
def regH (md : Region.Mode) (ops : Array Oper) (n : Nat) (ks : List Nat) (listed : Array Bool) : Bool :=
  Region.noSelect ops && sinkG md ops n listed && chainH md ops n listed && decide (n < ops.size) && headG md ops n ks listed && closedG md ops listed && decide (listed.size = ops.size) && (Region.ready md ops (setAll ks listed)).all fun j => decide (n ≤ j)
theorem wpAny_headH {n : Nat} (ks : List Nat) (g : Nat) {l : List Oper} {listed : Array Bool} {a : Act} {Q : Exit → Act → World → Prop} (hB : regH md ops n ks listed = true) (hl : (ks.map fun k => ops[k]?) = l.map some)
    (h : wpStill P ops w (fun a' => wpAny P md ops Q g (setAll ks listed) a' w) l a) : wpAny P md ops Q (ks.length + g) listed a w := by
  simp only [regH, Bool.and_eq_true, decide_eq_true_eq] at hB
  obtain ⟨⟨⟨⟨⟨⟨⟨hsel, hs⟩, hc⟩, hn⟩, hh⟩, hcl⟩, hsz⟩, hF⟩ := hB
  have inv : InvH md ops n listed listed := by
    refine ⟨hsz, fun j oj hj hlj e he hb => ?_, fun _ _ _ h => h, fun _ h => h⟩
    have := List.all_eq_true.1 hcl j (List.mem_range.2 (Array.getElem?_eq_some_iff.1 hj).1)
    rw [hlj, hj] at this
    simp only [Bool.not_true, Bool.false_or] at this
    have := Array.all_eq_true'.1 this e he
    rw [hb] at this
    simpa using this
  exact wpAny_of_head (fun listed' a' hL => by rw [hL.1]; exact hL.2) _ _ _
    (wpAnyL_headH hsel hs hc hn (setAll ks listed) (fun j hj => by simpa using List.all_eq_true.1 hF j hj) ks l listed a hl rfl inv hh h)
end
section
variable {P : Program} {L : List Oper} {md : Region.Mode} {w : World}
/-- The same, with the region's operations as a list. -/
theorem wpAny_headLH {n : Nat} (ks : List Nat) (g : Nat) {l : List Oper} {listed : Array Bool} {a : Act} {Q : Exit → Act → World → Prop} (hB : regH md L.toArray n ks listed = true) (hl : Picks L ks l)
    (h : wpStill P L.toArray w (fun a' => wpAny P md L.toArray Q g (setAll ks listed) a' w) l a) : wpAny P md L.toArray Q (ks.length + g) listed a w :=
  wpAny_headH ks g hB ((get_toArray ks).trans hl.eq) h
end

/-! A region whose loads are taken first, since nobody writes their cells before the late operations (those from number n on) come up; behind a late operation nothing is asked of the world. -/
section
variable {P : Program} {ops : Array Oper} {Q : Exit → Act → World → Prop} {md : Region.Mode} {S : World → Prop}
def wpAnyE (P : Program) (md : Region.Mode) (ops : Array Oper) (Q : Exit → Act → World → Prop) (S : World → Prop) (n : Nat) : Nat → Array Bool → Act → World → Prop
  | 0, listed, a, w => Region.ready md ops listed = [] ∧ Q .normal a w
  | fuel + 1, listed, a, w =>
    (Region.ready md ops listed = [] → Q .normal a w) ∧
    ∀ i ∈ Region.ready md ops listed, wpOp P ops Q i (fun a' w' => (i < n → S w') ∧ wpAnyE P md ops Q S n fuel (listed.setIfInBounds i true) a' w') a w
theorem wpAny_of_E {n : Nat} : ∀ (fuel : Nat) (listed : Array Bool) (a : Act) (w : World), wpAnyE P md ops Q S n fuel listed a w → wpAny P md ops Q fuel listed a w
  | 0, _, _, _, h => h
  | fuel + 1, _, _, _, h => ⟨h.1, fun i hi => wpOp_mono (fun a' w' h' => wpAny_of_E fuel _ a' w' h'.2) (h.2 i hi)⟩
/-- What a listed operation waits for is listed. -/
def Closed (md : Region.Mode) (ops : Array Oper) (listed : Array Bool) : Prop := ∀ j oj, ops[j]? = some oj → listed.getD j false = true → ∀ e ∈ oj.after, Region.binds md e = true → listed.getD e.on false = true
theorem Closed.set {i : Nat} {listed : Array Bool} (h : Closed md ops listed) (hi : i ∈ Region.ready md ops listed) : Closed md ops (listed.setIfInBounds i true) := by
  obtain ⟨_, oi, hoi, hall⟩ := mem_ready.1 hi
  intro j oj hj hl e he hb
  by_cases hij : i = j
  · subst hij
    have : oj = oi := Option.some.inj (hj.symm.trans hoi)
    subst this
    exact getD_set_true (hall e he hb)
  · rw [getD_set_ne false hij] at hl
    exact getD_set_true (h j oj hj hl e he hb)
/-- Does one operation wait for another one, perhaps through others? -/
def waitsT (md : Region.Mode) (ops : Array Oper) : Nat → Nat → Nat → Bool
  | 0, _, _ => false
  | g + 1, z, i => Region.waitsFor md ops z i || (List.range z).any fun k => Region.waitsFor md ops z k && waitsT md ops g k i
theorem waitsT_block {listed : Array Bool} (hc : Closed md ops listed) {i : Nat} (hi : listed.getD i false = false) : ∀ (g z : Nat), waitsT md ops g z i = true → ∃ k, Region.waitsFor md ops z k = true ∧ listed.getD k false = false
  | 0, _, h => by cases h
  | g + 1, z, h => by
    unfold waitsT at h
    rw [Bool.or_eq_true] at h
    rcases h with h | h
    · exact ⟨i, h, hi⟩
    · obtain ⟨k, _, hk⟩ := List.any_eq_true.1 h
      rw [Bool.and_eq_true] at hk
      obtain ⟨k', h1, h2⟩ := waitsT_block hc hi g k hk.2
      refine ⟨k, hk.1, ?_⟩
      cases hl : listed.getD k false with
      | false => rfl
      | true =>
        obtain ⟨ok, hok, e, he, hb, hon⟩ := Region.waitsFor_spec h1
        have := hc k ok hok hl e he hb
        rw [hon, h2] at this
        cases this
theorem not_ready_of_waitsT {listed : Array Bool} (hc : Closed md ops listed) {i g z : Nat} (hi : listed.getD i false = false) (h : waitsT md ops g z i = true) : z ∉ Region.ready md ops listed := fun hr => by
  obtain ⟨k, h1, h2⟩ := waitsT_block hc hi g z h
  obtain ⟨_, oz, hoz, hall⟩ := mem_ready.1 hr
  obtain ⟨o', ho', e, he, hb, hon⟩ := Region.waitsFor_spec h1
  have : o' = oz := Option.some.inj (ho'.symm.trans hoz)
  subst this
  have h3 := hall e he hb
  rw [hon, h2] at h3
  cases h3
theorem wpAnyE_first {i n : Nat} {oi : Oper} {v : Value} (hi : ops[i]? = some oi) (hsel : ∀ (j : Nat) (o : Oper) cs b, ops[j]? = some o → o.op ≠ .select cs b)
    (hQ : ∀ c a w, Q (.panic c) (a.put oi.dst v) w → Q (.panic c) a w) (hz : ∀ z, n ≤ z → z < ops.size → waitsT md ops ops.size z i = true) :
    ∀ (fuel : Nat) (listed : Array Bool) (a : Act) (w : World), Closed md ops listed →
      (∀ j oj, ops[j]? = some oj → j ≠ i → listed.getD j true = false → (∀ e ∈ oj.after, Region.binds md e = true → e.on ≠ i) → oi.apart ops oj = true) →
      i ∈ Region.ready md ops listed → YieldsIf P ops S oi v a → S w →
      wpAnyE P md ops Q S n fuel (listed.setIfInBounds i true) (a.put oi.dst v) w → wpAnyE P md ops Q S n (fuel + 1) listed a w := by
  intro fuel
  induction fuel with
  | zero =>
    intro listed a w _ _ hr hy hS H
    refine ⟨fun h => (by rw [h] at hr; cases hr), fun j hj => ?_⟩
    by_cases hji : j = i
    · subst hji; exact hy.wpOp hi hS ⟨fun _ => hS, H⟩
    · have := ready_mono hj hji
      rw [H.1] at this
      cases this
  | succ fuel ih =>
    intro listed a w hcl hfree hr hy hS H
    refine ⟨fun h => (by rw [h] at hr; cases hr), fun j hj => ?_⟩
    by_cases hji : j = i
    · subst hji; exact hy.wpOp hi hS ⟨fun _ => hS, H⟩
    · have h1 := H.2 j (ready_mono hj hji)
      have hun := (mem_ready.1 hr).1
      have hjn : j < n := by
        rcases Nat.lt_or_ge j n with h | h
        · exact h
        · obtain ⟨_, oj, hoj, _⟩ := mem_ready.1 hj
          exact absurd hj (not_ready_of_waitsT hcl (getD_both hun) (hz j h (Array.getElem?_eq_some_iff.1 hoj).1))
      obtain ⟨hjun, oj, hoj, hall⟩ := mem_ready.1 hj
      have hnot : ∀ e ∈ oj.after, Region.binds md e = true → e.on ≠ i := fun e he hb heq => by
        have h1 := hall e he hb
        rw [heq, getD_both hun] at h1
        cases h1
      have h2 := wpOp_putIf hoj (hfree j oj hoj hji hjun hnot) (fun cs b => hsel i oi cs b hi) (fun cs b => hsel j oj cs b hoj) hQ hy h1
      have hfree' : ∀ k ok, ops[k]? = some ok → k ≠ i → (listed.setIfInBounds j true).getD k true = false →
          (∀ e ∈ ok.after, Region.binds md e = true → e.on ≠ i) → oi.apart ops ok = true := fun k ok hk hki hun hno => by
        refine hfree k ok hk hki ?_ hno
        by_cases hjk : j = k
        · subst hjk; exact hjun
        · rw [getD_set_ne true hjk] at hun; exact hun
      refine wpOp_mono (fun a' w' h3 => ⟨h3.2.1, ih (listed.setIfInBounds j true) a' w' (hcl.set hj) hfree' (ready_mono hr (Ne.symm hji)) h3.1 (h3.2.1 hjn) ?_⟩) h2
      rw [Array.setIfInBounds_comm _ _ hji]
      exact h3.2.2
/-- All that is asked of an operation that is taken first. -/
def takeE (md : Region.Mode) (ops : Array Oper) (n : Nat) (listed : Array Bool) (i : Nat) : Bool :=
  Region.noSelect ops && Region.free md ops listed i && (Region.ready md ops listed).contains i && closedG md ops listed && (List.range ops.size).all fun z => decide (z < n) || waitsT md ops ops.size z i
theorem wpAny_seqE {n : Nat} : ∀ (ks : List Nat) (l : List Oper) (listed : Array Bool) (a : Act) (w : World), (ks.map fun k => ops[k]?) = l.map some →
    seqG md ops ks listed = true → (ks.all fun k => decide (n ≤ k)) = true → wpList P ops Q l a w → wpAnyE P md ops Q S n ks.length listed a w
  | [], l, listed, a, w, hl, hB, _, h => by
    have : l = [] := by simpa using hl.symm
    subst this
    exact ⟨by simpa [seqG] using hB, h⟩
  | k :: ks, [], _, _, _, hl, _, _, _ => by simp at hl
  | k :: ks, o :: l, listed, a, w, hl, hB, hk, h => by
    simp only [List.map_cons, List.cons.injEq] at hl
    obtain ⟨h0, hl⟩ := hl
    simp only [seqG, Bool.and_eq_true, decide_eq_true_eq] at hB
    simp only [List.all_cons, Bool.and_eq_true, decide_eq_true_eq] at hk
    refine ⟨fun h1 => (by rw [hB.1] at h1; cases h1), fun i hi => ?_⟩
    rw [hB.1] at hi
    have hik : i = k := by simpa using hi
    subst hik
    have hw : wpOp P ops Q i (wpList P ops Q l) a w := by unfold wpOp; simp only [h0]; exact h
    exact wpOp_mono (fun a' w' h' => ⟨fun hlt => by have := hk.1; omega, wpAny_seqE ks l _ a' w' hl hB.2 hk.2 h'⟩) hw
end
section
variable {P : Program} {L : List Oper} {Q : Exit → Act → World → Prop} {md : Region.Mode} {S : World → Prop} {n fuel : Nat} {listed : Array Bool} {a : Act} {w : World}
theorem wp_region_E {id : Nat} (n : Nat) (S : World → Prop) (hm : P.follows .mixedOrders = true) (h : wpAnyE P .any L.toArray Q S n L.toArray.size (Array.replicate L.toArray.size false) a w.drew) : (Code.region id L.toArray true).wp P Q a w :=
  wp_region_any hm (wpAny_of_E _ _ _ _ h)
theorem wpAnyE_take {i : Nat} {oi : Oper} {v : Value} (hi : OpAt L i oi) (hB : takeE md L.toArray n listed i = true) (hQ : ∀ c a w, Q (.panic c) (a.put oi.dst v) w → Q (.panic c) a w) (hS : S w)
    (hw : Region.wanted oi (yielded L.toArray a.tmps) = true) (hv : ∀ w, S w → (execOp a.eval oi).run P w = .ok (.value v) w)
    (h : wpAnyE P md L.toArray Q S n fuel (listed.setIfInBounds i true) (a.put oi.dst v) w) : wpAnyE P md L.toArray Q S n (fuel + 1) listed a w := by
  simp only [takeE, Bool.and_eq_true] at hB
  obtain ⟨⟨⟨⟨hsel, hf⟩, hr⟩, hcl⟩, hz⟩ := hB
  have hi' : L.toArray[i]? = some oi := by simpa using hi.eq
  refine wpAnyE_first hi' (Region.noSelect_spec hsel) hQ (fun z h1 h2 => ?_) fuel listed a w (fun j oj hj hlj e he hb => ?_) (Region.free_spec hi' hf) (by simpa using hr) (Or.inl ⟨hw, hv⟩) hS h
  · have := List.all_eq_true.1 hz z (List.mem_range.2 h2)
    rw [Bool.or_eq_true] at this
    rcases this with h | h
    · simp only [decide_eq_true_eq] at h; omega
    · exact h
  · have := List.all_eq_true.1 hcl j (List.mem_range.2 (Array.getElem?_eq_some_iff.1 hj).1)
    rw [hlj, hj] at this
    simp only [Bool.not_true, Bool.false_or] at this
    have := Array.all_eq_true'.1 this e he
    rw [hb] at this
    simpa using this
/-- The one operation that may come up is carried out. -/
theorem wpAnyE_one {k : Nat} {o : Oper} (ho : OpAt L k o) (hr : Region.ready md L.toArray listed = [k])
    (h : ∀ K : Act → World → Prop, Shut (∀ a' w', (k < n → S w') → wpAnyE P md L.toArray Q S n fuel (listed.setIfInBounds k true) a' w' → K a' w') → if Region.wanted o (yielded L.toArray a.tmps) = true then Oper.wp P o a w K Q else K (a.put o.dst undef) w) :
    wpAnyE P md L.toArray Q S n (fuel + 1) listed a w := by
  refine ⟨fun h1 => (by rw [hr] at h1; cases h1), fun i hi => ?_⟩
  rw [hr] at hi
  have hik : i = k := by simpa using hi
  subst hik
  exact wpOp_step (by simpa using ho.eq) fun K hK => h K fun a' w' h1 h2 => hK a' w' ⟨h1, h2⟩
theorem wpAnyE_seq (ks : List Nat) {l : List Oper} (hl : Picks L ks l) (hB : seqG md L.toArray ks listed = true) (hk : (ks.all fun k => decide (n ≤ k)) = true) (h : wpList P L.toArray Q l a w) : wpAnyE P md L.toArray Q S n ks.length listed a w :=
  wpAny_seqE ks l listed a w ((get_toArray ks).trans hl.eq) hB hk h
end
end Wt

/- The walk of SecretsParity (printed by gen_law44.py). -/
namespace Wt
open Go Go.RowKit Go.Maps Go.Proofs Fm

theorem shl_raw (k a : Nat) (hk : k ≤ 4) (ha : 2 ^ k = a + 1) : IntKind.i64.wrap (IntKind.i64.wrap (2 ^ min (IntKind.u64.wrap ((k : Nat) : Int)).toNat 64) - 1) = (a : Int) := by
  obtain rfl : a = 2 ^ k - 1 := by omega
  rcases (show k = 0 ∨ k = 1 ∨ k = 2 ∨ k = 3 ∨ k = 4 by omega) with rfl | rfl | rfl | rfl | rfl <;> decide
set_option maxRecDepth 20000 in
set_option maxHeartbeats 8000000 in
theorem secretsParity_any (sz pt ct : Nat) (_h1 : sz ≤ 255) (h2 : pt ≤ 255) (h3 : ct ≤ 255) (w : World) (hT : Tab w) :
    Calls Tryz.prog 9 #[.int .u8 (sz : Int), .int .u8 (pt : Int), .int .u8 (ct : Int)] w fun e w' => e = .returned (.bool true) ∧ Ext w w' := by
  obtain ⟨r, hr⟩ : ∃ r, r = sz % 2 := ⟨_, rfl⟩
  have hr3 : r < 2 := by omega
  have hrI : (sz : Int) % 2 = (r : Int) := by omega
  obtain ⟨n, hnr⟩ : ∃ n, n = 2 + r := ⟨_, rfl⟩
  have hnI : 2 + (r : Int) = (n : Int) := by omega
  have HZ := Lib.hid (Sz.mk' n (by omega) (by omega))
  obtain ⟨a, ha⟩ : ∃ a, a = 2 ^ n - 1 := ⟨_, rfl⟩
  rw [← ha] at HZ
  have hn2 := HZ.out.n2
  have hn4 := HZ.out.n4
  have ha3 := HZ.out.lo
  have ha15 := HZ.out.hi
  have hpa := HZ.out.pw
  have h63 : n < 63 := by omega
  obtain ⟨hq1, hq2⟩ := pw_int hn4
  have haI : p2 n - 1 = (a : Int) := by unfold p2; omega
  have ha0 : ((a : Int) == 0) = false := by simp; omega
  have ha0' : ¬ ((a : Int) = 0) := by omega
  have hn3 : n ≤ 3 := by omega
  obtain ⟨p, hp⟩ : ∃ p, p = pt % (n + 1) := ⟨_, rfl⟩
  have hpI : (pt : Int).tmod ((n : Int) + 1) = (p : Int) := by rw [hp]; exact (Int.ofNat_tmod pt (n + 1)).symm
  have hpn : p ≤ n := by have := Nat.mod_lt pt (show 0 < n + 1 by omega); omega
  have hn10 : ((n : Int) + 1 == 0) = false := by simp; omega
  have hn10' : ¬ ((n : Int) + 1 = 0) := by omega
  obtain ⟨c, hc⟩ : ∃ c, c = ct % 2 ^ n := ⟨_, rfl⟩
  have hcI : (ct : Int).tmod (p2 n) = (c : Int) := by rw [hc]; exact (Int.ofNat_tmod ct (2 ^ n)).symm
  have hcn : c < 2 ^ n := by rw [hc]; exact Nat.mod_lt _ (by omega)
  have hp0 : (p2 n == 0) = false := by simp; omega
  have hp0' : ¬ (p2 n = 0) := by omega
  obtain ⟨y, hy⟩ : ∃ y, y = (p : Int) - 1 := ⟨_, rfl⟩
  have hyI : (p : Int) - 1 = y := hy.symm
  obtain ⟨pz, hpz⟩ : ∃ pz, pz = decide (1 ≤ p) := ⟨_, rfl⟩
  have hy0 : decide (y < 0) = !pz := by rw [hpz, hy]; by_cases h : 1 ≤ p <;> simp [h] <;> omega
  have hy1 : decide (0 ≤ y) = pz := by rw [hpz, hy]; by_cases h : 1 ≤ p <;> simp [h] <;> omega
  have hyb : -1 ≤ y ∧ y ≤ 3 := by omega
  have HSP := Lib.hid (fun W hT => Spoken_any n p c ⟨hn2, hn3⟩ hpn hcn W hT)
  obtain ⟨pl1, pl2, pl3, pl4⟩ := par_law ⟨hn2, hn3⟩ hpn hcn
  rw [← hpz] at pl2
  have hcg : (((2 ^ n : Nat) : Int) - 1) = (a : Int) := by omega
  rw [hcg] at pl3 pl4
  rw [hyI] at HSP
  obtain ⟨N, x, ok, -, hpx, -, -, -⟩ := okP_at (sp_ok ⟨hn2, hn3⟩ hpn hcn (Nat.le_refl _))
  have hwN := ok.worlds
  clear ok
  have HPF : Hid (paidF n p = if pz then someF n n else ccNot (someF n n)) := Lib.hid (by rw [hpz]; unfold paidF; by_cases h : p = 0 <;> simp [h] <;> omega)
  generalize spokeTo n p c n = P at *
  obtain ⟨⟨W, V, R⟩, px⟩ := P
  obtain rfl : W = (N : Int) := hwN
  obtain rfl : px = (x : Int) := hpx
  have HSY := Lib.hid (fun k hk W => says_any n k ⟨hn2, hn3⟩ hk W)
  have HAS : Hid (∀ k, k < n → ∀ W va ra vc rc a1 c1, RM W va ra ⟨(N : Int), V, R⟩ → RN W a1 (sayF n k) → Calls Tryz.prog 34 #[.agg #[.int .i64 (N : Int), .slice va V.length vc, .slice ra R.length rc], .int .i64 (x : Int), .slice a1 (sayF n k).length c1] W fun e w' => RetP (.bool (atOf ⟨(N : Int), V, R⟩ (x : Int) (sayF n k))) 0 e W w') := Lib.hid fun k hk W va ra vc rc a1 c1 hm hf => by
    have h := at_any ⟨(N : Int), V, R⟩ va ra vc rc (x : Int) a1 c1 _ W hm hf
    rw [pl1 k hk] at h
    exact h
  have HOD : Hid (∀ k, oddTo n (⟨(N : Int), V, R⟩, (x : Int)) (k + 1) = (oddTo n (⟨(N : Int), V, R⟩, (x : Int)) k != atOf ⟨(N : Int), V, R⟩ (x : Int) (sayF n k))) := Lib.hid fun k => rfl
  have HO0 : Hid (oddTo n (⟨(N : Int), V, R⟩, (x : Int)) 0 = false) := Lib.hid rfl
  have HON : Hid (oddTo n (⟨(N : Int), V, R⟩, (x : Int)) n = pz) := Lib.hid pl2
  have HSM : Hid (∀ k, someF n (k + 1) = ccOr (someF n k) (ccFact (k : Int))) := Lib.hid fun k => rfl
  have HS0 : Hid (someF n 0 = ccFalse) := Lib.hid rfl
  have HFF : Hid (∀ w, Calls Tryz.prog 37 #[] w fun e w' => RetN ccFalse e w w') := Lib.hid fun w => cFalse_any w
  have HTR : Hid (∀ w, Calls Tryz.prog 36 #[] w fun e w' => RetN ccTrue e w w') := Lib.hid fun w => cTrue_any w
  have HCO : Hid (∀ W a1 c1 a2 c2, RN W a1 ccTrue → RN W a2 (paidF n p) → Calls Tryz.prog 35 #[.int .i64 (a : Int), .slice a1 ccTrue.length c1, .slice a2 (paidF n p).length c2] W fun e w' => RetN (fB ⟨13, 0, 0, (a : Int), 0, 0⟩ [ccTrue, paidF n p]) e W w') := Lib.hid fun W a1 c1 a2 c2 r1 r2 => cCommon_any (a : Int) a1 c1 ccTrue a2 c2 (paidF n p) W r1 r2
  have HAT : Hid (∀ W va ra vc rc a1 c1, RM W va ra ⟨(N : Int), V, R⟩ → RN W a1 (fB ⟨13, 0, 0, (a : Int), 0, 0⟩ [ccTrue, paidF n p]) → Calls Tryz.prog 34 #[.agg #[.int .i64 (N : Int), .slice va V.length vc, .slice ra R.length rc], .int .i64 (x : Int), .slice a1 (fB ⟨13, 0, 0, (a : Int), 0, 0⟩ [ccTrue, paidF n p]).length c1] W fun e w' => RetP (.bool true) 0 e W w') := Lib.hid fun W va ra vc rc a1 c1 hm hf => by
    have h := at_any ⟨(N : Int), V, R⟩ va ra vc rc (x : Int) a1 c1 _ W hm hf
    rw [pl3, pl4] at h
    exact h
  generalize fB ⟨13, 0, 0, (a : Int), 0, 0⟩ [ccTrue, paidF n p] = CF at *
  generalize paidF n p = PF at *
  generalize ccTrue = TF at *
  generalize ccFalse = FL at *
  have HNT : Hid (∀ W a1 c1 F, RN W a1 F → Calls Tryz.prog 40 #[.slice a1 F.length c1] W fun e w' => RetN (ccNot F) e W w') := Lib.hid fun W a1 c1 F h => cNot_any a1 c1 F W h
  have HOR : Hid (∀ W a1 c1 a2 c2 F G, RN W a1 F → RN W a2 G → Calls Tryz.prog 38 #[.slice a1 F.length c1, .slice a2 G.length c2] W fun e w' => RetN (ccOr F G) e W w') := Lib.hid fun W a1 c1 a2 c2 F G h1 h2 => cOr_any a1 c1 F a2 c2 G W h1 h2
  have HFC : Hid (∀ (k : Nat) W, Calls Tryz.prog 39 #[.int .i64 (k : Int)] W fun e w' => RetN (ccFact (k : Int)) e W w') := Lib.hid fun k W => cFact_any (k : Int) W
  have HRAW0 := Lib.hid (shl_raw n a hn4 hpa)
  have HT := Lib.hid hT
  clear hT hc hp hpz hy ha hnr hr hpa HZ pl1 pl2 pl3 pl4 hcg
  go_enter Tryz.func9, Tryz.ntmps9
  go_wp2_with fail
  go_quiet (fail)
  go_wp2_with fail
  refine (HSP.out _ (HT.out.ext ((Ext.refl w).drewN _))).mono ?_
  rintro _ w1 ⟨va, ra, vc, rc, rfl, hk1, hE1⟩
  have hA1 : Ext w1 (w1.alloc (.cells #[.int .i64 (N : Int), .slice va V.length vc, .slice ra R.length rc] 25)) := (Ext.refl w1).alloc _
  have HO1 := Lib.hid (OutAt.new w1 (.int .i64 (N : Int)) (.slice va V.length vc) (.slice ra R.length rc) 25)
  have HM1 := Lib.hid (hk1 _ (Agree.ofExt hA1))
  have HE1 := Lib.hid (((Ext.refl w).drewN nq).trans (hE1.trans hA1))
  clear hk1 hE1 hA1
  dsimp only
  go_wp2_with fail
  generalize w1.alloc (.cells #[.int .i64 (N : Int), .slice va V.length vc, .slice ra R.length rc] 25) = w2 at *
  refine (HFF.out _).mono ?_
  rintro _ w3 ⟨a3, c3, rfl, hr3f, hE3⟩
  have HR3 := Lib.hid hr3f
  have HE3 := Lib.hid hE3
  clear hr3f hE3
  dsimp only
  go_wp2_with fail
  have HAI := Lib.hid haI
  have HRAW := HRAW0
  clear hrI hnI hpI haI hcI hyI
  go_loopw [13, 14, 50] (fun s13 s14 i wr => ∃ k : Nat, k ≤ n ∧ i = .int .i64 (k : Int) ∧ s14 = .bool (oddTo n (⟨(N : Int), V, R⟩, (x : Int)) k) ∧ (∃ sa sc, s13 = .slice sa (someF n k).length sc ∧ Hid (RN wr sa (someF n k))) ∧ Hid (Ext w2 wr)) (fun _ _ i _ => n - (intOf i).toNat)
  case atStart => exact ⟨0, Nat.zero_le _, rfl, by rw [HO0.out], ⟨a3, c3, by rw [HS0.out], by rw [HS0.out]; exact HR3⟩, HE3⟩
  case round =>
    obtain ⟨k, hk, rfl, rfl, ⟨sa, sc, rfl, HRS⟩, HER⟩ := hrel
    have HKP : Hid (∀ w', Ext wr w' → w'.cell? ⟨w1.heap.size, 0, none⟩ = some (.int .i64 (N : Int)) ∧ w'.cell? ⟨w1.heap.size, 1, none⟩ = some (.slice va V.length vc) ∧ w'.cell? ⟨w1.heap.size, 2, none⟩ = some (.slice ra R.length rc)) := Lib.hid fun w' e => by
      obtain ⟨c0, c1, c2, -⟩ := HO1.out.ext (HER.out.trans e)
      exact ⟨c0, c1, c2⟩
    have HRM : Hid (∀ W, Ext wr W → RM W va ra ⟨(N : Int), V, R⟩) := Lib.hid fun W e => HM1.out.ext' (HER.out.trans e)
    by_cases hlt : k < n
    · have HSK := Lib.hid (HSM.out k)
      have HOK := Lib.hid (HOD.out k)
      have HAK := Lib.hid (HAS.out k hlt)
      have HYK := Lib.hid (HSY.out k hlt)
      have HFK := Lib.hid (HFC.out k)
      generalize someF n k = SF at *
      generalize sayF n k = SY at *
      generalize ccFact (k : Int) = FK at *
      generalize atOf ⟨(N : Int), V, R⟩ (x : Int) SY = yk at *
      generalize oddTo n (⟨(N : Int), V, R⟩, (x : Int)) k = od at *
      go_wp2_with fail
      refine (HFK.out _).mono ?_
      rintro _ w4 ⟨a4, c4, rfl, h4, hE4⟩
      dsimp only
      go_wp2_with fail
      refine (HOR.out _ sa sc a4 c4 SF FK (HRS.out.ext hE4) h4).mono ?_
      rintro _ w5 ⟨a5, c5, rfl, h5, hE5⟩
      dsimp only
      go_wp2_with fail
      refine (HYK.out _).mono ?_
      rintro _ w6 ⟨a6, c6, rfl, h6, hE6⟩
      have HE46 := Lib.hid (hE4.trans (hE5.trans hE6))
      obtain ⟨m0, m1, m2⟩ := HKP.out w6 HE46.out
      have ml := World.block_lt_of_cell? _ _ m0
      dsimp only
      go_wp2_with fail
      refine (HAK.out _ va ra vc rc a6 c6 (HRM.out _ HE46.out) h6).mono ?_
      rintro _ w7 ⟨rfl, hE7⟩
      have HR5 := Lib.hid ((h5.ext hE6).ext hE7)
      clear m0 m1 m2 ml h4 h5 h6
      have HE47 := Lib.hid (HER.out.trans (HE46.out.trans hE7))
      clear hE4 hE5 hE6 hE7
      dsimp only
      have hxo : Hid ((od != yk) = (od != yk)) := Lib.hid rfl
      cases od <;> cases yk
      all_goals
        go_wp2_with fail
        go_roundw
        case rel => exact ⟨k + 1, hlt, by go_num, by rw [HOK.out]; rfl, ⟨a5, c5, by rw [HSK.out], by rw [HSK.out]; exact HR5⟩, HE47⟩
        case measure => simp [intOf]; omega
    · obtain rfl : k = n := by omega
      rw [HON.out]
      generalize someF k k = SF at *
      cases pz
      · obtain rfl : PF = ccNot SF := by have h := HPF.out; simpa using h
        go_wp2_with fail
        refine (HNT.out _ sa sc SF HRS.out).mono ?_
        rintro _ w5 ⟨a5, c5, rfl, h5, hE5⟩
        have HR5 := Lib.hid h5
        have HE5 := Lib.hid hE5
        clear h5 hE5
        dsimp only
        generalize ccNot SF = PF at *
        have HKQ : Hid (∀ w', Ext w5 w' → w'.cell? ⟨w1.heap.size, 0, none⟩ = some (.int .i64 (N : Int)) ∧ w'.cell? ⟨w1.heap.size, 1, none⟩ = some (.slice va V.length vc) ∧ w'.cell? ⟨w1.heap.size, 2, none⟩ = some (.slice ra R.length rc)) := Lib.hid fun w' e => HKP.out w' (HE5.out.trans e)
        have HRQ : Hid (∀ W, Ext w5 W → RM W va ra ⟨(N : Int), V, R⟩) := Lib.hid fun W e => HRM.out W (HE5.out.trans e)
        have HFQ : Hid (∀ W, Ext w5 W → RN W a5 PF) := Lib.hid fun W e => HR5.out.ext e
        obtain ⟨m0, m1, m2⟩ := HKQ.out w5 (Ext.refl _)
        have ml := World.block_lt_of_cell? _ _ m0
        have haI := HAI.out
        go_upto_region 20 with fail
        have HSS : Hid (∀ w', Ext (World.drew w5) w' → w'.cell? ⟨w1.heap.size, 0, none⟩ = some (.int .i64 (N : Int)) ∧ w'.cell? ⟨w1.heap.size, 1, none⟩ = some (.slice va V.length vc) ∧ w'.cell? ⟨w1.heap.size, 2, none⟩ = some (.slice ra R.length rc)) := Lib.hid fun w' e => HKQ.out w' ((Ext.refl w5).drew.trans e)
        have HRD : Hid (∀ W, Ext (World.drew w5) W → RM W va ra ⟨(N : Int), V, R⟩) := Lib.hid fun W e => HRQ.out W ((Ext.refl w5).drew.trans e)
        have HFD : Hid (∀ W, Ext (World.drew w5) W → RN W a5 PF) := Lib.hid fun W e => HFQ.out W ((Ext.refl w5).drew.trans e)
        have HEF : Hid (Ext w (World.drew w5)) := Lib.hid (HE1.out.trans (HER.out.trans (HE5.out.trans (Ext.refl w5).drew)))
        clear m0 m1 m2 ml HKP HRM HKQ HRQ HFQ
        refine wp_region_E 15 (fun w' => w'.cell? ⟨w1.heap.size, 0, none⟩ = some (.int .i64 (N : Int)) ∧ w'.cell? ⟨w1.heap.size, 1, none⟩ = some (.slice va V.length vc) ∧ w'.cell? ⟨w1.heap.size, 2, none⟩ = some (.slice ra R.length rc)) (by kernel_rfl) ?_
        generalize World.drew w5 = wd at *
        refine wpAnyE_take (i := 0) (v := ?_) (.here) (by kernel_rfl) (fun _ _ _ h => h) (HSS.out _ (Ext.refl _)) (by rfl) ?_ ?_
        rotate_left
        focus (intro w hSw; (try dsimp only at hSw); go_simp; try with_reducible rfl)
        try simp only [Act.put, List.setIfInBounds_toArray, List.set_cons_zero, List.set_cons_succ]
        refine wpAnyE_take (i := 1) (v := ?_) (.next (.here)) (by kernel_rfl) (fun _ _ _ h => h) (HSS.out _ (Ext.refl _)) (by rfl) ?_ ?_
        rotate_left
        focus (intro w hSw; (try dsimp only at hSw); go_simp; try with_reducible rfl)
        try simp only [Act.put, List.setIfInBounds_toArray, List.set_cons_zero, List.set_cons_succ]
        refine wpAnyE_take (i := 2) (v := ?_) (.next (.next (.here))) (by kernel_rfl) (fun _ _ _ h => h) (HSS.out _ (Ext.refl _)) (by rfl) ?_ ?_
        rotate_left
        focus (intro w hSw; (try dsimp only at hSw); go_simp; try with_reducible rfl)
        try simp only [Act.put, List.setIfInBounds_toArray, List.set_cons_zero, List.set_cons_succ]
        refine wpAnyE_take (i := 3) (v := ?_) (.next (.next (.next (.here)))) (by kernel_rfl) (fun _ _ _ h => h) (HSS.out _ (Ext.refl _)) (by rfl) ?_ ?_
        rotate_left
        focus (intro w hSw; (try dsimp only at hSw); go_simp; try with_reducible rfl)
        try simp only [Act.put, List.setIfInBounds_toArray, List.set_cons_zero, List.set_cons_succ]
        refine wpAnyE_take (i := 4) (v := ?_) (.next (.next (.next (.next (.here))))) (by kernel_rfl) (fun _ _ _ h => h) (HSS.out _ (Ext.refl _)) (by rfl) ?_ ?_
        rotate_left
        focus (intro w hSw; (try dsimp only at hSw); go_simp; try with_reducible rfl)
        try simp only [Act.put, List.setIfInBounds_toArray, List.set_cons_zero, List.set_cons_succ]
        refine wpAnyE_take (i := 5) (v := ?_) (.next (.next (.next (.next (.next (.here)))))) (by kernel_rfl) (fun _ _ _ h => h) (HSS.out _ (Ext.refl _)) (by rfl) ?_ ?_
        rotate_left
        focus (intro w hSw; (try dsimp only at hSw); go_simp; try with_reducible rfl)
        try simp only [Act.put, List.setIfInBounds_toArray, List.set_cons_zero, List.set_cons_succ]
        refine wpAnyE_take (i := 7) (v := ?_) (.next (.next (.next (.next (.next (.next (.next (.here)))))))) (by kernel_rfl) (fun _ _ _ h => h) (HSS.out _ (Ext.refl _)) (by rfl) ?_ ?_
        rotate_left
        focus (intro w hSw; (try dsimp only at hSw); go_simp; try with_reducible rfl)
        try simp only [Act.put, List.setIfInBounds_toArray, List.set_cons_zero, List.set_cons_succ]
        rw [HRAW.out]
        refine wpAnyE_one (k := 6) (.next (.next (.next (.next (.next (.next (.here))))))) (by kernel_rfl) (fun K hK => ?_)
        go_simp
        refine (HTR.out _).mono ?_; rintro _ wt ⟨ta, tc, rfl, hrt, hYt⟩; dsimp only
        refine hK.out _ _ (fun _ => HSS.out _ hYt) ?_
        clear hK
        try simp only [Act.put, List.setIfInBounds_toArray, List.set_cons_zero, List.set_cons_succ]
        refine wpAnyE_one (k := 8) (.next (.next (.next (.next (.next (.next (.next (.next (.here))))))))) (by kernel_rfl) (fun K hK => ?_)
        go_simp
        refine (HCO.out _ _ _ _ _ hrt (HFD.out _ hYt)).mono ?_; rintro _ wk ⟨da, dc, rfl, hrd, hYd⟩; dsimp only
        refine hK.out _ _ (fun _ => HSS.out _ (hYt.trans hYd)) ?_
        clear hK
        try simp only [Act.put, List.setIfInBounds_toArray, List.set_cons_zero, List.set_cons_succ]
        refine wpAnyE_one (k := 9) (.next (.next (.next (.next (.next (.next (.next (.next (.next (.here)))))))))) (by kernel_rfl) (fun K hK => ?_)
        go_simp
        refine (HAT.out _ _ _ _ _ _ _ (HRD.out _ (hYt.trans hYd)) hrd).mono ?_; rintro _ wv ⟨rfl, hYv⟩; dsimp only
        refine hK.out _ _ (fun _ => HSS.out _ ((hYt.trans hYd).trans hYv)) ?_
        clear hK
        try simp only [Act.put, List.setIfInBounds_toArray, List.set_cons_zero, List.set_cons_succ]
        refine wpAnyE_take (i := 10) (v := ?_) (.next (.next (.next (.next (.next (.next (.next (.next (.next (.next (.here))))))))))) (by kernel_rfl) (fun _ _ _ h => h) (HSS.out _ ((hYt.trans hYd).trans hYv)) (by rfl) ?_ ?_
        rotate_left
        focus (intro w hSw; (try dsimp only at hSw); go_simp; try with_reducible rfl)
        try simp only [Act.put, List.setIfInBounds_toArray, List.set_cons_zero, List.set_cons_succ]
        refine wpAnyE_take (i := 11) (v := ?_) (.next (.next (.next (.next (.next (.next (.next (.next (.next (.next (.next (.here)))))))))))) (by kernel_rfl) (fun _ _ _ h => h) (HSS.out _ ((hYt.trans hYd).trans hYv)) (by rfl) ?_ ?_
        rotate_left
        focus (intro w hSw; (try dsimp only at hSw); go_simp; try with_reducible rfl)
        try simp only [Act.put, List.setIfInBounds_toArray, List.set_cons_zero, List.set_cons_succ]
        refine wpAnyE_take (i := 12) (v := ?_) (.next (.next (.next (.next (.next (.next (.next (.next (.next (.next (.next (.next (.here))))))))))))) (by kernel_rfl) (fun _ _ _ h => h) (HSS.out _ ((hYt.trans hYd).trans hYv)) (by rfl) ?_ ?_
        rotate_left
        focus (intro w hSw; (try dsimp only at hSw); go_simp; try with_reducible rfl)
        try simp only [Act.put, List.setIfInBounds_toArray, List.set_cons_zero, List.set_cons_succ]
        refine wpAnyE_one (k := 13) (.next (.next (.next (.next (.next (.next (.next (.next (.next (.next (.next (.next (.next (.here)))))))))))))) (by kernel_rfl) (fun K hK => ?_)
        go_simp
        refine hK.out _ _ (fun _ => HSS.out _ ((hYt.trans hYd).trans hYv)) ?_
        clear hK
        try simp only [Act.put, List.setIfInBounds_toArray, List.set_cons_zero, List.set_cons_succ]
        refine wpAnyE_one (k := 14) (.next (.next (.next (.next (.next (.next (.next (.next (.next (.next (.next (.next (.next (.next (.here))))))))))))))) (by kernel_rfl) (fun K hK => ?_)
        go_simp
        refine hK.out _ _ (fun _ => HSS.out _ ((hYt.trans hYd).trans hYv)) ?_
        clear hK
        try simp only [Act.put, List.setIfInBounds_toArray, List.set_cons_zero, List.set_cons_succ]
        refine wpAnyE_seq [] (.nil) (by kernel_rfl) (by kernel_rfl) ?_
        go_wp2_with fail
        refine (awake44_any _ (HT.out.ext (HEF.out.trans ((hYt.trans hYd).trans hYv)))).mono ?_
        rintro _ w8 ⟨rfl, hE8⟩
        dsimp only
        go_wp2_with fail
        go_ret
        exact ⟨rfl, (HEF.out.trans ((hYt.trans hYd).trans hYv)).trans hE8⟩
      · obtain rfl : PF = SF := by have h := HPF.out; simpa using h
        have HKQ : Hid (∀ w', Ext wr w' → w'.cell? ⟨w1.heap.size, 0, none⟩ = some (.int .i64 (N : Int)) ∧ w'.cell? ⟨w1.heap.size, 1, none⟩ = some (.slice va V.length vc) ∧ w'.cell? ⟨w1.heap.size, 2, none⟩ = some (.slice ra R.length rc)) := Lib.hid fun w' e => HKP.out w' ((Ext.refl wr).trans e)
        have HRQ : Hid (∀ W, Ext wr W → RM W va ra ⟨(N : Int), V, R⟩) := Lib.hid fun W e => HRM.out W ((Ext.refl wr).trans e)
        have HFQ : Hid (∀ W, Ext wr W → RN W sa PF) := Lib.hid fun W e => HRS.out.ext e
        obtain ⟨m0, m1, m2⟩ := HKQ.out wr (Ext.refl _)
        have ml := World.block_lt_of_cell? _ _ m0
        have haI := HAI.out
        go_upto_region 20 with fail
        have HSS : Hid (∀ w', Ext (World.drew wr) w' → w'.cell? ⟨w1.heap.size, 0, none⟩ = some (.int .i64 (N : Int)) ∧ w'.cell? ⟨w1.heap.size, 1, none⟩ = some (.slice va V.length vc) ∧ w'.cell? ⟨w1.heap.size, 2, none⟩ = some (.slice ra R.length rc)) := Lib.hid fun w' e => HKQ.out w' ((Ext.refl wr).drew.trans e)
        have HRD : Hid (∀ W, Ext (World.drew wr) W → RM W va ra ⟨(N : Int), V, R⟩) := Lib.hid fun W e => HRQ.out W ((Ext.refl wr).drew.trans e)
        have HFD : Hid (∀ W, Ext (World.drew wr) W → RN W sa PF) := Lib.hid fun W e => HFQ.out W ((Ext.refl wr).drew.trans e)
        have HEF : Hid (Ext w (World.drew wr)) := Lib.hid (HE1.out.trans (HER.out.trans ((Ext.refl wr).trans (Ext.refl wr).drew)))
        clear m0 m1 m2 ml HKP HRM HKQ HRQ HFQ
        refine wp_region_E 15 (fun w' => w'.cell? ⟨w1.heap.size, 0, none⟩ = some (.int .i64 (N : Int)) ∧ w'.cell? ⟨w1.heap.size, 1, none⟩ = some (.slice va V.length vc) ∧ w'.cell? ⟨w1.heap.size, 2, none⟩ = some (.slice ra R.length rc)) (by kernel_rfl) ?_
        generalize World.drew wr = wd at *
        refine wpAnyE_take (i := 0) (v := ?_) (.here) (by kernel_rfl) (fun _ _ _ h => h) (HSS.out _ (Ext.refl _)) (by rfl) ?_ ?_
        rotate_left
        focus (intro w hSw; (try dsimp only at hSw); go_simp; try with_reducible rfl)
        try simp only [Act.put, List.setIfInBounds_toArray, List.set_cons_zero, List.set_cons_succ]
        refine wpAnyE_take (i := 1) (v := ?_) (.next (.here)) (by kernel_rfl) (fun _ _ _ h => h) (HSS.out _ (Ext.refl _)) (by rfl) ?_ ?_
        rotate_left
        focus (intro w hSw; (try dsimp only at hSw); go_simp; try with_reducible rfl)
        try simp only [Act.put, List.setIfInBounds_toArray, List.set_cons_zero, List.set_cons_succ]
        refine wpAnyE_take (i := 2) (v := ?_) (.next (.next (.here))) (by kernel_rfl) (fun _ _ _ h => h) (HSS.out _ (Ext.refl _)) (by rfl) ?_ ?_
        rotate_left
        focus (intro w hSw; (try dsimp only at hSw); go_simp; try with_reducible rfl)
        try simp only [Act.put, List.setIfInBounds_toArray, List.set_cons_zero, List.set_cons_succ]
        refine wpAnyE_take (i := 3) (v := ?_) (.next (.next (.next (.here)))) (by kernel_rfl) (fun _ _ _ h => h) (HSS.out _ (Ext.refl _)) (by rfl) ?_ ?_
        rotate_left
        focus (intro w hSw; (try dsimp only at hSw); go_simp; try with_reducible rfl)
        try simp only [Act.put, List.setIfInBounds_toArray, List.set_cons_zero, List.set_cons_succ]
        refine wpAnyE_take (i := 4) (v := ?_) (.next (.next (.next (.next (.here))))) (by kernel_rfl) (fun _ _ _ h => h) (HSS.out _ (Ext.refl _)) (by rfl) ?_ ?_
        rotate_left
        focus (intro w hSw; (try dsimp only at hSw); go_simp; try with_reducible rfl)
        try simp only [Act.put, List.setIfInBounds_toArray, List.set_cons_zero, List.set_cons_succ]
        refine wpAnyE_take (i := 5) (v := ?_) (.next (.next (.next (.next (.next (.here)))))) (by kernel_rfl) (fun _ _ _ h => h) (HSS.out _ (Ext.refl _)) (by rfl) ?_ ?_
        rotate_left
        focus (intro w hSw; (try dsimp only at hSw); go_simp; try with_reducible rfl)
        try simp only [Act.put, List.setIfInBounds_toArray, List.set_cons_zero, List.set_cons_succ]
        refine wpAnyE_take (i := 7) (v := ?_) (.next (.next (.next (.next (.next (.next (.next (.here)))))))) (by kernel_rfl) (fun _ _ _ h => h) (HSS.out _ (Ext.refl _)) (by rfl) ?_ ?_
        rotate_left
        focus (intro w hSw; (try dsimp only at hSw); go_simp; try with_reducible rfl)
        try simp only [Act.put, List.setIfInBounds_toArray, List.set_cons_zero, List.set_cons_succ]
        rw [HRAW.out]
        refine wpAnyE_one (k := 6) (.next (.next (.next (.next (.next (.next (.here))))))) (by kernel_rfl) (fun K hK => ?_)
        go_simp
        refine (HTR.out _).mono ?_; rintro _ wt ⟨ta, tc, rfl, hrt, hYt⟩; dsimp only
        refine hK.out _ _ (fun _ => HSS.out _ hYt) ?_
        clear hK
        try simp only [Act.put, List.setIfInBounds_toArray, List.set_cons_zero, List.set_cons_succ]
        refine wpAnyE_one (k := 8) (.next (.next (.next (.next (.next (.next (.next (.next (.here))))))))) (by kernel_rfl) (fun K hK => ?_)
        go_simp
        refine (HCO.out _ _ _ _ _ hrt (HFD.out _ hYt)).mono ?_; rintro _ wk ⟨da, dc, rfl, hrd, hYd⟩; dsimp only
        refine hK.out _ _ (fun _ => HSS.out _ (hYt.trans hYd)) ?_
        clear hK
        try simp only [Act.put, List.setIfInBounds_toArray, List.set_cons_zero, List.set_cons_succ]
        refine wpAnyE_one (k := 9) (.next (.next (.next (.next (.next (.next (.next (.next (.next (.here)))))))))) (by kernel_rfl) (fun K hK => ?_)
        go_simp
        refine (HAT.out _ _ _ _ _ _ _ (HRD.out _ (hYt.trans hYd)) hrd).mono ?_; rintro _ wv ⟨rfl, hYv⟩; dsimp only
        refine hK.out _ _ (fun _ => HSS.out _ ((hYt.trans hYd).trans hYv)) ?_
        clear hK
        try simp only [Act.put, List.setIfInBounds_toArray, List.set_cons_zero, List.set_cons_succ]
        refine wpAnyE_take (i := 10) (v := ?_) (.next (.next (.next (.next (.next (.next (.next (.next (.next (.next (.here))))))))))) (by kernel_rfl) (fun _ _ _ h => h) (HSS.out _ ((hYt.trans hYd).trans hYv)) (by rfl) ?_ ?_
        rotate_left
        focus (intro w hSw; (try dsimp only at hSw); go_simp; try with_reducible rfl)
        try simp only [Act.put, List.setIfInBounds_toArray, List.set_cons_zero, List.set_cons_succ]
        refine wpAnyE_take (i := 11) (v := ?_) (.next (.next (.next (.next (.next (.next (.next (.next (.next (.next (.next (.here)))))))))))) (by kernel_rfl) (fun _ _ _ h => h) (HSS.out _ ((hYt.trans hYd).trans hYv)) (by rfl) ?_ ?_
        rotate_left
        focus (intro w hSw; (try dsimp only at hSw); go_simp; try with_reducible rfl)
        try simp only [Act.put, List.setIfInBounds_toArray, List.set_cons_zero, List.set_cons_succ]
        refine wpAnyE_take (i := 12) (v := ?_) (.next (.next (.next (.next (.next (.next (.next (.next (.next (.next (.next (.next (.here))))))))))))) (by kernel_rfl) (fun _ _ _ h => h) (HSS.out _ ((hYt.trans hYd).trans hYv)) (by rfl) ?_ ?_
        rotate_left
        focus (intro w hSw; (try dsimp only at hSw); go_simp; try with_reducible rfl)
        try simp only [Act.put, List.setIfInBounds_toArray, List.set_cons_zero, List.set_cons_succ]
        refine wpAnyE_one (k := 13) (.next (.next (.next (.next (.next (.next (.next (.next (.next (.next (.next (.next (.next (.here)))))))))))))) (by kernel_rfl) (fun K hK => ?_)
        go_simp
        refine hK.out _ _ (fun _ => HSS.out _ ((hYt.trans hYd).trans hYv)) ?_
        clear hK
        try simp only [Act.put, List.setIfInBounds_toArray, List.set_cons_zero, List.set_cons_succ]
        refine wpAnyE_one (k := 14) (.next (.next (.next (.next (.next (.next (.next (.next (.next (.next (.next (.next (.next (.next (.here))))))))))))))) (by kernel_rfl) (fun K hK => ?_)
        go_simp
        refine hK.out _ _ (fun _ => HSS.out _ ((hYt.trans hYd).trans hYv)) ?_
        clear hK
        try simp only [Act.put, List.setIfInBounds_toArray, List.set_cons_zero, List.set_cons_succ]
        refine wpAnyE_seq [] (.nil) (by kernel_rfl) (by kernel_rfl) ?_
        go_wp2_with fail
        refine (awake44_any _ (HT.out.ext (HEF.out.trans ((hYt.trans hYd).trans hYv)))).mono ?_
        rintro _ w8 ⟨rfl, hE8⟩
        dsimp only
        go_wp2_with fail
        go_ret
        exact ⟨rfl, (HEF.out.trans ((hYt.trans hYd).trans hYv)).trans hE8⟩
theorem secretsParity_int (s v c : Int) (bs : 0 ≤ s ∧ s ≤ 255) (bv : 0 ≤ v ∧ v ≤ 255) (bc : 0 ≤ c ∧ c ≤ 255) (w : World) (hT : Tab w) :
    Calls Tryz.prog 9 #[.int .u8 s, .int .u8 v, .int .u8 c] w fun e w' => e = .returned (.bool true) ∧ Ext w w' := by
  obtain ⟨s, rfl⟩ := Int.eq_ofNat_of_zero_le bs.1
  obtain ⟨v, rfl⟩ := Int.eq_ofNat_of_zero_le bv.1
  obtain ⟨c, rfl⟩ := Int.eq_ofNat_of_zero_le bc.1
  exact secretsParity_any s v c (by omega) (by omega) (by omega) w hT
end Wt

/- The law SecretsParity returns true at every input, and its arguments read behind the call as they did before. the tied card: the library's table of TrailingZeros64 lies as the program's text lays it. -/
namespace Go.Proofs.YtflnfcmbalhpnaaGreatDoor
open Go.ChangeShapes Go.WideShapes Go.ChangeAt Go.WideMaps Go.WideElems Go.RowKit

theorem own : ownKnob Tryz.prog.godebug = none := by kernel_rfl
theorem laidOut : laidOutB Tryz.prog = true := by kernel_rfl
theorem door_met (os : Os) (args : Array Value) : laidMetH Tryz.prog [("math/bits.deBruijn64tab", Rows.laid_math_bits_deBruijn64tab)] ((World.doorLaid Tryz.prog 400 os).forCall (fun _ _ => 0) ⟨#[], args, []⟩).memory := by
  rw [MakeChecks.laidMetH_plain _ _ _ (by kernel_rfl)]
  exact laidMet_of_run' 8 (by kernel_rfl) (by kernel_rfl)
set_option maxRecDepth 100000 in
set_option maxHeartbeats 1000000 in
theorem law_lifted (os : Os) (started : os.Started) (H : Type) (enc : TypeId × Value → H) :
    ReturnsInHanded {} Tryz.checked os 9 .any (fun w args => (Rows.secretsParitySpec.pre enc Tryz.prog Tryz.f9 Rows.secretsParityRow.domain false w args ∧ laidMetH Tryz.prog [("math/bits.deBruijn64tab", Rows.laid_math_bits_deBruijn64tab)] w) ∧ sizedMet enc Tryz.prog Tryz.f9 (OpenSpec.ofChange Rows.secretsParitySpec) false w args)
      (Rows.secretsParitySpec.post enc Tryz.prog Tryz.f9 false true false false) := by
  refine returnsInHanded_of_change_and (C := Tryz.checked) (X := fun w _ => laidMetH Tryz.prog [("math/bits.deBruijn64tab", Rows.laid_math_bits_deBruijn64tab)] w) (fun _ _ _ hh h => h.of_heap hh) own started (by kernel_rfl) Tryz.func9
    (ChangeSpec.witness_shaped (enc := enc) (C := Tryz.checked) (os := os) (X := fun w _ => laidMetH Tryz.prog [("math/bits.deBruijn64tab", Rows.laid_math_bits_deBruijn64tab)] w) false (World.doorLaid Tryz.prog 400 os) #[.int .u8 0, .int .u8 0, .int .u8 0] 8 rfl (World.shaped_of_RefB (by kernel_rfl) (by kernel_rfl)) (by kernel_rfl) (by kernel_rfl) (by kernel_rfl) (door_met os _)) ?_
  intro W base args ds gs before hval0 hW _ hsz0 hL _
  have hT := of_laid hL
  have hval : ∀ (j : Nat) t v, Tryz.f9.params[j]? = some t → args[j]? = some v → Value.okWide Tryz.prog W .any base t v := hval0
  have hsz : (DataW.weightsEach Tryz.prog (Tryz.f9.params.toList ++ Rows.secretsParitySpec.plain.varTypes Tryz.prog) (ds ++ gs)).all (· ≤ reachBytes) = true := hsz0
  have hW' := hW
  obtain ⟨p, q, hA0, hV, rfl, hfz, hnd⟩ := hW
  have hA : DataW.TrodAll enc Tryz.prog W 0 (fun _ => true) true Tryz.f9.params.toList args.toList ds p := hA0
  rw [Tryz.params9] at hA hval hsz
  obtain ⟨v0, v1, v2, d0, d1, d2, p0, p1, p2, rfl, rfl, rfl, h0, h1, h2⟩ := trodAll_three hA
  obtain ⟨rfl, rfl⟩ := trodVars_none hV
  have hv0 : Rows.secretsParitySpec.plain.varTypes Tryz.prog = [] := rfl
  rw [hv0] at hsz
  have hz : ∀ n ∈ DataW.weightsEach Tryz.prog [5, 5, 5] [d0, d1, d2], n ≤ reachBytes := fun n hn => by
    have := List.all_eq_true.1 hsz n (by simpa using hn)
    simpa using this
  have k0 := h0
  have k1 := h1
  have k2 := h2
  obtain ⟨s, rfl, rfl, rfl, ws⟩ := open_int Tryz.underlying5 (hval 0 5 v0 rfl rfl) h0
  have bs := ws
  simp [Lit.wf, IntKind.min, IntKind.max, IntKind.signed, IntKind.bits] at bs
  obtain ⟨v, rfl, rfl, rfl, wv⟩ := open_int Tryz.underlying5 (hval 1 5 v1 rfl rfl) h1
  have bv := wv
  simp [Lit.wf, IntKind.min, IntKind.max, IntKind.signed, IntKind.bits] at bv
  obtain ⟨c, rfl, rfl, rfl, wc⟩ := open_int Tryz.underlying5 (hval 2 5 v2 rfl rfl) h2
  have bc := wc
  simp [Lit.wf, IntKind.min, IntKind.max, IntKind.signed, IntKind.bits] at bc
  refine (Wt.secretsParity_int s v c bs bv bc W hT).mono fun e W' he => ?_
  obtain ⟨rfl, hE⟩ := he
  have bel : Below W.heap.size W W' := hE
  refine ⟨_, rfl, ⟨_, _, _, [], [] ++ ([] ++ ([])), [], hW', trodAll_mk1 (shut_bool Tryz.underlying4 true), trodAll_mk3 (shut_int Tryz.underlying5 ws) (shut_int Tryz.underlying5 wv) (shut_int Tryz.underlying5 wc), rfl, bel.frame _, fun h => by cases h⟩⟩
theorem secretsParity_holds : Rows.SecretsParitySaid :=
  OpenClaim.holds_of_wide 9 Tryz.f9 rfl rfl rfl rfl rfl rfl rfl ⟨rfl, rfl, rfl, rfl, rfl⟩ rfl rfl rfl rfl rfl (by kernel_rfl) Tryz.func9 (by kernel_rfl)
    (of_decide_eq_true (by kernel_rfl)) (by unfold Func.isWrapper; first | (rw [if_pos (by decide +kernel)]; kernel_rfl) | (rw [if_neg (by decide +kernel)]; exact ⟨rfl, rfl⟩))
    (fun os started H enc _ => law_lifted os started H enc)
theorem secretsParity_card_holds : Rows.SecretsParityCardSaid :=
  Claim7.holds_tied_plain_at .later [] [.data] true Rows.secretsParityCard.stood.harness false
    secretsParity_holds (fun _ h => by cases h) (by kernel_rfl) (fun _ h => by cases h) secretsParity_row_tie rfl ⟨rfl, rfl⟩ (by kernel_rfl) rfl
    (fun f fn hf hfn => by
      obtain rfl : f = 9 := Option.some.inj ((show Tryz.prog.funcNamed "witting/wittinglaw44.SecretsParity" = some 9 by kernel_rfl).symm.trans hf) |>.symm
      obtain rfl : fn = Tryz.f9 := (Option.some.inj (Tryz.func9.symm.trans hfn)).symm
      exact ⟨by kernel_rfl, fun j t ht => by
        rw [Tryz.params9] at ht
        have hm : t ∈ [5, 5, 5] := by simpa using Array.mem_of_getElem? ht
        have hall : ([5, 5, 5].all fun u => !Tryz.prog.wantsStandIn u) = true := by kernel_rfl
        exact (show Tryz.prog.wantsStandIn t = false by simpa using List.all_eq_true.1 hall t hm)⟩)
    (by kernel_rfl)
#print axioms secretsParity_card_holds
end Go.Proofs.YtflnfcmbalhpnaaGreatDoor
