/- A law on regions that draw their order: pure operations (of the tail, too) are taken first, then the operations that only read or call quietly, and what is left goes as a plain list. -/
import Derived.Test.YtoacdccachhjdaaGreatDoorMAAl
import Derived.Deep.RegionHeld
namespace Wt
open Go

section
variable {P : Program} {ops : Array Oper} {md : Region.Mode} {w : World}
/-- Every operation of the tail but its first waits for one of the tail before it. -/
def chainH (md : Region.Mode) (ops : Array Oper) (n : Nat) (L0 : Array Bool) : Bool :=
  (List.range ops.size).all fun t => decide (t ≤ n) || L0.getD t false || (List.range t).any fun s => decide (n ≤ s) && !L0.getD s false && Region.waitsFor md ops t s
structure InvH (md : Region.Mode) (ops : Array Oper) (n : Nat) (L0 listed : Array Bool) : Prop where
  size : listed.size = ops.size
  closed : ∀ j oj, ops[j]? = some oj → listed.getD j false = true → ∀ e ∈ oj.after, Region.binds md e = true → listed.getD e.on false = true
  tail : ∀ t, n ≤ t → t < ops.size → listed.getD t false = true → L0.getD t false = true
  pre : ∀ j, L0.getD j false = true → listed.getD j false = true
theorem InvH.set {n i : Nat} {L0 listed : Array Bool} (inv : InvH md ops n L0 listed) (hi : i ∈ Region.ready md ops listed) (hin : i < n) : InvH md ops n L0 (listed.setIfInBounds i true) := by
  obtain ⟨_, oi, hoi, hall⟩ := mem_ready.1 hi
  refine ⟨by simp [inv.size], fun j oj hj hl e he hb => ?_, fun t ht ht' h => by rw [getD_set_ne false (by omega)] at h; exact inv.tail t ht ht' h, fun j hj => getD_set_true (inv.pre j hj)⟩
  by_cases hij : i = j
  · subst hij
    have : oj = oi := Option.some.inj (hj.symm.trans hoi)
    subst this
    exact getD_set_true (hall e he hb)
  · rw [getD_set_ne false hij] at hl
    exact getD_set_true (inv.closed j oj hj hl e he hb)
theorem tail_waitsH {n : Nat} {L0 listed : Array Bool} (hs : sinkG md ops n L0 = true) (hc : chainH md ops n L0 = true) (hn : n < ops.size) (inv : InvH md ops n L0 listed) :
    ∀ (d i : Nat), n - i = d → i < n → listed.getD i true = false → ∀ t, n ≤ t → t ∉ Region.ready md ops listed := by
  intro d
  induction d using Nat.strongRecOn with
  | _ d ih =>
    intro i hd hi hun t ht hr
    obtain ⟨_, ot, hot, hall⟩ := mem_ready.1 hr
    have htlt : t < ops.size := (Array.getElem?_eq_some_iff.1 hot).1
    by_cases htn : t = n
    · subst htn
      have h1 := List.all_eq_true.1 hs i (List.mem_range.2 hi)
      rw [Bool.or_eq_true] at h1
      rcases h1 with h1 | h1
      · have := inv.pre i h1
        rw [getD_both hun] at this
        cases this
      · obtain ⟨j, hj, hj2⟩ := List.any_eq_true.1 h1
        simp only [Bool.and_eq_true, decide_eq_true_eq] at hj2
        obtain ⟨oj, hoj, e, he, hb, hon⟩ := Region.waitsFor_spec hj2.2
        have hjle : j ≤ t := by have := List.mem_range.1 hj; omega
        by_cases hjt : j = t
        · subst hjt
          have : oj = ot := Option.some.inj (hoj.symm.trans hot)
          subst this
          have h2 := hall e he hb
          rw [hon, getD_both hun] at h2
          cases h2
        · cases hl : listed.getD j false with
          | true =>
            have h2 := inv.closed j oj hoj hl e he hb
            rw [hon, getD_both hun] at h2
            cases h2
          | false =>
            have hjs : j < listed.size := by rw [inv.size]; omega
            exact ih (t - j) (by omega) j rfl (by omega) (getD_in hjs hl) t (Nat.le_refl _) hr
    · have h1 := List.all_eq_true.1 hc t (List.mem_range.2 htlt)
      rw [Bool.or_eq_true, Bool.or_eq_true] at h1
      rcases h1 with (h1 | h1) | h1
      · simp only [decide_eq_true_eq] at h1; omega
      · have h3 := inv.pre t h1
        rw [getD_both (mem_ready.1 hr).1] at h3
        cases h3
      · obtain ⟨s, hsr, hs2⟩ := List.any_eq_true.1 h1
        simp only [Bool.and_eq_true, decide_eq_true_eq, Bool.not_eq_true'] at hs2
        obtain ⟨o', ho', e, he, hb, hon⟩ := Region.waitsFor_spec hs2.2
        have : o' = ot := Option.some.inj (ho'.symm.trans hot)
        subst this
        have h2 := hall e he hb
        have := List.mem_range.1 hsr
        rw [hon] at h2
        have h5 := inv.tail s hs2.1.1 (by omega) h2
        rw [hs2.1.2] at h5
        cases h5
theorem wpAnyL_firstH {n i : Nat} {oi : Oper} {v : Value} {L0 : Array Bool} {L : Array Bool → Act → Prop} (hi : ops[i]? = some oi) (hsel : ∀ (j : Nat) (o : Oper) cs b, ops[j]? = some o → o.op ≠ .select cs b)
    (hs : sinkG md ops n L0 = true) (hc : chainH md ops n L0 = true) (hn : n < ops.size) (hin : i < n)
    (hdone : ∀ listed a, L listed a → ∀ j ∈ Region.ready md ops listed, n ≤ j) :
    ∀ (f : Nat) (listed : Array Bool) (a : Act), InvH md ops n L0 listed →
      (∀ j oj, ops[j]? = some oj → j ≠ i → listed.getD j true = false → (∀ e ∈ oj.after, Region.binds md e = true → e.on ≠ i) → oi.apart ops oj = true) →
      i ∈ Region.ready md ops listed → YieldsAt P ops w oi v a →
      wpAnyL P md ops w n L f (listed.setIfInBounds i true) (a.put oi.dst v) → wpAnyL P md ops w n L (f + 1) listed a := by
  intro f
  induction f with
  | zero =>
    intro listed a inv _ hr hy H
    have hun := (mem_ready.1 hr).1
    refine ⟨fun h => (by rw [h] at hr; cases hr), fun j hj => ?_⟩
    have hjn : j < n := by
      rcases Nat.lt_or_ge j n with h | h
      · exact h
      · exact absurd hj (tail_waitsH hs hc hn inv _ i rfl hin hun j h)
    refine ⟨hjn, ?_⟩
    by_cases hji : j = i
    · subst hji; exact hy.stOp hi H
    · have := hdone _ _ H j (ready_mono hj hji)
      omega
  | succ f ih =>
    intro listed a inv hfree hr hy H
    have hun := (mem_ready.1 hr).1
    refine ⟨fun h => (by rw [h] at hr; cases hr), fun j hj => ?_⟩
    have hjn : j < n := by
      rcases Nat.lt_or_ge j n with h | h
      · exact h
      · exact absurd hj (tail_waitsH hs hc hn inv _ i rfl hin hun j h)
    refine ⟨hjn, ?_⟩
    by_cases hji : j = i
    · subst hji; exact hy.stOp hi H
    · have h1 := (H.2 j (ready_mono hj hji)).2
      obtain ⟨hjun, oj, hoj, hall⟩ := mem_ready.1 hj
      have hnot : ∀ e ∈ oj.after, Region.binds md e = true → e.on ≠ i := fun e he hb heq => by
        have h1 := hall e he hb
        rw [heq, getD_both hun] at h1
        cases h1
      have h2 := stOp_put hoj (hfree j oj hoj hji hjun hnot) (fun cs b => hsel i oi cs b hi) (fun cs b => hsel j oj cs b hoj) hy h1
      have hfree' : ∀ k ok, ops[k]? = some ok → k ≠ i → (listed.setIfInBounds j true).getD k true = false →
          (∀ e ∈ ok.after, Region.binds md e = true → e.on ≠ i) → oi.apart ops ok = true := fun k ok hk hki hun hno => by
        refine hfree k ok hk hki ?_ hno
        by_cases hjk : j = k
        · subst hjk; exact hjun
        · rw [getD_set_ne true hjk] at hun; exact hun
      refine stOp_mono (fun a' h3 => ih (listed.setIfInBounds j true) a' (inv.set hj hjn) hfree' (ready_mono hr (Ne.symm hji)) h3.1 ?_) h2
      rw [Array.setIfInBounds_comm _ _ hji]
      exact h3.2
theorem wpAnyL_headH {n : Nat} {L0 : Array Bool} {Lq : Act → Prop} (hsel : Region.noSelect ops = true) (hs : sinkG md ops n L0 = true) (hc : chainH md ops n L0 = true) (hn : n < ops.size) (LF : Array Bool)
    (hF : ∀ j ∈ Region.ready md ops LF, n ≤ j) :
    ∀ (ks : List Nat) (l : List Oper) (listed : Array Bool) (a : Act), (ks.map fun k => ops[k]?) = l.map some → setAll ks listed = LF → InvH md ops n L0 listed →
    headG md ops n ks listed = true → wpStill P ops w Lq l a →
    wpAnyL P md ops w n (fun listed' a' => listed' = LF ∧ Lq a') ks.length listed a
  | [], l, listed, a, hl, hF2, inv, hB, h => by
    have : l = [] := by simpa using hl.symm
    subst this
    exact ⟨hF2, h⟩
  | k :: ks, [], listed, a, hl, hF2, inv, hB, h => by simp at hl
  | k :: ks, o :: l, listed, a, hl, hF2, inv, hB, h => by
    simp only [List.map_cons, List.cons.injEq] at hl
    obtain ⟨h0, hl⟩ := hl
    simp only [headG, Bool.and_eq_true, decide_eq_true_eq] at hB
    obtain ⟨⟨⟨hkn, hr⟩, hf⟩, hB'⟩ := hB
    have hr' : k ∈ Region.ready md ops listed := by simpa using hr
    have hst : stOp P ops w k (wpStill P ops w Lq l) a := by unfold stOp; simp only [h0]; exact h
    obtain ⟨v, hy, hK⟩ := yieldsAt_of_stOp h0 hst
    exact wpAnyL_firstH h0 (Region.noSelect_spec hsel) hs hc hn hkn (fun listed' a' hL => by rw [hL.1]; exact hF) ks.length listed a inv (Region.free_spec h0 hf) hr' hy
      (wpAnyL_headH hsel hs hc hn LF hF ks l _ _ hl hF2 (inv.set hr' hkn) hB' hK)
/-- All that is asked of a region and of a listing of it. -/
def regH (md : Region.Mode) (ops : Array Oper) (n : Nat) (ks : List Nat) (listed : Array Bool) : Bool :=
  Region.noSelect ops && sinkG md ops n listed && chainH md ops n listed && decide (n < ops.size) && headG md ops n ks listed && closedG md ops listed && decide (listed.size = ops.size) && (Region.ready md ops (setAll ks listed)).all fun j => decide (n ≤ j)
theorem wpAny_headH {n : Nat} (ks : List Nat) (g : Nat) {l : List Oper} {listed : Array Bool} {a : Act} {Q : Exit → Act → World → Prop} (hB : regH md ops n ks listed = true) (hl : (ks.map fun k => ops[k]?) = l.map some)
    (h : wpStill P ops w (fun a' => wpAny P md ops Q g (setAll ks listed) a' w) l a) : wpAny P md ops Q (ks.length + g) listed a w := by
  simp only [regH, Bool.and_eq_true, decide_eq_true_eq] at hB
  obtain ⟨⟨⟨⟨⟨⟨⟨hsel, hs⟩, hc⟩, hn⟩, hh⟩, hcl⟩, hsz⟩, hF⟩ := hB
  have inv : InvH md ops n listed listed := by
    refine ⟨hsz, fun j oj hj hlj e he hb => ?_, fun _ _ _ h => h, fun _ h => h⟩
    have := List.all_eq_true.1 hcl j (List.mem_range.2 (Array.getElem?_eq_some_iff.1 hj).1)
    rw [hlj, hj] at this
    simp only [Bool.not_true, Bool.false_or] at this
    have := Array.all_eq_true'.1 this e he
    rw [hb] at this
    simpa using this
  exact wpAny_of_head (fun listed' a' hL => by rw [hL.1]; exact hL.2) _ _ _
    (wpAnyL_headH hsel hs hc hn (setAll ks listed) (fun j hj => by simpa using List.all_eq_true.1 hF j hj) ks l listed a hl rfl inv hh h)
end
section
variable {P : Program} {L : List Oper} {md : Region.Mode} {w : World}
/-- The same, with the region's operations as a list. -/
theorem wpAny_headLH {n : Nat} (ks : List Nat) (g : Nat) {l : List Oper} {listed : Array Bool} {a : Act} {Q : Exit → Act → World → Prop} (hB : regH md L.toArray n ks listed = true) (hl : Picks L ks l)
    (h : wpStill P L.toArray w (fun a' => wpAny P md L.toArray Q g (setAll ks listed) a' w) l a) : wpAny P md L.toArray Q (ks.length + g) listed a w :=
  wpAny_headH ks g hB ((get_toArray ks).trans hl.eq) h
end

/-! A region whose loads are taken first, since nobody writes their cells before the late operations (those from number n on) come up; behind a late operation nothing is asked of the world. -/
section
variable {P : Program} {ops : Array Oper} {Q : Exit → Act → World → Prop} {md : Region.Mode} {S : World → Prop}
def wpAnyE (P : Program) (md : Region.Mode) (ops : Array Oper) (Q : Exit → Act → World → Prop) (S : World → Prop) (n : Nat) : Nat → Array Bool → Act → World → Prop
  | 0, listed, a, w => Region.ready md ops listed = [] ∧ Q .normal a w
  | fuel + 1, listed, a, w =>
    (Region.ready md ops listed = [] → Q .normal a w) ∧
    ∀ i ∈ Region.ready md ops listed, wpOp P ops Q i (fun a' w' => (i < n → S w') ∧ wpAnyE P md ops Q S n fuel (listed.setIfInBounds i true) a' w') a w
theorem wpAny_of_E {n : Nat} : ∀ (fuel : Nat) (listed : Array Bool) (a : Act) (w : World), wpAnyE P md ops Q S n fuel listed a w → wpAny P md ops Q fuel listed a w
  | 0, _, _, _, h => h
  | fuel + 1, _, _, _, h => ⟨h.1, fun i hi => wpOp_mono (fun a' w' h' => wpAny_of_E fuel _ a' w' h'.2) (h.2 i hi)⟩
/-- What a listed operation waits for is listed. -/
def Closed (md : Region.Mode) (ops : Array Oper) (listed : Array Bool) : Prop := ∀ j oj, ops[j]? = some oj → listed.getD j false = true → ∀ e ∈ oj.after, Region.binds md e = true → listed.getD e.on false = true
theorem Closed.set {i : Nat} {listed : Array Bool} (h : Closed md ops listed) (hi : i ∈ Region.ready md ops listed) : Closed md ops (listed.setIfInBounds i true) := by
  obtain ⟨_, oi, hoi, hall⟩ := mem_ready.1 hi
  intro j oj hj hl e he hb
  by_cases hij : i = j
  · subst hij
    have : oj = oi := Option.some.inj (hj.symm.trans hoi)
    subst this
    exact getD_set_true (hall e he hb)
  · rw [getD_set_ne false hij] at hl
    exact getD_set_true (h j oj hj hl e he hb)
/-- Does one operation wait for another one, perhaps through others? -/
def waitsT (md : Region.Mode) (ops : Array Oper) : Nat → Nat → Nat → Bool
  | 0, _, _ => false
  | g + 1, z, i => Region.waitsFor md ops z i || (List.range z).any fun k => Region.waitsFor md ops z k && waitsT md ops g k i
theorem waitsT_block {listed : Array Bool} (hc : Closed md ops listed) {i : Nat} (hi : listed.getD i false = false) : ∀ (g z : Nat), waitsT md ops g z i = true → ∃ k, Region.waitsFor md ops z k = true ∧ listed.getD k false = false
  | 0, _, h => by cases h
  | g + 1, z, h => by
    unfold waitsT at h
    rw [Bool.or_eq_true] at h
    rcases h with h | h
    · exact ⟨i, h, hi⟩
    · obtain ⟨k, _, hk⟩ := List.any_eq_true.1 h
      rw [Bool.and_eq_true] at hk
      obtain ⟨k', h1, h2⟩ := waitsT_block hc hi g k hk.2
      refine ⟨k, hk.1, ?_⟩
      cases hl : listed.getD k false with
      | false => rfl
      | true =>
        obtain ⟨ok, hok, e, he, hb, hon⟩ := Region.waitsFor_spec h1
        have := hc k ok hok hl e he hb
        rw [hon, h2] at this
        cases this
theorem not_ready_of_waitsT {listed : Array Bool} (hc : Closed md ops listed) {i g z : Nat} (hi : listed.getD i false = false) (h : waitsT md ops g z i = true) : z ∉ Region.ready md ops listed := fun hr => by
  obtain ⟨k, h1, h2⟩ := waitsT_block hc hi g z h
  obtain ⟨_, oz, hoz, hall⟩ := mem_ready.1 hr
  obtain ⟨o', ho', e, he, hb, hon⟩ := Region.waitsFor_spec h1
  have : o' = oz := Option.some.inj (ho'.symm.trans hoz)
  subst this
  have h3 := hall e he hb
  rw [hon, h2] at h3
  cases h3
theorem wpAnyE_first {i n : Nat} {oi : Oper} {v : Value} (hi : ops[i]? = some oi) (hsel : ∀ (j : Nat) (o : Oper) cs b, ops[j]? = some o → o.op ≠ .select cs b)
    (hQ : ∀ c a w, Q (.panic c) (a.put oi.dst v) w → Q (.panic c) a w) (hz : ∀ z, n ≤ z → z < ops.size → waitsT md ops ops.size z i = true) :
    ∀ (fuel : Nat) (listed : Array Bool) (a : Act) (w : World), Closed md ops listed →
      (∀ j oj, ops[j]? = some oj → j ≠ i → listed.getD j true = false → (∀ e ∈ oj.after, Region.binds md e = true → e.on ≠ i) → oi.apart ops oj = true) →
      i ∈ Region.ready md ops listed → YieldsIf P ops S oi v a → S w →
      wpAnyE P md ops Q S n fuel (listed.setIfInBounds i true) (a.put oi.dst v) w → wpAnyE P md ops Q S n (fuel + 1) listed a w := by
  intro fuel
  induction fuel with
  | zero =>
    intro listed a w _ _ hr hy hS H
    refine ⟨fun h => (by rw [h] at hr; cases hr), fun j hj => ?_⟩
    by_cases hji : j = i
    · subst hji; exact hy.wpOp hi hS ⟨fun _ => hS, H⟩
    · have := ready_mono hj hji
      rw [H.1] at this
      cases this
  | succ fuel ih =>
    intro listed a w hcl hfree hr hy hS H
    refine ⟨fun h => (by rw [h] at hr; cases hr), fun j hj => ?_⟩
    by_cases hji : j = i
    · subst hji; exact hy.wpOp hi hS ⟨fun _ => hS, H⟩
    · have h1 := H.2 j (ready_mono hj hji)
      have hun := (mem_ready.1 hr).1
      have hjn : j < n := by
        rcases Nat.lt_or_ge j n with h | h
        · exact h
        · obtain ⟨_, oj, hoj, _⟩ := mem_ready.1 hj
          exact absurd hj (not_ready_of_waitsT hcl (getD_both hun) (hz j h (Array.getElem?_eq_some_iff.1 hoj).1))
      obtain ⟨hjun, oj, hoj, hall⟩ := mem_ready.1 hj
      have hnot : ∀ e ∈ oj.after, Region.binds md e = true → e.on ≠ i := fun e he hb heq => by
        have h1 := hall e he hb
        rw [heq, getD_both hun] at h1
        cases h1
      have h2 := wpOp_putIf hoj (hfree j oj hoj hji hjun hnot) (fun cs b => hsel i oi cs b hi) (fun cs b => hsel j oj cs b hoj) hQ hy h1
      have hfree' : ∀ k ok, ops[k]? = some ok → k ≠ i → (listed.setIfInBounds j true).getD k true = false →
          (∀ e ∈ ok.after, Region.binds md e = true → e.on ≠ i) → oi.apart ops ok = true := fun k ok hk hki hun hno => by
        refine hfree k ok hk hki ?_ hno
        by_cases hjk : j = k
        · subst hjk; exact hjun
        · rw [getD_set_ne true hjk] at hun; exact hun
      refine wpOp_mono (fun a' w' h3 => ⟨h3.2.1, ih (listed.setIfInBounds j true) a' w' (hcl.set hj) hfree' (ready_mono hr (Ne.symm hji)) h3.1 (h3.2.1 hjn) ?_⟩) h2
      rw [Array.setIfInBounds_comm _ _ hji]
      exact h3.2.2
/-- All that is asked of an operation that is taken first. -/
def takeE (md : Region.Mode) (ops : Array Oper) (n : Nat) (listed : Array Bool) (i : Nat) : Bool :=
  Region.noSelect ops && Region.free md ops listed i && (Region.ready md ops listed).contains i && closedG md ops listed && (List.range ops.size).all fun z => decide (z < n) || waitsT md ops ops.size z i
theorem wpAny_seqE {n : Nat} : ∀ (ks : List Nat) (l : List Oper) (listed : Array Bool) (a : Act) (w : World), (ks.map fun k => ops[k]?) = l.map some →
    seqG md ops ks listed = true → (ks.all fun k => decide (n ≤ k)) = true → wpList P ops Q l a w → wpAnyE P md ops Q S n ks.length listed a w
  | [], l, listed, a, w, hl, hB, _, h => by
    have : l = [] := by simpa using hl.symm
    subst this
    exact ⟨by simpa [seqG] using hB, h⟩
  | k :: ks, [], _, _, _, hl, _, _, _ => by simp at hl
  | k :: ks, o :: l, listed, a, w, hl, hB, hk, h => by
    simp only [List.map_cons, List.cons.injEq] at hl
    obtain ⟨h0, hl⟩ := hl
    simp only [seqG, Bool.and_eq_true, decide_eq_true_eq] at hB
    simp only [List.all_cons, Bool.and_eq_true, decide_eq_true_eq] at hk
    refine ⟨fun h1 => (by rw [hB.1] at h1; cases h1), fun i hi => ?_⟩
    rw [hB.1] at hi
    have hik : i = k := by simpa using hi
    subst hik
    have hw : wpOp P ops Q i (wpList P ops Q l) a w := by unfold wpOp; simp only [h0]; exact h
    exact wpOp_mono (fun a' w' h' => ⟨fun hlt => by have := hk.1; omega, wpAny_seqE ks l _ a' w' hl hB.2 hk.2 h'⟩) hw
end
section
variable {P : Program} {L : List Oper} {Q : Exit → Act → World → Prop} {md : Region.Mode} {S : World → Prop} {n fuel : Nat} {listed : Array Bool} {a : Act} {w : World}
theorem wp_region_E {id : Nat} (n : Nat) (S : World → Prop) (hm : P.follows .mixedOrders = true) (h : wpAnyE P .any L.toArray Q S n L.toArray.size (Array.replicate L.toArray.size false) a w.drew) : (Code.region id L.toArray true).wp P Q a w :=
  wp_region_any hm (wpAny_of_E _ _ _ _ h)
theorem wpAnyE_take {i : Nat} {oi : Oper} {v : Value} (hi : OpAt L i oi) (hB : takeE md L.toArray n listed i = true) (hQ : ∀ c a w, Q (.panic c) (a.put oi.dst v) w → Q (.panic c) a w) (hS : S w)
    (hw : Region.wanted oi (yielded L.toArray a.tmps) = true) (hv : ∀ w, S w → (execOp a.eval oi).run P w = .ok (.value v) w)
    (h : wpAnyE P md L.toArray Q S n fuel (listed.setIfInBounds i true) (a.put oi.dst v) w) : wpAnyE P md L.toArray Q S n (fuel + 1) listed a w := by
  simp only [takeE, Bool.and_eq_true] at hB
  obtain ⟨⟨⟨⟨hsel, hf⟩, hr⟩, hcl⟩, hz⟩ := hB
  have hi' : L.toArray[i]? = some oi := by simpa using hi.eq
  refine wpAnyE_first hi' (Region.noSelect_spec hsel) hQ (fun z h1 h2 => ?_) fuel listed a w (fun j oj hj hlj e he hb => ?_) (Region.free_spec hi' hf) (by simpa using hr) (Or.inl ⟨hw, hv⟩) hS h
  · have := List.all_eq_true.1 hz z (List.mem_range.2 h2)
    rw [Bool.or_eq_true] at this
    rcases this with h | h
    · simp only [decide_eq_true_eq] at h; omega
    · exact h
  · have := List.all_eq_true.1 hcl j (List.mem_range.2 (Array.getElem?_eq_some_iff.1 hj).1)
    rw [hlj, hj] at this
    simp only [Bool.not_true, Bool.false_or] at this
    have := Array.all_eq_true'.1 this e he
    rw [hb] at this
    simpa using this
/-- The one operation that may come up is carried out. -/
theorem wpAnyE_one {k : Nat} {o : Oper} (ho : OpAt L k o) (hr : Region.ready md L.toArray listed = [k])
    (h : ∀ K : Act → World → Prop, Shut (∀ a' w', (k < n → S w') → wpAnyE P md L.toArray Q S n fuel (listed.setIfInBounds k true) a' w' → K a' w') → if Region.wanted o (yielded L.toArray a.tmps) = true then Oper.wp P o a w K Q else K (a.put o.dst undef) w) :
    wpAnyE P md L.toArray Q S n (fuel + 1) listed a w := by
  refine ⟨fun h1 => (by rw [hr] at h1; cases h1), fun i hi => ?_⟩
  rw [hr] at hi
  have hik : i = k := by simpa using hi
  subst hik
  exact wpOp_step (by simpa using ho.eq) fun K hK => h K fun a' w' h1 h2 => hK a' w' ⟨h1, h2⟩
theorem wpAnyE_seq (ks : List Nat) {l : List Oper} (hl : Picks L ks l) (hB : seqG md L.toArray ks listed = true) (hk : (ks.all fun k => decide (n ≤ k)) = true) (h : wpList P L.toArray Q l a w) : wpAnyE P md L.toArray Q S n ks.length listed a w :=
  wpAny_seqE ks l listed a w ((get_toArray ks).trans hl.eq) hB hk h
end
end Wt

/- Law on drawn regions: a pure operation among the late ones is taken first. -/
namespace Wt
open Go
section
variable {P : Program} {ops : Array Oper} {Q : Exit → Act → World → Prop} {md : Region.Mode} {S : World → Prop}
theorem wpAnyE_pure {i n : Nat} {oi : Oper} {v : Value} (hi : ops[i]? = some oi) (hsel : ∀ (j : Nat) (o : Oper) cs b, ops[j]? = some o → o.op ≠ .select cs b)
    (hQ : ∀ c a w, Q (.panic c) (a.put oi.dst v) w → Q (.panic c) a w) (hn : n ≤ i) :
    ∀ (fuel : Nat) (listed : Array Bool) (a : Act) (w : World),
      (∀ j oj, ops[j]? = some oj → j ≠ i → listed.getD j true = false → (∀ e ∈ oj.after, Region.binds md e = true → e.on ≠ i) → oi.apart ops oj = true) →
      i ∈ Region.ready md ops listed → YieldsIf P ops (fun _ => True) oi v a →
      wpAnyE P md ops Q S n fuel (listed.setIfInBounds i true) (a.put oi.dst v) w → wpAnyE P md ops Q S n (fuel + 1) listed a w := by
  intro fuel
  induction fuel with
  | zero =>
    intro listed a w _ hr hy H
    refine ⟨fun h => (by rw [h] at hr; cases hr), fun j hj => ?_⟩
    by_cases hji : j = i
    · subst hji; exact hy.wpOp hi trivial ⟨fun h => absurd h (by omega), H⟩
    · have := ready_mono hj hji
      rw [H.1] at this
      cases this
  | succ fuel ih =>
    intro listed a w hfree hr hy H
    refine ⟨fun h => (by rw [h] at hr; cases hr), fun j hj => ?_⟩
    by_cases hji : j = i
    · subst hji; exact hy.wpOp hi trivial ⟨fun h => absurd h (by omega), H⟩
    · have h1 := H.2 j (ready_mono hj hji)
      have hun := (mem_ready.1 hr).1
      obtain ⟨hjun, oj, hoj, hall⟩ := mem_ready.1 hj
      have hnot : ∀ e ∈ oj.after, Region.binds md e = true → e.on ≠ i := fun e he hb heq => by
        have h1 := hall e he hb
        rw [heq, getD_both hun] at h1
        cases h1
      have h2 := wpOp_putIf hoj (hfree j oj hoj hji hjun hnot) (fun cs b => hsel i oi cs b hi) (fun cs b => hsel j oj cs b hoj) hQ hy h1
      have hfree' : ∀ k ok, ops[k]? = some ok → k ≠ i → (listed.setIfInBounds j true).getD k true = false →
          (∀ e ∈ ok.after, Region.binds md e = true → e.on ≠ i) → oi.apart ops ok = true := fun k ok hk hki hun hno => by
        refine hfree k ok hk hki ?_ hno
        by_cases hjk : j = k
        · subst hjk; exact hjun
        · rw [getD_set_ne true hjk] at hun; exact hun
      refine wpOp_mono (fun a' w' h3 => ⟨h3.2.1, ih (listed.setIfInBounds j true) a' w' hfree' (ready_mono hr (Ne.symm hji)) h3.1 ?_⟩) h2
      rw [Array.setIfInBounds_comm _ _ hji]
      exact h3.2.2
def lateE (md : Region.Mode) (ops : Array Oper) (n : Nat) (listed : Array Bool) (i : Nat) : Bool :=
  Region.noSelect ops && Region.free md ops listed i && (Region.ready md ops listed).contains i && decide (n ≤ i)
end
section
variable {P : Program} {L : List Oper} {Q : Exit → Act → World → Prop} {md : Region.Mode} {S : World → Prop} {n fuel : Nat} {listed : Array Bool} {a : Act} {w : World}
theorem wpAnyE_late {i : Nat} {oi : Oper} {v : Value} (hi : OpAt L i oi) (hB : lateE md L.toArray n listed i = true) (hQ : ∀ c a w, Q (.panic c) (a.put oi.dst v) w → Q (.panic c) a w)
    (hw : Region.wanted oi (yielded L.toArray a.tmps) = true) (hv : ∀ w, (execOp a.eval oi).run P w = .ok (.value v) w)
    (h : wpAnyE P md L.toArray Q S n fuel (listed.setIfInBounds i true) (a.put oi.dst v) w) : wpAnyE P md L.toArray Q S n (fuel + 1) listed a w := by
  simp only [lateE, Bool.and_eq_true, decide_eq_true_eq] at hB
  obtain ⟨⟨⟨hsel, hf⟩, hr⟩, hn⟩ := hB
  have hi' : L.toArray[i]? = some oi := by simpa using hi.eq
  exact wpAnyE_pure hi' (Region.noSelect_spec hsel) hQ hn fuel listed a w (Region.free_spec hi' hf) (by simpa using hr) (Or.inl ⟨hw, fun w _ => hv w⟩) h
end
end Wt
