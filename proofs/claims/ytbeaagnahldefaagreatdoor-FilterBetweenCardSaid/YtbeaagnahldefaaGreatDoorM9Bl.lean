/- Walk: filter.Transitive where it answers, over a contract of relation.Has. -/
import Derived.Test.YtbeaagnahldefaaGreatDoorM9Bk
import Derived.Test.YtbeaagnahldefaaGreatDoorM9Aj
import Derived.Deep.RegionHeld
import Derived.Test.YtbeaagnahldefaaGreatDoorM9Bi
import Derived.Test.YtbeaagnahldefaaGreatDoorM9Bg
namespace Wt
open Go Go.RowKit Go.Maps Go.Proofs Fm

set_option maxHeartbeats 1000000 in
theorem trans1_any (r : List (BitVec 64)) (a : Option Addr) (c : Nat) (w : World) (hT : Tab w) (hu : RU w a r) :
    Calls Tryz.prog 42 #[.slice a r.length c] w fun e w' => e = .returned (.bool (!hasB r 4)) ∧ Ext w w' := by
  have H := Lib.hid (has4_any r a c w hT hu)
  clear hu hT
  go_enter Tryz.func42, Tryz.ntmps42
  go_wp2_with (go_at_call 43; refine H.out.mono ?_; rintro _ w1 ⟨rfl, hE⟩)
  go_ret
  exact ⟨rfl, hE⟩
set_option maxRecDepth 20000 in
set_option maxHeartbeats 8000000 in
theorem transitive_any (M : Mo) (va ra : Option Addr) (vc rc : Nat) (fa : Option Addr) (fc : Nat) (f : List Nd) (w : World) (hT : Tab w) (hm : RM w va ra M) (hf : RN w fa f) (hl : lookErr M f = 0) (hat : M.rel.any (fun r => !hasB r 4) = false) :
    Calls Tryz.prog 17 #[.agg #[.int .i64 M.worlds, .slice va M.val.length vc, .slice ra M.rel.length rc], .slice fa f.length fc] w fun e w' => RetR (filLa M f true) (natI (filN M f)) (lookErr M f) e w w' := by
  have hE0 := ((Ext.refl w).alloc (.cells #[.int .i64 M.worlds, .slice va M.val.length vc, .slice ra M.rel.length rc] 25)).alloc (.cells #[.int .i64 0, .slice none 0 0, .slice none 0 0] 25)
  have hbx := (MoBox.new w M.worlds M.val M.rel va vc ra rc 25).ext ((Ext.refl _).alloc (.cells #[.int .i64 0, .slice none 0 0, .slice none 0 0] 25))
  have hr0 := OutAt.new1 w (.cells #[.int .i64 M.worlds, .slice va M.val.length vc, .slice ra M.rel.length rc] 25) (.int .i64 0) (.slice none 0 0) (.slice none 0 0) 25
  have HE := Lib.hid hE0
  have HT := Lib.hid (hT.ext hE0)
  have HM := Lib.hid (hm.ext hE0)
  have HF := Lib.hid (hf.ext hE0)
  have HB := Lib.hid hbx
  have HR := Lib.hid hr0
  have hs0 : ((w.alloc (.cells #[.int .i64 M.worlds, .slice va M.val.length vc, .slice ra M.rel.length rc] 25)).alloc (.cells #[.int .i64 0, .slice none 0 0, .slice none 0 0] 25)).heap.size = w.heap.size + 2 := by simp
  have HSZ := Lib.hid hs0
  obtain ⟨m0, m1, m2⟩ := hbx
  dsimp only at m0 m1 m2
  clear hE0 hf hm hr0 hs0 hT
  obtain ⟨N, vk⟩ := vok_of hl
  have HVK := Lib.hid vk
  have HL := Lib.hid hl
  have HC : Hid (filN M f = (List.range N).map (clsOf (subL M (rt f)) N)) := Lib.hid (by unfold filN; rw [if_pos hl, vk.nn])
  have HA : Hid (filLa M f true = filM M (fFacts (fCompact f)) (repL (subL M (rt f)) N) (permL (subL M (rt f)) (fCompact f) true)) := Lib.hid (by unfold filLa; rw [if_pos hl, vk.nn, vk.fx, vk.cc])
  have HLK : Hid (∀ W, RM W va ra M → RN W fa f → Calls Tryz.prog 28 #[.agg #[.int .i64 M.worlds, .slice va M.val.length vc, .slice ra M.rel.length rc], .slice fa f.length fc] W fun e w' => RetV5 M va ra vc rc f e W w') := Lib.hid fun W h1 h2 => look_any M va ra vc rc fa fc f W h1 h2 hl
  clear hl vk
  have HAT := Lib.hid hat
  have HCT : Hid (∀ W, Tab W → RR W ra M.rel → Calls Tryz.prog 41 #[.slice ra M.rel.length rc, .func (.func 42) #[] #[]] W fun e w' => e = .returned (.bool (M.rel.any fun r => !hasB r 4)) ∧ Ext W w') := Lib.hid fun W hTW hr => containsFunc_g 42 [] _ ra M.rel rc W hr cf_trans1 fun W2 a r c e hu => trans1_any r a c W2 (hTW.ext e) hu
  clear hat
  go_enter Tryz.func17, Tryz.ntmps17
  go_wp2_with fail
  generalize (w.alloc (.cells #[.int .i64 M.worlds, .slice va M.val.length vc, .slice ra M.rel.length rc] 25)).alloc (.cells #[.int .i64 0, .slice none 0 0, .slice none 0 0] 25) = w0 at *
  refine (HLK.out _ HM.out HF.out).mono ?_
  rintro _ w1 ⟨b, ca, sa, cc, sc, rfl, hb, hv, hn, hs, hE1⟩
  rw [HVK.out.vw.ok.worlds] at hv
  have HV := Lib.hid hv
  have HN := Lib.hid hn
  have HS := Lib.hid hs
  have HE1 := Lib.hid hE1
  clear hb hv hn hs hE1 m0 m1 m2
  obtain ⟨m0, m1, m2⟩ := HB.out.ext HE1.out
  have mlt := World.block_lt_of_cell? _ _ m0
  dsimp only at m0 m1 m2 mlt ⊢
  go_wp2_with fail
  have hE3 : Ext w1 (w1.alloc (.cells #[.pointer (some ⟨b, 0, none⟩)] 45)) := (Ext.refl w1).alloc _
  have hc3 : (w1.alloc (.cells #[.pointer (some ⟨b, 0, none⟩)] 45)).cell? ⟨w1.heap.size, 0, none⟩ = some (.pointer (some ⟨b, 0, none⟩)) := by simp
  have HC3 := Lib.hid hc3
  have HE3 := Lib.hid (HE1.out.trans hE3)
  have HEy := Lib.hid hE3
  clear hE3 hc3
  generalize w1.alloc (.cells #[.pointer (some ⟨b, 0, none⟩)] 45) = w3 at *
  refine (HCT.out _ ((HT.out.ext HE3.out)) (HM.out.rel.ext HE3.out)).mono ?_
  rintro _ w5 ⟨rfl, hE5⟩
  rw [HAT.out]
  have HEz := Lib.hid (HEy.out.trans hE5)
  have HE5 := Lib.hid (HE3.out.trans hE5)
  have HC5 := Lib.hid (hE5.cell HC3.out)
  have hlt5 := World.block_lt_of_cell? _ _ HC5.out
  have hcc5 := HC5.out
  clear hE5
  dsimp only at hlt5 ⊢
  go_wp2_with fail
  clear hlt5 hcc5
  refine (fbuild_any M N b (fCompact f) (subL M (rt f)) (permL (subL M (rt f)) (fCompact f) true) 44 [.pointer (some ⟨w1.heap.size, 0, none⟩)] va ra ca sa vc rc cc sc w5 (HV.out.ext HEz.out) (HM.out.ext HE5.out) (HN.out.ext HEz.out) (HS.out.ext HEz.out) HVK.out.vw.ok.most HVK.out.len HVK.out.vw.ok.val HVK.out.vw.ok.rel cf_trans2 ?_).mono ?_
  · intro W a x y e ha hx hy
    have h64 := HVK.out.vw.ok.most
    exact trans2_any b (N : Int) (subL M (rt f)) (fCompact f) va ra ca sa _ vc _ rc cc sc W (HV.out.ext (HEz.out.trans e)) (HN.out.ext (HEz.out.trans e)) (HS.out.ext (HEz.out.trans e)) HVK.out.same HVK.out.box a x y w1.heap.size (by omega) (by omega) (e.cell HC5.out)
  rintro _ w4 ⟨v4, r4, l4, c4, d4, e4, rfl, hk4, hE4⟩
  rw [← HA.out, ← HC.out] at hk4 ⊢
  have hwb : w.heap.size + 1 < w5.heap.size := by have := (HE5.out).size; have := HSZ.out; omega
  have HH := Lib.hid (HR.out.ext (HE5.out.trans hE4))
  have HK4 := Lib.hid hk4
  have HE4 := Lib.hid ((HE.out.trans HE5.out).trans hE4)
  have HWB := Lib.hid hwb
  clear hk4 hE4 hwb
  generalize hqm : filLa M f true = QM at *
  generalize hql : filN M f = QL at *
  have HQM := Lib.hid hqm
  have HQL := Lib.hid hql
  clear hqm hql
  obtain ⟨r0, rr1, rr2, rfz⟩ := HH.out
  have f0 := rfz 0
  have f1 := rfz 1
  have f2 := rfz 2
  have hrl9 := HH.out.lt
  clear rfz
  dsimp only
  go_wp2_with fail
  have HX := (((HH.out.set0 (.int .i64 QM.worlds)).set1 (.slice v4 QM.val.length c4)).set2 (.slice r4 QM.rel.length d4)).ext ((Ext.refl _).alloc (.cells #[.int .i64 QM.worlds, .slice v4 QM.val.length c4, .slice r4 QM.rel.length d4] 25))
  obtain ⟨d0, d1, d2, -⟩ := HX
  have hEx : Ext w ((((w4.setCell ⟨w.heap.size + 1, 0, none⟩ (.int .i64 QM.worlds)).setCell ⟨w.heap.size + 1, 1, none⟩ (.slice v4 QM.val.length c4)).setCell ⟨w.heap.size + 1, 2, none⟩ (.slice r4 QM.rel.length d4)).alloc (.cells #[.int .i64 QM.worlds, .slice v4 QM.val.length c4, .slice r4 QM.rel.length d4] 25)) := (((HE4.out.setCell (by simp) _).setCell (by simp) _).setCell (by simp) _).alloc _
  have hkF : ∀ w'', Agree w.heap.size ((((w4.setCell ⟨w.heap.size + 1, 0, none⟩ (.int .i64 QM.worlds)).setCell ⟨w.heap.size + 1, 1, none⟩ (.slice v4 QM.val.length c4)).setCell ⟨w.heap.size + 1, 2, none⟩ (.slice r4 QM.rel.length d4)).alloc (.cells #[.int .i64 QM.worlds, .slice v4 QM.val.length c4, .slice r4 QM.rel.length d4] 25)) w'' → RM w'' v4 r4 QM ∧ RI w'' l4 (natI QL) := fun w'' hg => HK4.out w'' (agree_end2 HWB.out (by have := HWB.out; omega) hg)
  generalize (((w4.setCell ⟨w.heap.size + 1, 0, none⟩ (.int .i64 QM.worlds)).setCell ⟨w.heap.size + 1, 1, none⟩ (.slice v4 QM.val.length c4)).setCell ⟨w.heap.size + 1, 2, none⟩ (.slice r4 QM.rel.length d4)).alloc (.cells #[.int .i64 QM.worlds, .slice v4 QM.val.length c4, .slice r4 QM.rel.length d4] 25) = W2 at *
  refine bodyPost_ret (v := .tuple #[.agg #[.int .i64 QM.worlds, .slice v4 QM.val.length c4, .slice r4 QM.rel.length d4], .slice l4 QL.length e4, .int .i64 0]) ?_ rfl ?_
  · rw [results_cell_two rfl]
    go_simp
  · rw [HQM.out, HQL.out]
    exact ⟨v4, r4, l4, c4, d4, e4, by rw [HL.out, natI_ln], hkF, hEx⟩
end Wt

/- A law on regions that draw their order: pure operations (of the tail, too) are taken first, then the operations that only read or call quietly, and what is left goes as a plain list. -/
namespace Wt
open Go

section
variable {P : Program} {ops : Array Oper} {md : Region.Mode} {w : World}
/-- Every operation of the tail but its first waits for one of the tail before it. -/
def chainH (md : Region.Mode) (ops : Array Oper) (n : Nat) (L0 : Array Bool) : Bool :=
  (List.range ops.size).all fun t => decide (t ≤ n) || L0.getD t false || (List.range t).any fun s => decide (n ≤ s) && !L0.getD s false && Region.waitsFor md ops t s
structure InvH (md : Region.Mode) (ops : Array Oper) (n : Nat) (L0 listed : Array Bool) : Prop where
  size : listed.size = ops.size
  closed : ∀ j oj, ops[j]? = some oj → listed.getD j false = true → ∀ e ∈ oj.after, Region.binds md e = true → listed.getD e.on false = true
  tail : ∀ t, n ≤ t → t < ops.size → listed.getD t false = true → L0.getD t false = true
  pre : ∀ j, L0.getD j false = true → listed.getD j false = true
theorem InvH.set {n i : Nat} {L0 listed : Array Bool} (inv : InvH md ops n L0 listed) (hi : i ∈ Region.ready md ops listed) (hin : i < n) : InvH md ops n L0 (listed.setIfInBounds i true) := by
  obtain ⟨_, oi, hoi, hall⟩ := mem_ready.1 hi
  refine ⟨by simp [inv.size], fun j oj hj hl e he hb => ?_, fun t ht ht' h => by rw [getD_set_ne false (by omega)] at h; exact inv.tail t ht ht' h, fun j hj => getD_set_true (inv.pre j hj)⟩
  by_cases hij : i = j
  · subst hij
    have : oj = oi := Option.some.inj (hj.symm.trans hoi)
    subst this
    exact getD_set_true (hall e he hb)
  · rw [getD_set_ne false hij] at hl
    exact getD_set_true (inv.closed j oj hj hl e he hb)
theorem tail_waitsH {n : Nat} {L0 listed : Array Bool} (hs : sinkG md ops n L0 = true) (hc : chainH md ops n L0 = true) (hn : n < ops.size) (inv : InvH md ops n L0 listed) :
    ∀ (d i : Nat), n - i = d → i < n → listed.getD i true = false → ∀ t, n ≤ t → t ∉ Region.ready md ops listed := by
  intro d
  induction d using Nat.strongRecOn with
  | _ d ih =>
    intro i hd hi hun t ht hr
    obtain ⟨_, ot, hot, hall⟩ := mem_ready.1 hr
    have htlt : t < ops.size := (Array.getElem?_eq_some_iff.1 hot).1
    by_cases htn : t = n
    · subst htn
      have h1 := List.all_eq_true.1 hs i (List.mem_range.2 hi)
      rw [Bool.or_eq_true] at h1
      rcases h1 with h1 | h1
      · have := inv.pre i h1
        rw [getD_both hun] at this
        cases this
      · obtain ⟨j, hj, hj2⟩ := List.any_eq_true.1 h1
        simp only [Bool.and_eq_true, decide_eq_true_eq] at hj2
        obtain ⟨oj, hoj, e, he, hb, hon⟩ := Region.waitsFor_spec hj2.2
        have hjle : j ≤ t := by have := List.mem_range.1 hj; omega
        by_cases hjt : j = t
        · subst hjt
          have : oj = ot := Option.some.inj (hoj.symm.trans hot)
          subst this
          have h2 := hall e he hb
          rw [hon, getD_both hun] at h2
          cases h2
        · cases hl : listed.getD j false with
          | true =>
            have h2 := inv.closed j oj hoj hl e he hb
            rw [hon, getD_both hun] at h2
            cases h2
          | false =>
            have hjs : j < listed.size := by rw [inv.size]; omega
            exact ih (t - j) (by omega) j rfl (by omega) (getD_in hjs hl) t (Nat.le_refl _) hr
    · have h1 := List.all_eq_true.1 hc t (List.mem_range.2 htlt)
      rw [Bool.or_eq_true, Bool.or_eq_true] at h1
      rcases h1 with (h1 | h1) | h1
      · simp only [decide_eq_true_eq] at h1; omega
      · have h3 := inv.pre t h1
        rw [getD_both (mem_ready.1 hr).1] at h3
        cases h3
      · obtain ⟨s, hsr, hs2⟩ := List.any_eq_true.1 h1
        simp only [Bool.and_eq_true, decide_eq_true_eq, Bool.not_eq_true'] at hs2
        obtain ⟨o', ho', e, he, hb, hon⟩ := Region.waitsFor_spec hs2.2
        have : o' = ot := Option.some.inj (ho'.symm.trans hot)
        subst this
        have h2 := hall e he hb
        have := List.mem_range.1 hsr
        rw [hon] at h2
        have h5 := inv.tail s hs2.1.1 (by omega) h2
        rw [hs2.1.2] at h5
        cases h5
theorem wpAnyL_firstH {n i : Nat} {oi : Oper} {v : Value} {L0 : Array Bool} {L : Array Bool → Act → Prop} (hi : ops[i]? = some oi) (hsel : ∀ (j : Nat) (o : Oper) cs b, ops[j]? = some o → o.op ≠ .select cs b)
    (hs : sinkG md ops n L0 = true) (hc : chainH md ops n L0 = true) (hn : n < ops.size) (hin : i < n)
    (hdone : ∀ listed a, L listed a → ∀ j ∈ Region.ready md ops listed, n ≤ j) :
    ∀ (f : Nat) (listed : Array Bool) (a : Act), InvH md ops n L0 listed →
      (∀ j oj, ops[j]? = some oj → j ≠ i → listed.getD j true = false → (∀ e ∈ oj.after, Region.binds md e = true → e.on ≠ i) → oi.apart ops oj = true) →
      i ∈ Region.ready md ops listed → YieldsAt P ops w oi v a →
      wpAnyL P md ops w n L f (listed.setIfInBounds i true) (a.put oi.dst v) → wpAnyL P md ops w n L (f + 1) listed a := by
  intro f
  induction f with
  | zero =>
    intro listed a inv _ hr hy H
    have hun := (mem_ready.1 hr).1
    refine ⟨fun h => (by rw [h] at hr; cases hr), fun j hj => ?_⟩
    have hjn : j < n := by
      rcases Nat.lt_or_ge j n with h | h
      · exact h
      · exact absurd hj (tail_waitsH hs hc hn inv _ i rfl hin hun j h)
    refine ⟨hjn, ?_⟩
    by_cases hji : j = i
    · subst hji; exact hy.stOp hi H
    · have := hdone _ _ H j (ready_mono hj hji)
      omega
  | succ f ih =>
    intro listed a inv hfree hr hy H
    have hun := (mem_ready.1 hr).1
    refine ⟨fun h => (by rw [h] at hr; cases hr), fun j hj => ?_⟩
    have hjn : j < n := by
      rcases Nat.lt_or_ge j n with h | h
      · exact h
      · exact absurd hj (tail_waitsH hs hc hn inv _ i rfl hin hun j h)
    refine ⟨hjn, ?_⟩
    by_cases hji : j = i
    · subst hji; exact hy.stOp hi H
    · have h1 := (H.2 j (ready_mono hj hji)).2
      obtain ⟨hjun, oj, hoj, hall⟩ := mem_ready.1 hj
      have hnot : ∀ e ∈ oj.after, Region.binds md e = true → e.on ≠ i := fun e he hb heq => by
        have h1 := hall e he hb
        rw [heq, getD_both hun] at h1
        cases h1
      have h2 := stOp_put hoj (hfree j oj hoj hji hjun hnot) (fun cs b => hsel i oi cs b hi) (fun cs b => hsel j oj cs b hoj) hy h1
      have hfree' : ∀ k ok, ops[k]? = some ok → k ≠ i → (listed.setIfInBounds j true).getD k true = false →
          (∀ e ∈ ok.after, Region.binds md e = true → e.on ≠ i) → oi.apart ops ok = true := fun k ok hk hki hun hno => by
        refine hfree k ok hk hki ?_ hno
        by_cases hjk : j = k
        · subst hjk; exact hjun
        · rw [getD_set_ne true hjk] at hun; exact hun
      refine stOp_mono (fun a' h3 => ih (listed.setIfInBounds j true) a' (inv.set hj hjn) hfree' (ready_mono hr (Ne.symm hji)) h3.1 ?_) h2
      rw [Array.setIfInBounds_comm _ _ hji]
      exact h3.2
theorem wpAnyL_headH {n : Nat} {L0 : Array Bool} {Lq : Act → Prop} (hsel : Region.noSelect ops = true) (hs : sinkG md ops n L0 = true) (hc : chainH md ops n L0 = true) (hn : n < ops.size) (LF : Array Bool)
    (hF : ∀ j ∈ Region.ready md ops LF, n ≤ j) :
    ∀ (ks : List Nat) (l : List Oper) (listed : Array Bool) (a : Act), (ks.map fun k => ops[k]?) = l.map some → setAll ks listed = LF → InvH md ops n L0 listed →
    headG md ops n ks listed = true → wpStill P ops w Lq l a →
    wpAnyL P md ops w n (fun listed' a' => listed' = LF ∧ Lq a') ks.length listed a
  | [], l, listed, a, hl, hF2, inv, hB, h => by
    have : l = [] := by simpa using hl.symm
    subst this
    exact ⟨hF2, h⟩
  | k :: ks, [], listed, a, hl, hF2, inv, hB, h => by simp at hl
  | k :: ks, o :: l, listed, a, hl, hF2, inv, hB, h => by
    simp only [List.map_cons, List.cons.injEq] at hl
    obtain ⟨h0, hl⟩ := hl
    simp only [headG, Bool.and_eq_true, decide_eq_true_eq] at hB
    obtain ⟨⟨⟨hkn, hr⟩, hf⟩, hB'⟩ := hB
    have hr' : k ∈ Region.ready md ops listed := by simpa using hr
    have hst : stOp P ops w k (wpStill P ops w Lq l) a := by unfold stOp; simp only [h0]; exact h
    obtain ⟨v, hy, hK⟩ := yieldsAt_of_stOp h0 hst
    exact wpAnyL_firstH h0 (Region.noSelect_spec hsel) hs hc hn hkn (fun listed' a' hL => by rw [hL.1]; exact hF) ks.length listed a inv (Region.free_spec h0 hf) hr' hy
      (wpAnyL_headH hsel hs hc hn LF hF ks l _ _ hl hF2 (inv.set hr' hkn) hB' hK)
/-- All that is asked of a region and of a listing of it. -/
def regH (md : Region.Mode) (ops : Array Oper) (n : Nat) (ks : List Nat) (listed : Array Bool) : Bool :=
  Region.noSelect ops && sinkG md ops n listed && chainH md ops n listed && decide (n < ops.size) && headG md ops n ks listed && closedG md ops listed && decide (listed.size = ops.size) && (Region.ready md ops (setAll ks listed)).all fun j => decide (n ≤ j)
theorem wpAny_headH {n : Nat} (ks : List Nat) (g : Nat) {l : List Oper} {listed : Array Bool} {a : Act} {Q : Exit → Act → World → Prop} (hB : regH md ops n ks listed = true) (hl : (ks.map fun k => ops[k]?) = l.map some)
    (h : wpStill P ops w (fun a' => wpAny P md ops Q g (setAll ks listed) a' w) l a) : wpAny P md ops Q (ks.length + g) listed a w := by
  simp only [regH, Bool.and_eq_true, decide_eq_true_eq] at hB
  obtain ⟨⟨⟨⟨⟨⟨⟨hsel, hs⟩, hc⟩, hn⟩, hh⟩, hcl⟩, hsz⟩, hF⟩ := hB
  have inv : InvH md ops n listed listed := by
    refine ⟨hsz, fun j oj hj hlj e he hb => ?_, fun _ _ _ h => h, fun _ h => h⟩
    have := List.all_eq_true.1 hcl j (List.mem_range.2 (Array.getElem?_eq_some_iff.1 hj).1)
    rw [hlj, hj] at this
    simp only [Bool.not_true, Bool.false_or] at this
    have := Array.all_eq_true'.1 this e he
    rw [hb] at this
    simpa using this
  exact wpAny_of_head (fun listed' a' hL => by rw [hL.1]; exact hL.2) _ _ _
    (wpAnyL_headH hsel hs hc hn (setAll ks listed) (fun j hj => by simpa using List.all_eq_true.1 hF j hj) ks l listed a hl rfl inv hh h)
end
section
variable {P : Program} {L : List Oper} {md : Region.Mode} {w : World}
/-- The same, with the region's operations as a list. -/
theorem wpAny_headLH {n : Nat} (ks : List Nat) (g : Nat) {l : List Oper} {listed : Array Bool} {a : Act} {Q : Exit → Act → World → Prop} (hB : regH md L.toArray n ks listed = true) (hl : Picks L ks l)
    (h : wpStill P L.toArray w (fun a' => wpAny P md L.toArray Q g (setAll ks listed) a' w) l a) : wpAny P md L.toArray Q (ks.length + g) listed a w :=
  wpAny_headH ks g hB ((get_toArray ks).trans hl.eq) h
end

/-! A region whose loads are taken first, since nobody writes their cells before the late operations (those from number n on) come up; behind a late operation nothing is asked of the world. -/
section
variable {P : Program} {ops : Array Oper} {Q : Exit → Act → World → Prop} {md : Region.Mode} {S : World → Prop}
def wpAnyE (P : Program) (md : Region.Mode) (ops : Array Oper) (Q : Exit → Act → World → Prop) (S : World → Prop) (n : Nat) : Nat → Array Bool → Act → World → Prop
  | 0, listed, a, w => Region.ready md ops listed = [] ∧ Q .normal a w
  | fuel + 1, listed, a, w =>
    (Region.ready md ops listed = [] → Q .normal a w) ∧
    ∀ i ∈ Region.ready md ops listed, wpOp P ops Q i (fun a' w' => (i < n → S w') ∧ wpAnyE P md ops Q S n fuel (listed.setIfInBounds i true) a' w') a w
theorem wpAny_of_E {n : Nat} : ∀ (fuel : Nat) (listed : Array Bool) (a : Act) (w : World), wpAnyE P md ops Q S n fuel listed a w → wpAny P md ops Q fuel listed a w
  | 0, _, _, _, h => h
  | fuel + 1, _, _, _, h => ⟨h.1, fun i hi => wpOp_mono (fun a' w' h' => wpAny_of_E fuel _ a' w' h'.2) (h.2 i hi)⟩
/-- What a listed operation waits for is listed. -/
def Closed (md : Region.Mode) (ops : Array Oper) (listed : Array Bool) : Prop := ∀ j oj, ops[j]? = some oj → listed.getD j false = true → ∀ e ∈ oj.after, Region.binds md e = true → listed.getD e.on false = true
theorem Closed.set {i : Nat} {listed : Array Bool} (h : Closed md ops listed) (hi : i ∈ Region.ready md ops listed) : Closed md ops (listed.setIfInBounds i true) := by
  obtain ⟨_, oi, hoi, hall⟩ := mem_ready.1 hi
  intro j oj hj hl e he hb
  by_cases hij : i = j
  · subst hij
    have : oj = oi := Option.some.inj (hj.symm.trans hoi)
    subst this
    exact getD_set_true (hall e he hb)
  · rw [getD_set_ne false hij] at hl
    exact getD_set_true (h j oj hj hl e he hb)
/-- Does one operation wait for another one, perhaps through others? -/
def waitsT (md : Region.Mode) (ops : Array Oper) : Nat → Nat → Nat → Bool
  | 0, _, _ => false
  | g + 1, z, i => Region.waitsFor md ops z i || (List.range z).any fun k => Region.waitsFor md ops z k && waitsT md ops g k i
theorem waitsT_block {listed : Array Bool} (hc : Closed md ops listed) {i : Nat} (hi : listed.getD i false = false) : ∀ (g z : Nat), waitsT md ops g z i = true → ∃ k, Region.waitsFor md ops z k = true ∧ listed.getD k false = false
  | 0, _, h => by cases h
  | g + 1, z, h => by
    unfold waitsT at h
    rw [Bool.or_eq_true] at h
    rcases h with h | h
    · exact ⟨i, h, hi⟩
    · obtain ⟨k, _, hk⟩ := List.any_eq_true.1 h
      rw [Bool.and_eq_true] at hk
      obtain ⟨k', h1, h2⟩ := waitsT_block hc hi g k hk.2
      refine ⟨k, hk.1, ?_⟩
      cases hl : listed.getD k false with
      | false => rfl
      | true =>
        obtain ⟨ok, hok, e, he, hb, hon⟩ := Region.waitsFor_spec h1
        have := hc k ok hok hl e he hb
        rw [hon, h2] at this
        cases this
theorem not_ready_of_waitsT {listed : Array Bool} (hc : Closed md ops listed) {i g z : Nat} (hi : listed.getD i false = false) (h : waitsT md ops g z i = true) : z ∉ Region.ready md ops listed := fun hr => by
  obtain ⟨k, h1, h2⟩ := waitsT_block hc hi g z h
  obtain ⟨_, oz, hoz, hall⟩ := mem_ready.1 hr
  obtain ⟨o', ho', e, he, hb, hon⟩ := Region.waitsFor_spec h1
  have : o' = oz := Option.some.inj (ho'.symm.trans hoz)
  subst this
  have h3 := hall e he hb
  rw [hon, h2] at h3
  cases h3
theorem wpAnyE_first {i n : Nat} {oi : Oper} {v : Value} (hi : ops[i]? = some oi) (hsel : ∀ (j : Nat) (o : Oper) cs b, ops[j]? = some o → o.op ≠ .select cs b)
    (hQ : ∀ c a w, Q (.panic c) (a.put oi.dst v) w → Q (.panic c) a w) (hz : ∀ z, n ≤ z → z < ops.size → waitsT md ops ops.size z i = true) :
    ∀ (fuel : Nat) (listed : Array Bool) (a : Act) (w : World), Closed md ops listed →
      (∀ j oj, ops[j]? = some oj → j ≠ i → listed.getD j true = false → (∀ e ∈ oj.after, Region.binds md e = true → e.on ≠ i) → oi.apart ops oj = true) →
      i ∈ Region.ready md ops listed → YieldsIf P ops S oi v a → S w →
      wpAnyE P md ops Q S n fuel (listed.setIfInBounds i true) (a.put oi.dst v) w → wpAnyE P md ops Q S n (fuel + 1) listed a w := by
  intro fuel
  induction fuel with
  | zero =>
    intro listed a w _ _ hr hy hS H
    refine ⟨fun h => (by rw [h] at hr; cases hr), fun j hj => ?_⟩
    by_cases hji : j = i
    · subst hji; exact hy.wpOp hi hS ⟨fun _ => hS, H⟩
    · have := ready_mono hj hji
      rw [H.1] at this
      cases this
  | succ fuel ih =>
    intro listed a w hcl hfree hr hy hS H
    refine ⟨fun h => (by rw [h] at hr; cases hr), fun j hj => ?_⟩
    by_cases hji : j = i
    · subst hji; exact hy.wpOp hi hS ⟨fun _ => hS, H⟩
    · have h1 := H.2 j (ready_mono hj hji)
      have hun := (mem_ready.1 hr).1
      have hjn : j < n := by
        rcases Nat.lt_or_ge j n with h | h
        · exact h
        · obtain ⟨_, oj, hoj, _⟩ := mem_ready.1 hj
          exact absurd hj (not_ready_of_waitsT hcl (getD_both hun) (hz j h (Array.getElem?_eq_some_iff.1 hoj).1))
      obtain ⟨hjun, oj, hoj, hall⟩ := mem_ready.1 hj
      have hnot : ∀ e ∈ oj.after, Region.binds md e = true → e.on ≠ i := fun e he hb heq => by
        have h1 := hall e he hb
        rw [heq, getD_both hun] at h1
        cases h1
      have h2 := wpOp_putIf hoj (hfree j oj hoj hji hjun hnot) (fun cs b => hsel i oi cs b hi) (fun cs b => hsel j oj cs b hoj) hQ hy h1
      have hfree' : ∀ k ok, ops[k]? = some ok → k ≠ i → (listed.setIfInBounds j true).getD k true = false →
          (∀ e ∈ ok.after, Region.binds md e = true → e.on ≠ i) → oi.apart ops ok = true := fun k ok hk hki hun hno => by
        refine hfree k ok hk hki ?_ hno
        by_cases hjk : j = k
        · subst hjk; exact hjun
        · rw [getD_set_ne true hjk] at hun; exact hun
      refine wpOp_mono (fun a' w' h3 => ⟨h3.2.1, ih (listed.setIfInBounds j true) a' w' (hcl.set hj) hfree' (ready_mono hr (Ne.symm hji)) h3.1 (h3.2.1 hjn) ?_⟩) h2
      rw [Array.setIfInBounds_comm _ _ hji]
      exact h3.2.2
/-- All that is asked of an operation that is taken first. -/
def takeE (md : Region.Mode) (ops : Array Oper) (n : Nat) (listed : Array Bool) (i : Nat) : Bool :=
  Region.noSelect ops && Region.free md ops listed i && (Region.ready md ops listed).contains i && closedG md ops listed && (List.range ops.size).all fun z => decide (z < n) || waitsT md ops ops.size z i
theorem wpAny_seqE {n : Nat} : ∀ (ks : List Nat) (l : List Oper) (listed : Array Bool) (a : Act) (w : World), (ks.map fun k => ops[k]?) = l.map some →
    seqG md ops ks listed = true → (ks.all fun k => decide (n ≤ k)) = true → wpList P ops Q l a w → wpAnyE P md ops Q S n ks.length listed a w
  | [], l, listed, a, w, hl, hB, _, h => by
    have : l = [] := by simpa using hl.symm
    subst this
    exact ⟨by simpa [seqG] using hB, h⟩
  | k :: ks, [], _, _, _, hl, _, _, _ => by simp at hl
  | k :: ks, o :: l, listed, a, w, hl, hB, hk, h => by
    simp only [List.map_cons, List.cons.injEq] at hl
    obtain ⟨h0, hl⟩ := hl
    simp only [seqG, Bool.and_eq_true, decide_eq_true_eq] at hB
    simp only [List.all_cons, Bool.and_eq_true, decide_eq_true_eq] at hk
    refine ⟨fun h1 => (by rw [hB.1] at h1; cases h1), fun i hi => ?_⟩
    rw [hB.1] at hi
    have hik : i = k := by simpa using hi
    subst hik
    have hw : wpOp P ops Q i (wpList P ops Q l) a w := by unfold wpOp; simp only [h0]; exact h
    exact wpOp_mono (fun a' w' h' => ⟨fun hlt => by have := hk.1; omega, wpAny_seqE ks l _ a' w' hl hB.2 hk.2 h'⟩) hw
end
section
variable {P : Program} {L : List Oper} {Q : Exit → Act → World → Prop} {md : Region.Mode} {S : World → Prop} {n fuel : Nat} {listed : Array Bool} {a : Act} {w : World}
theorem wp_region_E {id : Nat} (n : Nat) (S : World → Prop) (hm : P.follows .mixedOrders = true) (h : wpAnyE P .any L.toArray Q S n L.toArray.size (Array.replicate L.toArray.size false) a w.drew) : (Code.region id L.toArray true).wp P Q a w :=
  wp_region_any hm (wpAny_of_E _ _ _ _ h)
theorem wpAnyE_take {i : Nat} {oi : Oper} {v : Value} (hi : OpAt L i oi) (hB : takeE md L.toArray n listed i = true) (hQ : ∀ c a w, Q (.panic c) (a.put oi.dst v) w → Q (.panic c) a w) (hS : S w)
    (hw : Region.wanted oi (yielded L.toArray a.tmps) = true) (hv : ∀ w, S w → (execOp a.eval oi).run P w = .ok (.value v) w)
    (h : wpAnyE P md L.toArray Q S n fuel (listed.setIfInBounds i true) (a.put oi.dst v) w) : wpAnyE P md L.toArray Q S n (fuel + 1) listed a w := by
  simp only [takeE, Bool.and_eq_true] at hB
  obtain ⟨⟨⟨⟨hsel, hf⟩, hr⟩, hcl⟩, hz⟩ := hB
  have hi' : L.toArray[i]? = some oi := by simpa using hi.eq
  refine wpAnyE_first hi' (Region.noSelect_spec hsel) hQ (fun z h1 h2 => ?_) fuel listed a w (fun j oj hj hlj e he hb => ?_) (Region.free_spec hi' hf) (by simpa using hr) (Or.inl ⟨hw, hv⟩) hS h
  · have := List.all_eq_true.1 hz z (List.mem_range.2 h2)
    rw [Bool.or_eq_true] at this
    rcases this with h | h
    · simp only [decide_eq_true_eq] at h; omega
    · exact h
  · have := List.all_eq_true.1 hcl j (List.mem_range.2 (Array.getElem?_eq_some_iff.1 hj).1)
    rw [hlj, hj] at this
    simp only [Bool.not_true, Bool.false_or] at this
    have := Array.all_eq_true'.1 this e he
    rw [hb] at this
    simpa using this
/-- The one operation that may come up is carried out. -/
theorem wpAnyE_one {k : Nat} {o : Oper} (ho : OpAt L k o) (hr : Region.ready md L.toArray listed = [k])
    (h : ∀ K : Act → World → Prop, Shut (∀ a' w', (k < n → S w') → wpAnyE P md L.toArray Q S n fuel (listed.setIfInBounds k true) a' w' → K a' w') → if Region.wanted o (yielded L.toArray a.tmps) = true then Oper.wp P o a w K Q else K (a.put o.dst undef) w) :
    wpAnyE P md L.toArray Q S n (fuel + 1) listed a w := by
  refine ⟨fun h1 => (by rw [hr] at h1; cases h1), fun i hi => ?_⟩
  rw [hr] at hi
  have hik : i = k := by simpa using hi
  subst hik
  exact wpOp_step (by simpa using ho.eq) fun K hK => h K fun a' w' h1 h2 => hK a' w' ⟨h1, h2⟩
theorem wpAnyE_seq (ks : List Nat) {l : List Oper} (hl : Picks L ks l) (hB : seqG md L.toArray ks listed = true) (hk : (ks.all fun k => decide (n ≤ k)) = true) (h : wpList P L.toArray Q l a w) : wpAnyE P md L.toArray Q S n ks.length listed a w :=
  wpAny_seqE ks l listed a w ((get_toArray ks).trans hl.eq) hB hk h
end
end Wt

/- Walk: wittingref23.base. -/
namespace Wt
open Go Go.RowKit Go.Maps Go.Proofs Fm

section
variable {P : Program} {L : List Oper} {Q : Exit → Act → World → Prop} {md : Region.Mode} {S : World → Prop} {n fuel : Nat} {listed : Array Bool} {a : Act} {w : World}
theorem wpAnyE_skip {i : Nat} {oi : Oper} (hi : OpAt L i oi) (hB : takeE md L.toArray n listed i = true) (hQ : ∀ c a w, Q (.panic c) (a.put oi.dst undef) w → Q (.panic c) a w) (hS : S w)
    (hw : Region.wanted oi (yielded L.toArray a.tmps) = false)
    (h : wpAnyE P md L.toArray Q S n fuel (listed.setIfInBounds i true) (a.put oi.dst undef) w) : wpAnyE P md L.toArray Q S n (fuel + 1) listed a w := by
  simp only [takeE, Bool.and_eq_true] at hB
  obtain ⟨⟨⟨⟨hsel, hf⟩, hr⟩, hcl⟩, hz⟩ := hB
  have hi' : L.toArray[i]? = some oi := by simpa using hi.eq
  refine wpAnyE_first hi' (Region.noSelect_spec hsel) hQ (fun z h1 h2 => ?_) fuel listed a w (fun j oj hj hlj e he hb => ?_) (Region.free_spec hi' hf) (by simpa using hr) (Or.inr ⟨hw, rfl⟩) hS h
  · have := List.all_eq_true.1 hz z (List.mem_range.2 h2)
    rw [Bool.or_eq_true] at this
    rcases this with h | h
    · simp only [decide_eq_true_eq] at h; omega
    · exact h
  · have := List.all_eq_true.1 hcl j (List.mem_range.2 (Array.getElem?_eq_some_iff.1 hj).1)
    rw [hlj, hj] at this
    simp only [Bool.not_true, Bool.false_or] at this
    have := Array.all_eq_true'.1 this e he
    rw [hb] at this
    simpa using this
end
/-- The index of a number in a list, as the reference looks for it. -/
def fndJ (l : List Nat) (x : Nat) : Nat → Int
  | 0 => -1
  | j + 1 => if nth l j = x then (j : Int) else fndJ l x j
theorem fndJ_no {l : List Nat} {x : Nat} : ∀ j, (∀ i, i < j → nth l i ≠ x) → fndJ l x j = -1
  | 0, _ => rfl
  | j + 1, h => by
    unfold fndJ
    rw [if_neg (h j (by omega))]
    exact fndJ_no j fun i hi => h i (by omega)
theorem fndJ_at {l : List Nat} {x i : Nat} (hi : nth l i = x) : ∀ j, i < j → (∀ k, k < j → nth l k = x → k = i) → fndJ l x j = (i : Int)
  | 0, h, _ => absurd h (Nat.not_lt_zero _)
  | j + 1, h, hu => by
    unfold fndJ
    by_cases e : nth l j = x
    · rw [if_pos e, hu j (by omega) e]
    · rw [if_neg e]
      have hij : i ≠ j := fun h2 => e (h2 ▸ hi)
      exact fndJ_at hi j (by omega) fun k hk => hu k (by omega)
theorem repL_lt {L : List (BitVec 64)} {N i j : Nat} (hij : i < j) (hj : j < (repL L N).length) : nth (repL L N) i < nth (repL L N) j := by
  have h := List.pairwise_iff_getElem.1 (repL_pair L N) i j (by omega) hj hij
  rwa [nth_eq _ _ (by omega), nth_eq _ _ hj]
theorem repL_inj {L : List (BitVec 64)} {N i j : Nat} (hi : i < (repL L N).length) (hj : j < (repL L N).length) (h : nth (repL L N) i = nth (repL L N) j) : i = j := by
  rcases Nat.lt_trichotomy i j with h1 | h1 | h1
  · have := repL_lt h1 hj; omega
  · exact h1
  · have := repL_lt h1 hi; omega
theorem fnd_new {L : List (BitVec 64)} {k : Nat} (h : lowOf L k = k) : fndJ (repL L k) (lowOf L k) (repL L k).length = -1 := fndJ_no _ fun i hi e => by
  have h1 := rep_lt hi
  rw [e, h] at h1
  omega
theorem rep_pre {L : List (BitVec 64)} {k N j : Nat} (hk : k ≤ N) (hj : j < (repL L k).length) : nth (repL L N) j = nth (repL L k) j := by
  obtain ⟨m, hm⟩ := repL_prefix L k (N - k)
  rw [show k + (N - k) = N by omega] at hm
  rw [hm, nth_appL _ _ hj]
theorem fnd_old {L : List (BitVec 64)} {k N : Nat} (hk : k < N) (h : lowOf L k ≠ k) : fndJ (repL L k) (lowOf L k) (repL L k).length = ((clsOf L N k : Nat) : Int) := by
  have hc := (cls_next hk).2 h
  have hn := clsOf_nth L hk
  rw [rep_pre (by omega) hc] at hn
  exact fndJ_at hn _ hc fun i hi e => repL_inj hi hc (e.trans hn.symm)
/-- The lists of lowest worlds and of classes as the reference gathers them. -/
structure LoC (w0 : World) (L : List (BitVec 64)) (N k : Nat) (v1 v2 : Value) (wr : World) : Prop where
  a : GL w0 3 iv (natI (repL L k)) v1 wr
  b : GL w0 3 iv (natI ((List.range k).map (clsOf L N))) v2 wr
  ap : v1.ownBlock = none ∨ v2.ownBlock = none ∨ v1.ownBlock ≠ v2.ownBlock
section
variable {w0 wr W1 : World} {L : List (BitVec 64)} {N k : Nat} {v1 v2 v' : Value}
theorem LoC.ext' {w' : World} (h : LoC w0 L N k v1 v2 wr) (e : Ext wr w') : LoC w0 L N k v1 v2 w' := ⟨h.a.ext' e, h.b.ext' e, h.ap⟩
theorem GL.kept {α : Type} {enc : α → Value} {T : Nat} {l : List α} {v : Value} {r : Option Nat} (h : GL w0 T enc l v wr) (g : wr.grownBy W1 r) (hv : v.ownBlock = none ∨ v.ownBlock ≠ r) (hr : ∀ k, r = some k → w0.heap.size ≤ k) : GL w0 T enc l v W1 :=
  ⟨ext_of_grown h.e g hr, h.own.kept g hv⟩
/-- One list grows, the other stays. -/
theorem two_grow {la lb : List Nat} {x : Nat} {va vb : Value} {H g c n : Nat} (ha : GL w0 3 iv (natI la) va wr) (hb : GL w0 3 iv (natI lb) vb wr) (hap : va.ownBlock = none ∨ vb.ownBlock = none ∨ va.ownBlock ≠ vb.ownBlock)
    (ho : W1.ownsRow w0.heap.size 3 1 (.slice (some ⟨g, 0, none⟩) n c) (la.length + 1) ((natI la).map iv ++ [.int .i64 ((x : Nat) : Int)])) (hg : wr.grownBy W1 va.ownBlock) (hat : va.ownBlock = some g ∨ g = H) (hH : wr.heap.size ≤ H) :
    GL w0 3 iv (natI (la ++ [x])) (.slice (some ⟨g, 0, none⟩) n c) W1 ∧ GL w0 3 iv (natI lb) vb W1 ∧ (vb.ownBlock = none ∨ vb.ownBlock ≠ some g) := by
  refine ⟨?_, hb.kept hg ?_ fun k hk => (ha.own.lt k hk).1, ?_⟩
  · have e : natI (la ++ [x]) = natI la ++ [((x : Nat) : Int)] := by simp [natI]
    rw [e]
    exact ha.push (x := ((x : Nat) : Int)) (by rw [natI_ln]; exact ho) hg
  · rcases hap with h | h | h
    · rw [h]
      cases vb.ownBlock <;> simp
    · exact .inl h
    · exact .inr fun e => h e.symm
  · cases hvb : vb.ownBlock with
    | none => exact .inl rfl
    | some b =>
      right
      intro e
      simp only [Option.some.injEq] at e
      subst e
      rcases hat with h | h
      · rcases hap with h2 | h2 | h2
        · rw [h] at h2; cases h2
        · rw [hvb] at h2; cases h2
        · exact h2 (h.trans hvb.symm)
      · have := (hb.own.lt b hvb).2
        omega
theorem LoC.own1 (h : LoC w0 L N k v1 v2 wr) : wr.ownsRow w0.heap.size 3 1 v1 (repL L k).length ((natI (repL L k)).map iv) := by have := h.a.own; rwa [natI_ln] at this
theorem LoC.own2 (h : LoC w0 L N k v1 v2 wr) : wr.ownsRow w0.heap.size 3 1 v2 k ((natI ((List.range k).map (clsOf L N))).map iv) := by have := h.b.own; rwa [natI_ln, List.length_map, List.length_range] at this
/-- A class that is there already. -/
theorem LoC.old {H g c n : Nat} (h : LoC w0 L N k v1 v2 wr) (hlo : lowOf L k ≠ k) (ho : W1.ownsRow w0.heap.size 3 1 (.slice (some ⟨g, 0, none⟩) n c) (k + 1) ((natI ((List.range k).map (clsOf L N))).map iv ++ [.int .i64 ((clsOf L N k : Nat) : Int)])) (hg : wr.grownBy W1 v2.ownBlock) (hat : v2.ownBlock = some g ∨ g = H) (hH : wr.heap.size ≤ H) :
    LoC w0 L N (k + 1) v1 (.slice (some ⟨g, 0, none⟩) n c) W1 := by
  obtain ⟨h1, h2, h3⟩ := two_grow h.b h.a (by rcases h.ap with h | h | h; exact .inr (.inl h); exact .inl h; exact .inr (.inr fun e => h e.symm)) (by rw [List.length_map, List.length_range]; exact ho) hg hat hH
  refine ⟨?_, ?_, ?_⟩
  · rw [repL_succ, if_neg hlo, List.append_nil]; exact h2
  · rw [List.range_succ, List.map_append]; exact h1
  · rcases h3 with h | h
    · exact .inl h
    · exact .inr (.inr h)
/-- A new class, half done. -/
structure LoM (w0 : World) (L : List (BitVec 64)) (N k : Nat) (v1 v2 : Value) (wr : World) : Prop where
  a : GL w0 3 iv (natI (repL L (k + 1))) v1 wr
  b : GL w0 3 iv (natI ((List.range k).map (clsOf L N))) v2 wr
  ap : v2.ownBlock = none ∨ v2.ownBlock ≠ v1.ownBlock
theorem LoM.ext' {w' : World} (h : LoM w0 L N k v1 v2 wr) (e : Ext wr w') : LoM w0 L N k v1 v2 w' := ⟨h.a.ext' e, h.b.ext' e, h.ap⟩
theorem LoM.own2 (h : LoM w0 L N k v1 v2 wr) : wr.ownsRow w0.heap.size 3 1 v2 k ((natI ((List.range k).map (clsOf L N))).map iv) := by have := h.b.own; rwa [natI_ln, List.length_map, List.length_range] at this
theorem LoC.new {H g c n : Nat} (h : LoC w0 L N k v1 v2 wr) (hlo : lowOf L k = k) (ho : W1.ownsRow w0.heap.size 3 1 (.slice (some ⟨g, 0, none⟩) n c) ((repL L k).length + 1) ((natI (repL L k)).map iv ++ [.int .i64 ((k : Nat) : Int)])) (hg : wr.grownBy W1 v1.ownBlock) (hat : v1.ownBlock = some g ∨ g = H) (hH : wr.heap.size ≤ H) :
    LoM w0 L N k (.slice (some ⟨g, 0, none⟩) n c) v2 W1 := by
  obtain ⟨h1, h2, h3⟩ := two_grow h.a h.b h.ap ho hg hat hH
  refine ⟨?_, h2, h3⟩
  rw [repL_succ, if_pos hlo]; exact h1
theorem LoM.done {H g c n : Nat} (h : LoM w0 L N k v1 v2 wr) (hN : clsOf L N k = (repL L k).length) (ho : W1.ownsRow w0.heap.size 3 1 (.slice (some ⟨g, 0, none⟩) n c) (k + 1) ((natI ((List.range k).map (clsOf L N))).map iv ++ [.int .i64 (((repL L k).length : Nat) : Int)])) (hg : wr.grownBy W1 v2.ownBlock) (hat : v2.ownBlock = some g ∨ g = H) (hH : wr.heap.size ≤ H) :
    LoC w0 L N (k + 1) v1 (.slice (some ⟨g, 0, none⟩) n c) W1 := by
  obtain ⟨h1, h2, h3⟩ := two_grow (x := clsOf L N k) h.b h.a (by rcases h.ap with h | h; exact .inl h; exact .inr (.inr h)) (by rw [List.length_map, List.length_range, hN]; exact ho) hg hat hH
  refine ⟨h2, ?_, ?_⟩
  · rw [List.range_succ, List.map_append]; exact h1
  · rcases h3 with h | h
    · exact .inl h
    · exact .inr (.inr h)
end
theorem RI_app {l : List Nat} {x : Nat} : natI (l ++ [x]) = natI l ++ [((x : Nat) : Int)] := by simp [natI]
theorem cls_snoc (L : List (BitVec 64)) (N k : Nat) : natI ((List.range (k + 1)).map (clsOf L N)) = natI ((List.range k).map (clsOf L N)) ++ [((clsOf L N k : Nat) : Int)] := by
  simp [natI, List.range_succ]
theorem cls_ln (L : List (BitVec 64)) (N k : Nat) : ((List.range k).map (clsOf L N)).length = k := by simp
/-- What base returns. -/
def RetBa (V : List (BitVec 64)) (cls reps : List Nat) (e : Ending) (w w' : World) : Prop := ∃ va vc la lc ca cc, e = .returned (.tuple #[.agg #[.int .i64 (reps.length : Int), .slice va V.length vc, .slice none 0 0], .slice ca cls.length cc, .slice la reps.length lc]) ∧
  (∀ w'', Agree w.heap.size w' w'' → OU w'' w.heap.size (.slice va V.length vc) V ∧ RI w'' ca (natI cls) ∧ RI w'' la (natI reps)) ∧ Ext w w'
end Wt
