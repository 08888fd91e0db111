/- Walks: wittingref01.bit, Has, All, Members, Count, Same. -/
import Derived.Test.YtflnfcmbalhpnaaGreatDoorM4Ao
import Derived.Test.YtflnfcmbalhpnaaGreatDoorM4Bh
import Derived.Test.YtflnfcmbalhpnaaGreatDoorM4Ay
namespace Wt
open Go Go.RowKit Go.Maps Go.Proofs Fm

theorem bit_and_ne (s : BitVec 64) {n : Nat} (h : n < 64) : ((s &&& 1#64 <<< n) != 0#64) = bt s n := by
  unfold bt
  have e : (s &&& 1#64 <<< n) = 0#64 ↔ s.getLsbD n = false := by
    constructor
    · intro h1
      have := congrArg (fun x => BitVec.getLsbD x n) h1
      simpa [h] using this
    · intro h1
      apply BitVec.eq_of_getLsbD_eq
      intro i hi
      simp only [BitVec.getLsbD_and, BitVec.getLsbD_shiftLeft, BitVec.getLsbD_one, BitVec.getLsbD_zero]
      by_cases hin : i = n
      · subst hin; simp [h1]
      · by_cases h2 : i < n
        · simp [h2]
        · have : ¬ (i - n = 0) := by omega
          simp [this]
  cases hb : s.getLsbD n
  · rw [e.2 hb]; rfl
  · have : ¬ (s &&& 1#64 <<< n) = 0#64 := fun h1 => by rw [e.1 h1] at hb; cases hb
    simpa using this
set_option maxHeartbeats 1000000 in
theorem r01bit_any (n : Nat) (w : World) (h : n < 64) :
    Calls Tryz.prog 158 #[.int .i64 (n : Int)] w fun e w' => e = .returned (.int .u64 (un (1#64 <<< n))) ∧ w = w' := by
  go_enter Tryz.func158, Tryz.ntmps158
  go_wp2
  go_ret
  exact ⟨rfl, rfl⟩
set_option maxHeartbeats 1000000 in
theorem r01Has_any (s : BitVec 64) (i : Int) (w : World) :
    Calls Tryz.prog 123 #[.int .u64 (un s), .int .i64 i] w fun e w' => e = .returned (.bool (hasW s i)) ∧ w = w' := by
  by_cases h0 : 0 ≤ i
  · obtain ⟨n, rfl⟩ := Int.eq_ofNat_of_zero_le h0
    by_cases h1 : n < 64
    · have HB := Lib.hid (bit_and_ne s h1)
      go_enter Tryz.func123, Tryz.ntmps123
      go_wp2_with (go_at_call 158; refine (r01bit_any n _ h1).mono ?_; rintro _ _ ⟨rfl, rfl⟩)
      go_ret
      exact ⟨by rw [HB.out, hasW_nat]; rfl, rfl⟩
    · have h2 : bt s n = false := BitVec.getLsbD_of_ge _ _ (by omega)
      have H2 := Lib.hid h2
      clear h2
      go_enter Tryz.func123, Tryz.ntmps123
      go_wp2
      go_ret
      exact ⟨by simp [hasW, H2.out], rfl⟩
  · go_enter Tryz.func123, Tryz.ntmps123
    go_wp2
    go_ret
    refine ⟨?_, rfl⟩
    unfold hasW
    rw [if_neg (by omega)]
    rfl
set_option maxRecDepth 20000 in
set_option maxHeartbeats 2000000 in
theorem r01Members_any (s : BitVec 64) (w : World) :
    Calls Tryz.prog 88 #[.int .u64 (un s)] w fun e w' => RetI (natI (memL s)) e w w' := by
  obtain ⟨i0, hi1, hz0, hz1, hz2⟩ := info_parts int_info
  go_enter Tryz.func88, Tryz.ntmps88
  go_wp2
  go_loopw [3, 4] (fun v i wr => ∃ k : Nat, k ≤ 64 ∧ i = .int .i64 (k : Int) ∧ MbE w s k v wr) (fun _ i _ => 64 - (intOf i).toNat)
  case atStart => exact ⟨0, Nat.zero_le _, rfl, Ext.refl _, World.ownsRow_nil _ _ _ _⟩
  case round =>
    obtain ⟨k, hk, rfl, hM⟩ := hrel
    have hM : GL w 3 iv (natI ((List.range k).filter (bt s))) u3 wr := hM
    have HM := Lib.hid hM
    by_cases hlt : k < 64
    · cases hb : bt s k
      · have HB := Lib.hid hb
        have hn : (List.range (k + 1)).filter (bt s) = (List.range k).filter (bt s) := by rw [filter_succ, hb]; simp
        have HN := Lib.hid hn
        clear hM hb hn
        go_wp2_with (go_at_call 123; refine (r01Has_any s (k : Int) _).mono ?_; rintro _ _ ⟨rfl, rfl⟩; rw [hasW_nat, HB.out])
        go_roundw
        case rel => exact ⟨k + 1, hlt, by go_num, by show GL _ _ _ _ _ _; rw [HN.out]; exact HM.out⟩
        case measure => simp [intOf]; omega
      · have HB := Lib.hid hb
        have hn : natI ((List.range (k + 1)).filter (bt s)) = natI ((List.range k).filter (bt s)) ++ [(k : Int)] := by rw [filter_succ, hb]; simp [natI]
        have HN := Lib.hid hn
        have hll := natI_len ((List.range k).filter (bt s))
        have hlk := filter_len s k
        have HO : Hid (∀ o, (wr.alloc o).ownsRow w.heap.size 3 1 u3 (natI ((List.range k).filter (bt s))).length ((natI ((List.range k).filter (bt s))).map iv)) := fun o => (HM.out.ext' ((Ext.refl wr).alloc o)).own
        have HPA : Hid (∀ o, GL w 3 iv (natI ((List.range k).filter (bt s))) u3 (wr.alloc o)) := fun o => HM.out.ext' ((Ext.refl wr).alloc o)
        have HONE : Hid (∀ u ∈ [Value.int .i64 (k : Int)], u.oneCell' = true) := fun u hu => by
          rcases List.mem_singleton.1 hu with rfl
          rfl
        have hsz1 : w.heap.size ≤ wr.heap.size := hM.e.size
        generalize hF : natI ((List.range k).filter (bt s)) = F at *
        clear hM hb hn hF
        go_wp2_with (first | (go_at_call 123; refine (r01Has_any s (k : Int) _).mono ?_; rintro _ _ ⟨rfl, rfl⟩; rw [hasW_nat, HB.out]) | (at_builtin; refine wpList_append_lies _ rfl _ _ 26 rfl w.heap.size 3 i0 _ 1 8 Tryz.underlying26 hi1 hz0 hz1 hz2 rfl (by decide) u3 F.length _ rfl (HO.out _) ⟨wr.heap.size, 0, none⟩ 1 1 [.int .i64 (k : Int)] rfl rfl (cell_one_new _ _ _) HONE.out (by decide) (by unfold maxLen; omega) (by omega) (Nat.le_trans hsz1 (by simp)) (wr.heap.size + 1) (by simp) ?_; intro gx cap W1 hown hgrow hat hlt2; have hpush := (HPA.out _).push (x := (k : Int)) hown hgrow; have HPU := Lib.hid hpush; clear hpush hown hgrow hat))
        go_roundw
        case rel => exact ⟨k + 1, hlt, by go_num, by show GL _ _ _ _ _ _; rw [HN.out, ← hll]; exact HPU.out⟩
        case measure => simp [intOf]; omega
    · obtain rfl : k = 64 := by omega
      have hlen := memL_len s
      obtain ⟨a, c, hv, hu⟩ := RetI_of (show GL w 3 iv (natI (memL s)) u3 wr from hM) (by rw [natI_len]; omega)
      have HU := Lib.hid hu
      have HV := Lib.hid hv
      clear hM hu hv hlen
      go_wp2
      go_ret
      exact ⟨a, c, by rw [HV.out]; rfl, HU.out, HM.out.e⟩
end Wt

namespace Wt
open Go Go.RowKit Go.Maps Go.Proofs Fm

theorem RB_of_own {w : World} {B : Nat} {v : Value} {l : List Bool} (h : w.ownsRow B 4 1 v l.length (l.map Value.bool)) (hl : l.length ≤ 140737488355328) : ∃ a c, v = .slice a l.length c ∧ RB w a l := by
  rcases h.2 with ⟨rfl, h0⟩ | ⟨g, cap, cur, rfl, rest⟩
  · have : l = [] := List.eq_nil_of_length_eq_zero h0
    subst this
    exact ⟨none, 0, rfl, RB.nil _ _⟩
  · exact ⟨some ⟨g, 0, none⟩, cap, rfl, RB_of_OG (base := B) (T := 4) (c := cap) ⟨rfl, h⟩ hl⟩
set_option maxHeartbeats 1000000 in
theorem r09Prop_any (o : Int) (w : World) : Calls Tryz.prog 115 #[.int .i64 o] w fun e w' => e = .returned (.bool (decide (1 ≤ o) && decide (o ≤ 8))) ∧ w = w' := by
  cases h : decide (1 ≤ o)
  all_goals
    go_enter Tryz.func115, Tryz.ntmps115
    go_wp2
    go_ret
    exact ⟨rfl, rfl⟩
set_option maxRecDepth 20000 in
set_option maxHeartbeats 4000000 in
theorem r09value_any (n : Nd) (v : Nat) (L : List Bool) (va : Option Addr) (vc : Nat) (w : World) (hv : RB w va L) (X Y : Nat) (hX : n.x = X) (hY : n.y = Y) (hX4 : 4 ≤ n.op → X < L.length) (hY5 : 5 ≤ n.op → Y < L.length) (h1 : 1 ≤ n.op) (h8 : n.op ≤ 8) (hi : 0 ≤ n.i) (hi2 : n.op = 3 → n.i < 64) (hv2 : v < 9223372036854775808) :
    Calls Tryz.prog 117 #[n.val, .slice va L.length vc, .int .i64 (v : Int)] w fun e w' => e = .returned (.bool (pvN v.testBit n.op n.i (nth L X) (nth L Y))) ∧ Ext w w' := by
  obtain ⟨o, i, en, g, x, y⟩ := n
  dsimp only [Nd.val] at *
  subst hX hY
  obtain ⟨I, rfl⟩ := Int.eq_ofNat_of_zero_le hi
  have hll := hv.len
  rcases (show o = 1 ∨ o = 2 ∨ o = 3 ∨ o = 4 ∨ o = 5 ∨ o = 6 ∨ o = 7 ∨ o = 8 by omega) with rfl | rfl | rfl | rfl | rfl | rfl | rfl | rfl
  · go_enter Tryz.func117, Tryz.ntmps117
    go_wp2
    go_ret
    exact ⟨rfl, (Ext.refl w).alloc _⟩
  · go_enter Tryz.func117, Tryz.ntmps117
    go_wp2
    go_ret
    exact ⟨rfl, (Ext.refl w).alloc _⟩
  · have hi3 := hi2 rfl
    go_enter Tryz.func117, Tryz.ntmps117
    go_wp2
    go_ret
    exact ⟨by rw [pvN_fact]; rfl, (Ext.refl w).alloc _⟩
  · obtain ⟨b, off, rfl, hb, hc⟩ := hv.get (hX4 (by omega))
    have hXl := hX4 (by omega)
    clear hv hX4 hY5
    go_enter Tryz.func117, Tryz.ntmps117
    go_wp2
    go_ret
    exact ⟨rfl, (Ext.refl w).alloc _⟩
  all_goals
    obtain ⟨b, off, rfl, hb, hc⟩ := hv.get (hX4 (by omega))
    obtain ⟨b2, off2, he2, hb2, hc2⟩ := hv.get (hY5 (by omega))
    simp only [Option.some.injEq, Addr.mk.injEq] at he2
    obtain ⟨rfl, rfl, -⟩ := he2
    have hXl := hX4 (by omega)
    have hYl := hY5 (by omega)
    clear hv hX4 hY5
    generalize nth L X = sx at *
    generalize nth L Y = sy at *
  iterate 3
    · cases sx
      all_goals
        go_enter Tryz.func117, Tryz.ntmps117
        go_wp2
        go_ret
        exact ⟨by first | rfl | (cases sy <;> rfl), (Ext.refl w).alloc _⟩
  · go_enter Tryz.func117, Tryz.ntmps117
    go_wp2_with fail
    go_quiet (fail)
    go_wp2
    go_ret
    exact ⟨by first | rfl | (cases sx <;> cases sy <;> rfl), by first | exact ((Ext.refl w).alloc _).drewN _ | exact ((Ext.refl w).drewN _).alloc _⟩
end Wt

namespace Wt
open Go Go.RowKit Go.Maps Go.Proofs Fm

theorem compact_compact {f : List Nd} (h : fCheck f = 0) : fCompact (fCompact f) = fCompact f := by
  have If := IsF.of h
  have e := If.compact
  rw [e]
  exact (IsF.mk' If.fk (by have h1 := If.sz; have h2 := (fCheck_ok.1 h).2.1; omega)).compact
theorem prop_and {o : Int} (h1 : 1 ≤ o) (h8 : o ≤ 8) : (decide (1 ≤ o) && decide (o ≤ 8)) = true := by simp [h1, h8]
theorem tabErr_op {f : List Nd} {n : Int} (h1 : fCheck f = 0) {k : Nat} (hk : k < (fCompact f).length) (h : (decide (1 ≤ (nth (fCompact f) k).op) && decide ((nth (fCompact f) k).op ≤ 8)) = false) : tabErr f n = 10 ∧ tabOf f n = 0#64 := by
  have h2 : fFrags f ≠ 0 := fun h2 => by
    obtain ⟨a, b⟩ := prop_ops h2 _ (nth_mem hk)
    rw [prop_and a b] at h; cases h
  have hn : tabErr f n = 10 := by unfold tabErr; rw [if_neg (by simp [h1]), if_pos h2]
  exact ⟨hn, by unfold tabOf; rw [if_neg (by rw [hn]; omega)]⟩
theorem frags_nth {f : List Nd} (h : ∀ k, k < (fCompact f).length → (decide (1 ≤ (nth (fCompact f) k).op) && decide ((nth (fCompact f) k).op ≤ 8)) = true) : fFrags f = 0 := frags_of_ops fun n hn => by
  obtain ⟨k, hk, rfl⟩ := mem_nth hn
  have := h k hk
  simp at this
  exact this.2
theorem tabErr_range {f : List Nd} {n : Int} (h1 : fCheck f = 0) (h2 : fFrags f = 0) (h : n < 0 ∨ 6 < n ∨ (0 ≤ n ∧ n ≤ 6 ∧ (sr (fFacts f) n.toNat != 0) = true)) : tabErr f n = 2 ∧ tabOf f n = 0#64 := by
  have hn : tabErr f n = 2 := by
    unfold tabErr
    rw [if_neg (by simp [h1]), if_neg (by simp [h2]), if_pos]
    rcases h with h | h | ⟨h0, h6, h⟩
    · exact .inl h
    · exact .inr (.inl h)
    · right; right
      rw [fits_prop h1 h2 (by omega)]
      unfold sr at h
      cases he : (fFacts f >>> n.toNat == 0)
      · rfl
      · rw [beq_iff_eq] at he; rw [he] at h; cases h
  exact ⟨hn, by unfold tabOf; rw [if_neg (by rw [hn]; omega)]⟩
theorem tabErr_fine {f : List Nd} {N : Nat} (h1 : fCheck f = 0) (h2 : fFrags f = 0) (h6 : N ≤ 6) (h : (sr (fFacts f) N != 0) = false) : tabErr f N = 0 := by
  unfold tabErr
  rw [if_neg (by simp [h1]), if_neg (by simp [h2]), if_neg]
  rw [Int.toNat_natCast, fits_prop h1 h2 h6]
  unfold sr at h
  have : fFacts f >>> N = 0 := by
    rcases Nat.eq_zero_or_pos (fFacts f >>> N) with h0 | h0
    · exact h0
    · have : (((fFacts f >>> N : Nat) : Int) != 0) = true := by rw [bne_iff_ne]; omega
      rw [this] at h; cases h
  rw [this]; simp; omega
theorem facts_compact {f : List Nd} (h : fCheck f = 0) : fFacts (fCompact f) = fFacts f := by
  unfold fFacts; rw [compact_compact h]
def pvL (e : Nat → Bool) (c : List Nd) (k : Nat) : List Bool := (List.range k).map fun j => pv e (trAt c j)
theorem pvL_len (e : Nat → Bool) (c : List Nd) (k : Nat) : (pvL e c k).length = k := by simp [pvL]
theorem pvL_nth (e : Nat → Bool) (c : List Nd) {k j : Nat} (h : j < k) : nth (pvL e c k) j = pv e (trAt c j) := by unfold pvL; rw [nth_mapN _ _ (by simpa using h), nth_range h]
theorem pvL_step (e : Nat → Bool) (c : List Nd) (k : Nat) : pvL e c (k + 1) = pvL e c k ++ [pv e (trAt c k)] := by
  unfold pvL; rw [List.range_succ, List.map_append]; rfl
def PvE (w : World) (e : Nat → Bool) (c : List Nd) (k : Nat) (v : Value) (wr : World) : Prop := GL w 4 Value.bool (pvL e c k) v wr
set_option maxRecDepth 20000 in
set_option maxHeartbeats 8000000 in
theorem r09Table_any (fa : Option Addr) (fc : Nat) (f : List Nd) (n : Int) (w : World) (hf : RN w fa f) :
    Calls Tryz.prog 80 #[.slice fa f.length fc, .int .i64 n] w fun e w' => RetP (.int .u64 (un (tabOf f n))) (tabErr f n) e w w' := by
  obtain ⟨i0, hi1, hz0, hz1, hz2⟩ := info_parts bool_info
  have HC := Lib.hid (r5Check_any fa fc f w hf)
  by_cases h1 : fCheck f = 0
  rotate_left
  · have hn : tabErr f n = fCheck f := by unfold tabErr; rw [if_pos h1]
    have hn2 : tabOf f n = 0#64 := by unfold tabOf; rw [if_neg (by rw [hn]; exact h1)]
    have hq : (fCheck f != 0) = true := by simp [h1]
    have HN := Lib.hid hn
    have HN2 := Lib.hid hn2
    clear hn hn2 h1 hf
    go_enter Tryz.func80, Tryz.ntmps80
    go_wp2_with (go_at_call 113; refine (HC.out).mono ?_; rintro e w1 ⟨rfl, hE1⟩)
    go_ret2
    exact ⟨by rw [HN.out, HN2.out]; rfl, hE1⟩
  have H1 := Lib.hid h1
  have HOPB : Hid (∀ k, k < (fCompact f).length → (decide (1 ≤ (nth (fCompact f) k).op) && decide ((nth (fCompact f) k).op ≤ 8)) = false → tabErr f n = 10 ∧ tabOf f n = 0#64) := Lib.hid fun k hk h => tabErr_op h1 hk h
  have HFR : Hid ((∀ k, k < (fCompact f).length → (decide (1 ≤ (nth (fCompact f) k).op) && decide ((nth (fCompact f) k).op ≤ 8)) = true) → fFrags f = 0) := Lib.hid frags_nth
  have HOP8 : Hid (fFrags f = 0 → ∀ k, k < (fCompact f).length → 1 ≤ (nth (fCompact f) k).op ∧ (nth (fCompact f) k).op ≤ 8) := Lib.hid fun h k hk => prop_ops h _ (nth_mem hk)
  have HND : Hid (∀ k, k < (fCompact f).length → (nth (fCompact f) k).op = 3 → (nth (fCompact f) k).i < 64) := Lib.hid fun k hk h => by
    have := ((fCompact_ok f).1 _ (nth_mem hk)).fact (by rw [h]; rfl)
    omega
  obtain ⟨c1, c2, c3⟩ := compact_wfT h1
  have hcl := (fCompact_ok f).2
  have HW := Lib.hid c1
  have HRT := Lib.hid c2
  have HCO : Hid (∀ w, RN w fa f → Calls Tryz.prog 114 #[.slice fa f.length fc] w fun e w' => RetN (fCompact f) e w w') := Lib.hid fun w h => r5Compact_any fa fc f w h
  have HFC := Lib.hid (facts_compact h1)
  have hF8 : fFacts (fCompact f) < 9223372036854775808 := Nat.lt_of_lt_of_le (fFacts_lt _) (by decide)
  have HF := Lib.hid hf
  clear h1 hf c1 c2
  generalize fCompact f = c at *
  go_enter Tryz.func80, Tryz.ntmps80
  go_wp2_with (first | (go_at_call 113; refine (HC.out).mono ?_; rintro e w1 ⟨rfl, hE1⟩; rw [H1.out]) | (go_at_call 114; refine (HCO.out _ (HF.out.ext hE1)).mono ?_; rintro e w2 ⟨ca, cc, rfl, hrc, hE2⟩))
  have HEE := Lib.hid (hE1.trans hE2)
  have HRC := Lib.hid hrc
  clear hE1 hE2 hrc HC HCO
  go_loop [7] (fun i => ∃ k : Nat, k ≤ c.length ∧ i = .int .i64 (k : Int) ∧ Hid (∀ j, j < k → (decide (1 ≤ (nth c j).op) && decide ((nth c j).op ≤ 8)) = true)) (fun i => c.length - (intOf i).toNat)
  case atStart => exact ⟨0, Nat.zero_le _, rfl, Lib.hid fun j hj => absurd hj (Nat.not_lt_zero _)⟩
  case round =>
    obtain ⟨k, hk, rfl, hok⟩ := hrel
    by_cases hlt : k < c.length
    · obtain ⟨b, off, rfl, hb, n0, n1, n2, n3, n4, n5⟩ := HRC.out.get hlt
      cases hp : (decide (1 ≤ (nth c k).op) && decide ((nth c k).op ≤ 8))
      · obtain ⟨hn, hn2⟩ := HOPB.out k hlt hp
        have HN := Lib.hid hn
        have HN2 := Lib.hid hn2
        have HP := Lib.hid hp
        clear hn hn2 hp
        go_wp2_with (go_at_call 115; refine (r09Prop_any _ _).mono ?_; rintro _ _ ⟨rfl, rfl⟩; rw [HP.out])
        go_ret2
        exact ⟨by rw [HN.out, HN2.out]; rfl, HEE.out⟩
      · have HP := Lib.hid hp
        clear hp
        go_wp2_with (go_at_call 115; refine (r09Prop_any _ _).mono ?_; rintro _ _ ⟨rfl, rfl⟩; rw [HP.out])
        go_round
        case rel => exact ⟨k + 1, hlt, by go_num, lt_step hok HP.out⟩
        case measure => simp [intOf]; omega
    · obtain rfl : k = c.length := by omega
      have h2 := HFR.out hok.out
      have hop := HOP8.out h2
      have HOP := Lib.hid hop
      have H2 := Lib.hid h2
      clear hok h2 hop HOPB HFR HOP8
      by_cases h3 : n < 0
      · obtain ⟨hn, hn2⟩ := tabErr_range (n := n) H1.out H2.out (.inl h3)
        have hd : decide (n < 0) = true := decide_eq_true h3
        have HN := Lib.hid hn
        have HN2 := Lib.hid hn2
        cases h6 : decide (6 < n)
        all_goals
          clear hn hn2
          go_wp2
          go_ret2
          exact ⟨by rw [HN.out, HN2.out]; rfl, HEE.out⟩
      obtain ⟨N, rfl⟩ := Int.eq_ofNat_of_zero_le (show 0 ≤ n by omega)
      have hd : decide ((N : Int) < 0) = false := decide_eq_false h3
      by_cases h6 : 6 < N
      · obtain ⟨hn, hn2⟩ := tabErr_range (n := (N : Int)) H1.out H2.out (.inr (.inl (by omega)))
        have hd6 : decide ((6 : Int) < N) = true := decide_eq_true (by omega)
        have HN := Lib.hid hn
        have HN2 := Lib.hid hn2
        clear hn hn2 h6 h3
        go_wp2
        go_ret2
        exact ⟨by rw [HN.out, HN2.out]; rfl, HEE.out⟩
      have hd6 : decide ((6 : Int) < N) = false := decide_eq_false (by omega)
      have HFX : Hid (∀ w', Ext w2 w' → Calls Tryz.prog 116 #[.slice ca c.length cc] w' fun e w'' => e = .returned (.int .i64 (fFacts c : Int)) ∧ Ext w' w'') := Lib.hid fun w' h => r5Facts_any ca cc c w' (HRC.out.ext h)
      have HTR : Hid ((sr (fFacts c) N != 0) = true → tabErr f N = 2 ∧ tabOf f N = 0#64) := Lib.hid fun h => tabErr_range H1.out H2.out (.inr (.inr ⟨by omega, by omega, by rw [HFC.out] at h; simpa using h⟩))
      have HTF : Hid ((sr (fFacts c) N != 0) = false → tabErr f N = 0) := Lib.hid fun h => tabErr_fine H1.out H2.out (by omega) (by rw [HFC.out] at h; exact h)
      clear HFC
      generalize fFacts c = F at *
      cases hs : (sr F N != 0)
      rotate_left
      · obtain ⟨hn, hn2⟩ := HTR.out hs
        have hN6 : N ≤ 6 := by omega
        have HN := Lib.hid hn
        have HN2 := Lib.hid hn2
        clear hn hn2 h6 h3 HTR HTF
        go_wp2_with (go_at_call 116; refine (HFX.out _ (Ext.refl _)).mono ?_; rintro _ w3 ⟨rfl, hE3⟩)
        go_ret2
        exact ⟨by rw [HN.out, HN2.out]; rfl, HEE.out.trans hE3⟩
      · have hn := HTF.out hs
        have hn2 : tabOf f N = setTo (fun v => pv v.testBit (rt f)) (2 ^ N) := by rw [tab_eq hn]; simp
        have hN6 : N ≤ 6 := by omega
        have hN63 : N < 63 := by omega
        have hp := pow6 hN6
        have HN := Lib.hid hn
        have HN2 := Lib.hid hn2
        clear hn hn2 h6 h3 HTR HTF
        go_wp2_with (go_at_call 116; refine (HFX.out _ (Ext.refl _)).mono ?_; rintro _ w3 ⟨rfl, hE3⟩)
        have HE3 := Lib.hid hE3
        clear hE3 HFX
        go_loopw [8, 9] (fun s i wr => ∃ k : Nat, k ≤ 2 ^ N ∧ i = .int .i64 (k : Int) ∧ s = .int .u64 (un (setTo (fun v => pv v.testBit (rt f)) k)) ∧ Ext w3 wr) (fun _ i _ => 2 ^ N - (intOf i).toNat)
        case atStart => exact ⟨0, Nat.zero_le _, rfl, rfl, Ext.refl _⟩
        case round =>
          rename World => wr
          obtain ⟨k, hk, rfl, rfl, hE⟩ := hrel
          have hk64 : k ≤ 64 := by omega
          by_cases hlt : k < 2 ^ N
          · have hd1 : decide ((k : Int) < p2 N) = true := decide_eq_true (by unfold p2; omega)
            have HEr := Lib.hid (HE3.out.trans hE)
            have HEq := Lib.hid hE
            have HST : Hid (setTo (fun v => pv v.testBit (rt f)) (k + 1) = if pv k.testBit (rt f) then setTo (fun v => pv v.testBit (rt f)) k ||| 1#64 <<< k else setTo (fun v => pv v.testBit (rt f)) k) := Lib.hid rfl
            clear hE
            go_wp2_with fail
            go_loopw [10, 11] (fun v i wz => ∃ j : Nat, j ≤ c.length ∧ i = .int .i64 (j : Int) ∧ PvE wr k.testBit c j v wz) (fun _ i _ => c.length - (intOf i).toNat)
            case atStart => exact ⟨0, Nat.zero_le _, rfl, Ext.refl _, World.ownsRow_nil _ _ _ _⟩
            case round =>
              rename World => wz
              obtain ⟨j, hj, rfl, hGL⟩ := hrel
              have hGL : GL wr 4 Value.bool (pvL k.testBit c j) u10 wz := hGL
              have HGL := Lib.hid hGL
              by_cases hjl : j < c.length
              · obtain ⟨b, off, rfl, hb, n0, n1, n2, n3, n4, n5⟩ := (HRC.out.ext (HEr.out.trans hGL.e)).get hjl
                obtain ⟨X, hX, hXl, hXk⟩ := nd_x HW.out hjl
                obtain ⟨Y, hY, hYl, hYk⟩ := nd_y HW.out hjl
                obtain ⟨ho1, ho8⟩ := HOP.out j hjl
                obtain ⟨va, vc, hv, hrb⟩ := RB_of_own hGL.own (by rw [pvL_len]; omega)
                rw [pvL_len] at hv
                subst hv
                have hpv : pv k.testBit (trAt c j) = pvN k.testBit (nth c j).op (nth c j).i (nth (pvL k.testBit c j) X) (nth (pvL k.testBit c j) Y) := pv_node _ HW.out hjl ho8 _ _
                  (fun h => by rw [pvL_nth _ _ (hXk h), hX, Int.toNat_natCast]) (fun h => by rw [pvL_nth _ _ (hYk (.inl ⟨h, ho8⟩)), hY, Int.toNat_natCast])
                have HVAL : Hid (Calls Tryz.prog 117 #[.agg #[.int .i64 (nth c j).op, .int .i64 (nth c j).i, .int .i64 (nth c j).e, .int .i64 (nth c j).g, .int .i64 (nth c j).x, .int .i64 (nth c j).y], .slice va j vc, .int .i64 (k : Int)] wz fun e w' => e = .returned (.bool (pv k.testBit (trAt c j))) ∧ Ext wz w') := Lib.hid (by
                  have h := r09value_any (nth c j) k (pvL k.testBit c j) va vc wz hrb X Y hX hY (fun h => by rw [pvL_len]; exact hXk h) (fun h => by rw [pvL_len]; exact hYk (.inl ⟨h, ho8⟩)) ho1 ho8 (nd_i HW.out hjl) (HND.out j hjl) (by omega)
                  rw [← hpv, pvL_len] at h
                  exact h)
                have HSTP := Lib.hid (pvL_step k.testBit c j)
                have HPL : Hid ((pvL k.testBit c j).length = j) := Lib.hid (pvL_len _ _ _)
                have HPA : Hid (∀ W o, Ext wz W → GL wr 4 Value.bool (pvL k.testBit c j) (.slice va j vc) (W.alloc o)) := Lib.hid fun W o e => HGL.out.ext' (e.alloc o)
                have HO : Hid (∀ W o, Ext wz W → (W.alloc o).ownsRow wr.heap.size 4 1 (.slice va j vc) j ((pvL k.testBit c j).map Value.bool)) := Lib.hid fun W o e => by have := (HPA.out W o e).own; rw [HPL.out] at this; exact this
                have HONE : ∀ b : Bool, Hid (∀ u ∈ [Value.bool b], u.oneCell' = true) := fun b => Lib.hid fun u hu => by rw [List.mem_singleton.1 hu]; rfl
                have hszz : wr.heap.size ≤ wz.heap.size := hGL.e.size
                clear hGL hX hXk hY hYk hpv hrb ho1 ho8
                generalize pv k.testBit (trAt c j) = bv at *
                generalize (nth c j).op = p0 at *
                generalize (nth c j).i = p1 at *
                generalize (nth c j).e = p2 at *
                generalize (nth c j).g = p3 at *
                generalize (nth c j).x = p4 at *
                generalize (nth c j).y = p5 at *
                go_wp2_with (first | (go_at_call 117; refine HVAL.out.mono ?_; rintro _ w4 ⟨rfl, hE4⟩; have hsz4 : wr.heap.size ≤ w4.heap.size := Nat.le_trans hszz hE4.size) | (at_builtin; refine wpList_append_lies _ rfl _ _ 121 rfl wr.heap.size 4 i0 _ 1 1 Tryz.underlying121 hi1 hz0 hz1 hz2 rfl (by decide) (.slice va j vc) j _ rfl (HO.out _ _ hE4) ⟨w4.heap.size, 0, none⟩ 1 1 [.bool bv] rfl rfl (cell_one_new _ _ _) (HONE bv).out (by decide) (by unfold maxLen; omega) (by omega) (Nat.le_trans hsz4 (by simp)) (w4.heap.size + 1) (by simp) ?_; intro gx cap W1 hown hgrow hat hlt2; have hpush := (HPA.out _ _ hE4).push (x := bv) (by rw [HPL.out]; exact hown) hgrow; have HPU := Lib.hid hpush; clear hpush hown hgrow hat))
                go_roundw
                case rel => exact ⟨j + 1, hjl, by go_num, by show GL _ _ _ _ _ _; rw [HSTP.out]; exact HPU.out⟩
                case measure => simp [intOf]; omega
              · obtain rfl : j = c.length := by omega
                have hfull : pvL k.testBit c c.length = (List.range c.length).map fun j => pv k.testBit (trAt c j) := rfl
                obtain ⟨va, vc, hv, hrb⟩ := RB_of_own hGL.own (by rw [pvL_len]; omega)
                rw [pvL_len] at hv
                subst hv
                obtain ⟨bl, ol, rfl, hbl, hcl2⟩ := hrb.get (k := c.length - 1) (by rw [pvL_len]; omega)
                rw [pvL_nth _ _ (by omega), show trAt c (c.length - 1) = rt c from rfl, HRT.out] at hcl2
                have e1 : (c.length : Int) - 1 = ((c.length - 1 : Nat) : Int) := by omega
                have hlm : c.length - 1 < c.length := by omega
                cases hb : pv k.testBit (rt f)
                · have hs : setTo (fun v => pv v.testBit (rt f)) (k + 1) = setTo (fun v => pv v.testBit (rt f)) k := by rw [HST.out, hb]; simp
                  have HS := Lib.hid hs
                  rw [hb] at hcl2
                  clear hs HST hb hGL hfull hrb
                  go_wp2
                  go_roundw
                  case rel => exact ⟨k + 1, hlt, by go_num, by rw [HS.out], HEq.out.trans HGL.out.e⟩
                  case measure => simp [intOf]; omega
                · have hs : setTo (fun v => pv v.testBit (rt f)) (k + 1) = setTo (fun v => pv v.testBit (rt f)) k ||| 1#64 <<< k := by rw [HST.out, hb]; simp
                  have HS := Lib.hid hs
                  rw [hb] at hcl2
                  clear hs HST hb hGL hfull hrb
                  go_wp2
                  go_roundw
                  case rel => exact ⟨k + 1, hlt, by go_num, by rw [HS.out], HEq.out.trans HGL.out.e⟩
                  case measure => simp [intOf]; omega
          · have hd1 : decide ((k : Int) < p2 N) = false := decide_eq_false (by unfold p2; omega)
            have hkk : 2 ^ N = k := by omega
            rw [hkk] at HN2
            clear hkk hp
            go_wp2
            go_ret2
            exact ⟨by rw [HN.out, HN2.out]; rfl, HEE.out.trans (HE3.out.trans hE)⟩
end Wt
