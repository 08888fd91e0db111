/- Walks: wittingref05.Frag, Frags, Facts, Agents. -/
import Derived.Test.YtoacdccachhjdaaGreatDoorMAEe
import Derived.Test.YtoacdccachhjdaaGreatDoorMAAi
import Derived.Test.YtoacdccachhjdaaGreatDoorMAAm
import Derived.Test.YtoacdccachhjdaaGreatDoorMAEa
namespace Wt
open Go Go.RowKit Go.Maps Go.Proofs Fm

set_option maxHeartbeats 2000000 in
theorem r5Frag_any (op : Int) (h : (useOf op).2 = true) (w : World) :
    Calls Tryz.prog 187 #[.int .i64 op] w fun e w' => e = .returned (.int .i64 (useOf op).1.frag) ∧ w = w' := by
  rcases useOf_cases op h with rfl | rfl | rfl | rfl | rfl | rfl | rfl | rfl | rfl | rfl | rfl | rfl | rfl | rfl | rfl | rfl | rfl | rfl | rfl | rfl | rfl
  all_goals
    clear h
    go_enter Tryz.func187, Tryz.ntmps187
    go_wp2
    go_ret
    exact ⟨rfl, rfl⟩
set_option maxHeartbeats 2000000 in
theorem r5Frags_any (fa : Option Addr) (fc : Nat) (l : List Nd) (w : World) (hr : RN w fa l) :
    Calls Tryz.prog 153 #[.slice fa l.length fc] w fun e w' => e = .returned (.int .i64 (fFrags l : Int)) ∧ Ext w w' := by
  have Hok := Lib.hid (fCompact_ok l).1
  have hlen := (fCompact_ok l).2
  have HR : Hid (fFrags l = unionL fragN (fCompact l)) := rfl
  go_enter Tryz.func153, Tryz.ntmps153
  go_wp2_with (go_at_call 112; refine (r5Compact_any _ _ l _ hr).mono ?_; rintro e w1 ⟨a, c, rfl, hc, hE⟩; generalize fCompact l = L at Hok hlen hc HR ⊢)
  go_loopw [4, 5] (fun o i wr => ∃ k : Nat, k ≤ L.length ∧ i = .int .i64 k ∧ o = .int .i64 (unionL fragN (L.take k) : Int) ∧ Ext w1 wr) (fun _ i _ => L.length - (intOf i).toNat)
  case atStart => exact ⟨0, Nat.zero_le _, rfl, rfl, Ext.refl _⟩
  case round =>
    obtain ⟨k, hk, rfl, rfl, hE1⟩ := hrel
    by_cases hlt : k < L.length
    · obtain ⟨b, off, rfl, hb, n0, n1, n2, n3, n4, n5⟩ := (hc.ext hE1).get hlt
      have hmem : nth L k ∈ L := by rw [nth_eq L k hlt]; exact List.getElem_mem hlt
      have hf : (useOf (nth L k).op).1.frag = (fragN (nth L k) : Int) := by have := useOf_frag (nth L k).op; unfold fragN; omega
      have hor := or_nat (unionL fragN (L.take k)) (fragN (nth L k)) (by have := unionL_lt fragN fragN_lt (L.take k); omega) (by have := fragN_lt (nth L k); omega)
      have HS := Lib.hid (unionL_snoc fragN L k hlt)
      have HF := Lib.hid hf
      have HOP := Lib.hid (Hok.out _ hmem).op
      clear hf hmem
      go_wp2_with (go_at_call 187; refine (r5Frag_any _ HOP.out _).mono ?_; rintro _ _ ⟨rfl, rfl⟩; rw [HF.out])
      go_roundw
      case rel => exact ⟨k + 1, hlt, by go_num, by rw [HS.out], hE1⟩
      case measure => simp [intOf]; omega
    · go_wp2
      go_ret
      refine ⟨?_, hE.trans hE1⟩
      rw [HR.out, List.take_of_length_le (by omega)]
      rfl
set_option maxHeartbeats 4000000 in
theorem r5Facts_any (fa : Option Addr) (fc : Nat) (l : List Nd) (w : World) (hr : RN w fa l) :
    Calls Tryz.prog 189 #[.slice fa l.length fc] w fun e w' => e = .returned (.int .i64 (fFacts l : Int)) ∧ Ext w w' := by
  have Hok := Lib.hid (fCompact_ok l).1
  have hlen := (fCompact_ok l).2
  have HR : Hid (fFacts l = unionL factN (fCompact l)) := rfl
  go_enter Tryz.func189, Tryz.ntmps189
  go_wp2_with (go_at_call 112; refine (r5Compact_any _ _ l _ hr).mono ?_; rintro e w1 ⟨a, c, rfl, hc, hE⟩; generalize fCompact l = L at Hok hlen hc HR ⊢)
  go_loopw [4, 5] (fun o i wr => ∃ k : Nat, k ≤ L.length ∧ i = .int .i64 k ∧ o = .int .i64 (unionL factN (L.take k) : Int) ∧ Ext w1 wr) (fun _ i _ => L.length - (intOf i).toNat)
  case atStart => exact ⟨0, Nat.zero_le _, rfl, rfl, Ext.refl _⟩
  case round =>
    obtain ⟨k, hk, rfl, rfl, hE1⟩ := hrel
    by_cases hlt : k < L.length
    · obtain ⟨b, off, rfl, hb, n0, n1, n2, n3, n4, n5⟩ := (hc.ext hE1).get hlt
      have hmem : nth L k ∈ L := by rw [nth_eq L k hlt]; exact List.getElem_mem hlt
      have hN := Hok.out _ hmem
      have hsn := unionL_snoc factN L k hlt
      have hu1 := unionL_lt factN factN_lt (L.take k)
      by_cases h3 : (nth L k).op = 3
      · have hfc : (useOf (nth L k).op).1.fact = true := by rw [r5f_eq, h3]; rfl
        obtain ⟨h0, h7⟩ := hN.fact hfc
        have hf : factN (nth L k) = 2 ^ (nth L k).i.toNat := by unfold factN; rw [hfc]; simp only [if_true]; congr 1; omega
        rw [hf] at hsn
        rw [h3] at n0
        clear hf hfc hN hmem
        generalize (nth L k).i = q at *
        obtain ⟨P, PI, hP, hPI⟩ : ∃ (P : Nat) (PI : Int), 2 ^ q.toNat = P ∧ PI = (P : Int) := ⟨_, _, rfl, rfl⟩
        have hPl : P < 4294967296 := by
          rw [← hP]
          have : (2 : Nat) ^ q.toNat ≤ 2 ^ 7 := Nat.pow_le_pow_right (by omega) (by omega)
          omega
        rw [hP] at hsn
        have hor := or_nat (unionL factN (L.take k)) P (by omega) hPl
        rw [← hPI] at hor
        obtain ⟨rfl, rfl, rfl⟩ | ⟨rfl, rfl, rfl⟩ | ⟨rfl, rfl, rfl⟩ | ⟨rfl, rfl, rfl⟩ | ⟨rfl, rfl, rfl⟩ | ⟨rfl, rfl, rfl⟩ | ⟨rfl, rfl, rfl⟩ | ⟨rfl, rfl, rfl⟩ :
            (q = 0 ∧ P = 1 ∧ PI = 1) ∨ (q = 1 ∧ P = 2 ∧ PI = 2) ∨ (q = 2 ∧ P = 4 ∧ PI = 4) ∨ (q = 3 ∧ P = 8 ∧ PI = 8) ∨ (q = 4 ∧ P = 16 ∧ PI = 16) ∨ (q = 5 ∧ P = 32 ∧ PI = 32) ∨ (q = 6 ∧ P = 64 ∧ PI = 64) ∨ (q = 7 ∧ P = 128 ∧ PI = 128) := by
          rcases (show q = 0 ∨ q = 1 ∨ q = 2 ∨ q = 3 ∨ q = 4 ∨ q = 5 ∨ q = 6 ∨ q = 7 by omega) with rfl | rfl | rfl | rfl | rfl | rfl | rfl | rfl <;> simp at hP <;> omega
        all_goals
          have HS := Lib.hid hsn
          clear hsn h0 h7 hP hPI hPl
          go_wp2
          go_roundw
          case rel => exact ⟨k + 1, hlt, by go_num, by rw [HS.out], hE1⟩
          case measure => simp [intOf]; omega
      · have hf : factN (nth L k) = 0 := by unfold factN; rw [r5f_eq]; simp [h3]
        rw [hf] at hsn
        have hq : ((nth L k).op == 3) = false := by simp [h3]
        have HS := Lib.hid hsn
        clear hsn hN hmem hf h3
        go_wp2
        go_roundw
        case rel => exact ⟨k + 1, hlt, by go_num, by rw [HS.out]; simp, hE1⟩
        case measure => simp [intOf]; omega
    · go_wp2
      go_ret
      refine ⟨?_, hE.trans hE1⟩
      rw [HR.out, List.take_of_length_le (by omega)]
      rfl
end Wt

/- Walks: wittingref05.Agents, Fits. -/
namespace Wt
open Go Go.RowKit Go.Maps Go.Proofs Fm

set_option maxHeartbeats 4000000 in
theorem r5Agents_any (fa : Option Addr) (fc : Nat) (l : List Nd) (w : World) (hr : RN w fa l) :
    Calls Tryz.prog 188 #[.slice fa l.length fc] w fun e w' => e = .returned (.int .i64 (fAgents l : Int)) ∧ Ext w w' := by
  have Hok := Lib.hid (fCompact_ok l).1
  have hlen := (fCompact_ok l).2
  have HR : Hid (fAgents l = unionL agentN (fCompact l)) := rfl
  go_enter Tryz.func188, Tryz.ntmps188
  go_wp2_with (go_at_call 112; refine (r5Compact_any _ _ l _ hr).mono ?_; rintro e w1 ⟨a, c, rfl, hc, hE⟩; generalize fCompact l = L at Hok hlen hc HR ⊢)
  go_loopw [4, 5] (fun o i wr => ∃ k : Nat, k ≤ L.length ∧ i = .int .i64 k ∧ o = .int .i64 (unionL agentN (L.take k) : Int) ∧ Ext w1 wr) (fun _ i _ => L.length - (intOf i).toNat)
  case atStart => exact ⟨0, Nat.zero_le _, rfl, rfl, Ext.refl _⟩
  case round =>
    obtain ⟨k, hk, rfl, rfl, hE1⟩ := hrel
    by_cases hlt : k < L.length
    · obtain ⟨b, off, rfl, hb, n0, n1, n2, n3, n4, n5⟩ := (hc.ext hE1).get hlt
      have hmem : nth L k ∈ L := by rw [nth_eq L k hlt]; exact List.getElem_mem hlt
      have hN := Hok.out _ hmem
      have hsn := unionL_snoc agentN L k hlt
      have hu1 := unionL_lt agentN agentN_lt (L.take k)
      cases ha : (useOf (nth L k).op).1.agent
      · have hg : 0 ≤ (nth L k).g ∧ (nth L k).g ≤ 15 := by
          cases hug : (useOf (nth L k).op).1.group
          · have := hN.nogroup hug; omega
          · have := hN.group hug; omega
        have hf : ((nth L k).g : Int) = (agentN (nth L k) : Int) := by unfold agentN; rw [ha]; simp only [Bool.false_eq_true, if_false]; omega
        have hor := or_nat (unionL agentN (L.take k)) (agentN (nth L k)) (by omega) (by have := agentN_lt (nth L k); omega)
        rw [hf] at n3
        have HA := Lib.hid ha
        have HS := Lib.hid hsn
        clear hsn hN hmem hf ha hg
        go_wp2_with (go_at_call 163; refine (r5A_any _ _).mono ?_; rintro _ _ ⟨rfl, rfl⟩; rw [HA.out])
        go_roundw
        case rel => exact ⟨k + 1, hlt, by go_num, by rw [HS.out], hE1⟩
        case measure => simp [intOf]; omega
      · obtain ⟨h0, h7⟩ := hN.agent ha
        have hg := hN.nogroup (use_agent_group _ ha)
        have hf : agentN (nth L k) = 2 ^ (nth L k).i.toNat := by unfold agentN; rw [ha]; simp only [if_true]; congr 1; omega
        rw [hf] at hsn
        rw [hg] at n3
        have HA := Lib.hid ha
        clear hf ha hN hmem hg
        generalize (nth L k).i = q at *
        obtain ⟨P, PI, hP, hPI⟩ : ∃ (P : Nat) (PI : Int), 2 ^ q.toNat = P ∧ PI = (P : Int) := ⟨_, _, rfl, rfl⟩
        have hPl : P < 512 := by
          rw [← hP]
          have : (2 : Nat) ^ q.toNat ≤ 2 ^ 7 := Nat.pow_le_pow_right (by omega) (by omega)
          omega
        rw [hP] at hsn
        have hor := or_nat (unionL agentN (L.take k)) P (by omega) (by omega)
        have hlt9 : unionL agentN (L.take k) ||| P < 2 ^ 9 := Nat.or_lt_two_pow (by omega) (by omega)
        have hor2 := or_nat (unionL agentN (L.take k) ||| P) 0 (by omega) (by omega)
        rw [Nat.or_zero, Int.natCast_zero] at hor2
        rw [← hPI] at hor
        obtain ⟨rfl, rfl, rfl⟩ | ⟨rfl, rfl, rfl⟩ | ⟨rfl, rfl, rfl⟩ | ⟨rfl, rfl, rfl⟩ :
            (q = 0 ∧ P = 1 ∧ PI = 1) ∨ (q = 1 ∧ P = 2 ∧ PI = 2) ∨ (q = 2 ∧ P = 4 ∧ PI = 4) ∨ (q = 3 ∧ P = 8 ∧ PI = 8) := by
          rcases (show q = 0 ∨ q = 1 ∨ q = 2 ∨ q = 3 by omega) with rfl | rfl | rfl | rfl <;> simp at hP <;> omega
        all_goals
          have HS := Lib.hid hsn
          clear hsn h0 h7 hP hPI hPl
          go_wp2_with (go_at_call 163; refine (r5A_any _ _).mono ?_; rintro _ _ ⟨rfl, rfl⟩; rw [HA.out])
          go_roundw
          case rel => exact ⟨k + 1, hlt, by go_num, by rw [HS.out], hE1⟩
          case measure => simp [intOf]; omega
    · go_wp2
      go_ret
      refine ⟨?_, hE.trans hE1⟩
      rw [HR.out, List.take_of_length_le (by omega)]
      rfl
set_option maxHeartbeats 4000000 in
theorem r5Fits_any (fa : Option Addr) (fc : Nat) (l : List Nd) (a f : Nat) (w : World) (hr : RN w fa l) :
    Calls Tryz.prog 154 #[.slice fa l.length fc, .int .i64 (a : Int), .int .i64 (f : Int)] w fun e w' => e = .returned (.bool (fFits l a f)) ∧ Ext w w' := by
  by_cases h1 : fCheck l = 0
  · have H1 := Lib.hid h1
    have HA := Lib.hid (below_iff 4 (fAgents l) a (fAgents_lt l) (by omega))
    have HF := Lib.hid (below_iff 8 (fFacts l) f (fFacts_lt l) (by omega))
    have HV : Hid (fFits l a f = (below (fAgents l) a && below (fFacts l) f)) := by show _ = _; unfold fFits; rw [h1]; simp
    have hma := fAgents_lt l
    have hmf := fFacts_lt l
    clear h1
    go_enter Tryz.func154, Tryz.ntmps154
    go_wp2_with (go_at_call 126; refine (r5Check_any fa fc l _ hr).mono ?_; rintro e w1 ⟨rfl, hE1⟩; rw [H1.out])
    go_loopw [7] (fun i wr => ∃ k : Nat, k ≤ 4 ∧ i = .int .i64 k ∧ Ext w wr ∧ Hid (∀ j, j < k → (fAgents l).testBit j = true → j < a)) (fun i _ => 4 - (intOf i).toNat)
    case atStart => exact ⟨0, Nat.zero_le _, rfl, by assumption, fun _ h => absurd h (Nat.not_lt_zero _)⟩
    case round =>
      obtain ⟨k, hk, rfl, hE, hno⟩ := hrel
      by_cases hlt : k < 4
      · have hb := bit_of (fAgents l) k
        cases hbit : (fAgents l).testBit k
        · rw [hbit] at hb
          go_wp2_with (go_at_call 188; refine (r5Agents_any fa fc l _ (hr.ext hE)).mono ?_; rintro e w2 ⟨rfl, hE2⟩)
          go_roundw
          case rel => exact ⟨k + 1, hlt, by go_num, hE.trans hE2, fun j hj hjb => by
            rcases Nat.lt_or_ge j k with h | h
            · exact hno.out j h hjb
            · obtain rfl : j = k := by omega
              rw [hbit] at hjb; cases hjb⟩
          case measure => simp [intOf]; omega
        · rw [hbit] at hb
          by_cases hka : k < a
          · go_wp2_with (go_at_call 188; refine (r5Agents_any fa fc l _ (hr.ext hE)).mono ?_; rintro e w2 ⟨rfl, hE2⟩)
            go_roundw
            case rel => exact ⟨k + 1, hlt, by go_num, hE.trans hE2, fun j hj hjb => by
              rcases Nat.lt_or_ge j k with h | h
              · exact hno.out j h hjb
              · omega⟩
            case measure => simp [intOf]; omega
          · have hfalse : fFits l a f = false := by
              rw [HV.out]
              rcases hbl : below (fAgents l) a with _ | _
              · simp
              · exact absurd (HA.out.1 hbl k hlt hbit) hka
            have HN := Lib.hid hfalse
            clear hfalse
            go_wp2_with (go_at_call 188; refine (r5Agents_any fa fc l _ (hr.ext hE)).mono ?_; rintro e w2 ⟨rfl, hE2⟩)
            go_ret
            exact ⟨by rw [HN.out]; rfl, hE.trans hE2⟩
      · obtain rfl : k = 4 := by omega
        have hba : below (fAgents l) a = true := HA.out.2 hno.out
        have HBA := Lib.hid hba
        have hEa := hE
        clear hba hno hE
        rw [show ((4 : Nat) : Int) = 4 from rfl]
        go_wp2
        go_loopw [8] (fun i wr => ∃ k : Nat, k ≤ 8 ∧ i = .int .i64 k ∧ Ext w wr ∧ Hid (∀ j, j < k → (fFacts l).testBit j = true → j < f)) (fun i _ => 8 - (intOf i).toNat)
        case atStart => exact ⟨0, Nat.zero_le _, rfl, by assumption, fun _ h => absurd h (Nat.not_lt_zero _)⟩
        case round =>
          obtain ⟨k, hk, rfl, hE, hno⟩ := hrel
          by_cases hlt : k < 8
          · have hb := bit_of (fFacts l) k
            cases hbit : (fFacts l).testBit k
            · rw [hbit] at hb
              go_wp2_with (go_at_call 189; refine (r5Facts_any fa fc l _ (hr.ext hE)).mono ?_; rintro e w2 ⟨rfl, hE2⟩)
              go_roundw
              case rel => exact ⟨k + 1, hlt, by go_num, hE.trans hE2, fun j hj hjb => by
                rcases Nat.lt_or_ge j k with h | h
                · exact hno.out j h hjb
                · obtain rfl : j = k := by omega
                  rw [hbit] at hjb; cases hjb⟩
              case measure => simp [intOf]; omega
            · rw [hbit] at hb
              by_cases hka : k < f
              · go_wp2_with (go_at_call 189; refine (r5Facts_any fa fc l _ (hr.ext hE)).mono ?_; rintro e w2 ⟨rfl, hE2⟩)
                go_roundw
                case rel => exact ⟨k + 1, hlt, by go_num, hE.trans hE2, fun j hj hjb => by
                  rcases Nat.lt_or_ge j k with h | h
                  · exact hno.out j h hjb
                  · omega⟩
                case measure => simp [intOf]; omega
              · have hfalse : fFits l a f = false := by
                  rw [HV.out]
                  rcases hbl : below (fFacts l) f with _ | _
                  · simp
                  · exact absurd (HF.out.1 hbl k hlt hbit) hka
                have HN := Lib.hid hfalse
                clear hfalse
                go_wp2_with (go_at_call 189; refine (r5Facts_any fa fc l _ (hr.ext hE)).mono ?_; rintro e w2 ⟨rfl, hE2⟩)
                go_ret
                exact ⟨by rw [HN.out]; rfl, hE.trans hE2⟩
          · obtain rfl : k = 8 := by omega
            have hbf : below (fFacts l) f = true := HF.out.2 hno.out
            have htrue : fFits l a f = true := by rw [HV.out, HBA.out, hbf]; rfl
            have HN := Lib.hid htrue
            clear htrue hbf
            go_wp2
            go_ret
            exact ⟨by rw [HN.out]; rfl, hE⟩
  · have hn : fFits l a f = false := by unfold fFits; simp [h1]
    have HN := Lib.hid hn
    have hq2 : (fCheck l != 0) = true := by simp [h1]
    clear h1 hn
    go_enter Tryz.func154, Tryz.ntmps154
    go_wp2_with (go_at_call 126; refine (r5Check_any _ _ l _ hr).mono ?_; rintro e w1 ⟨rfl, hE⟩)
    go_ret
    exact ⟨by rw [HN.out]; rfl, hE⟩
end Wt

/- Walks: wittingref17.Check, fits. -/
namespace Wt
open Go Go.RowKit Go.Maps Go.Proofs Fm

set_option maxHeartbeats 1000000 in
theorem r17Check_any (M : Mo) (va ra : Option Addr) (vc rc : Nat) (fa : Option Addr) (fc : Nat) (f : List Nd) (w : World) (hm : RM w va ra M) (hf : RN w fa f) :
    Calls Tryz.prog 113 #[.agg #[.int .i64 M.worlds, .slice va M.val.length vc, .slice ra M.rel.length rc], .slice fa f.length fc, .int .i64 15] w fun e w' => e = .returned (.int .i64 (reqErr M f)) ∧ Ext w w' := by
  have hE0 := (Ext.refl w).alloc (.cells #[.int .i64 M.worlds, .slice va M.val.length vc, .slice ra M.rel.length rc] 28)
  have hm0 := hm.ext hE0
  obtain ⟨m0, m1, m2⟩ := MoBox.new w M.worlds M.val M.rel va vc ra rc 28
  have HE := Lib.hid hE0
  have HF := Lib.hid hf
  have hvl := hm.val.len
  have hrl := hm.rel.len
  clear hE0 hf hm
  by_cases h1 : moCheck M = 0
  · have H1 := Lib.hid h1
    by_cases h2 : fCheck f = 0
    · have H2 := Lib.hid h2
      have hfr := unionL_lt fragN fragN_lt (fCompact f)
      have hfr2 : fFrags f < 512 := hfr
      have han : bits .andNot .i64 (fFrags f : Int) 15 = ((fFrags f &&& 4294967280 : Nat) : Int) := andNot_nat (fFrags f) 15 (by omega) (by omega)
      by_cases h3 : 16 ≤ fFrags f
      · have hn : reqErr M f = 10 := by unfold reqErr; rw [if_neg (by simp [h1]), if_neg (by simp [h2]), if_pos h3]
        have HN := Lib.hid hn
        have hq : (((fFrags f &&& 4294967280 : Nat) : Int) != 0) = true := by
          have := andNot15 (fFrags f) hfr2
          simp; omega
        clear h1 h2 h3 hn hfr hfr2
        go_enter Tryz.func113, Tryz.ntmps113
        go_wp2_with (first | (go_at_call 75; refine (r13Check_any M va ra vc rc _ hm0).mono ?_; rintro e w1 ⟨rfl, hE1⟩; rw [H1.out]; have q0 := hE1.cell m0; have q1 := hE1.cell m1; have q2 := hE1.cell m2; clear m0 m1 m2) | (go_at_call 126; refine (r5Check_any _ _ f _ (HF.out.ext (HE.out.trans hE1))).mono ?_; rintro e w2 ⟨rfl, hE2⟩; rw [H2.out]; have p0 := hE2.cell q0; have p1 := hE2.cell q1; have p2 := hE2.cell q2; clear q0 q1 q2; have hA := (HE.out.trans hE1).trans hE2) | (go_at_call 153; refine (r5Frags_any _ _ f _ (HF.out.ext hA)).mono ?_; rintro e w3 ⟨rfl, hE3⟩))
        go_ret
        exact ⟨by rw [HN.out]; rfl, hA.trans hE3⟩
      · have hq : (((fFrags f &&& 4294967280 : Nat) : Int) != 0) = false := by
          have := andNot15 (fFrags f) hfr2
          simp; omega
        cases h4 : fFits f M.rel.length M.val.length
        · have hn : reqErr M f = 2 := by unfold reqErr; rw [if_neg (by simp [h1]), if_neg (by simp [h2]), if_neg h3, if_pos h4]
          have HN := Lib.hid hn
          have H4 := Lib.hid h4
          clear h1 h2 h3 hn hfr hfr2 h4
          go_enter Tryz.func113, Tryz.ntmps113
          go_wp2_with (first | (go_at_call 75; refine (r13Check_any M va ra vc rc _ hm0).mono ?_; rintro e w1 ⟨rfl, hE1⟩; rw [H1.out]; have q0 := hE1.cell m0; have q1 := hE1.cell m1; have q2 := hE1.cell m2; clear m0 m1 m2) | (go_at_call 126; refine (r5Check_any _ _ f _ (HF.out.ext (HE.out.trans hE1))).mono ?_; rintro e w2 ⟨rfl, hE2⟩; rw [H2.out]; have p0 := hE2.cell q0; have p1 := hE2.cell q1; have p2 := hE2.cell q2; clear q0 q1 q2; have hA := (HE.out.trans hE1).trans hE2) | (go_at_call 153; refine (r5Frags_any _ _ f _ (HF.out.ext hA)).mono ?_; rintro e w3 ⟨rfl, hE3⟩; have s0 := hE3.cell p0; have s1 := hE3.cell p1; have s2 := hE3.cell p2; clear p0 p1 p2; have hB := hA.trans hE3) | (go_at_call 154; refine (r5Fits_any _ _ f _ _ _ (HF.out.ext hB)).mono ?_; rintro e w4 ⟨rfl, hE4⟩; rw [H4.out]))
          go_ret
          exact ⟨by rw [HN.out]; rfl, hB.trans hE4⟩
        · have hn : reqErr M f = 0 := by unfold reqErr; rw [if_neg (by simp [h1]), if_neg (by simp [h2]), if_neg h3, if_neg (by simp [h4])]
          have HN := Lib.hid hn
          have H4 := Lib.hid h4
          clear h1 h2 h3 hn hfr hfr2 h4
          go_enter Tryz.func113, Tryz.ntmps113
          go_wp2_with (first | (go_at_call 75; refine (r13Check_any M va ra vc rc _ hm0).mono ?_; rintro e w1 ⟨rfl, hE1⟩; rw [H1.out]; have q0 := hE1.cell m0; have q1 := hE1.cell m1; have q2 := hE1.cell m2; clear m0 m1 m2) | (go_at_call 126; refine (r5Check_any _ _ f _ (HF.out.ext (HE.out.trans hE1))).mono ?_; rintro e w2 ⟨rfl, hE2⟩; rw [H2.out]; have p0 := hE2.cell q0; have p1 := hE2.cell q1; have p2 := hE2.cell q2; clear q0 q1 q2; have hA := (HE.out.trans hE1).trans hE2) | (go_at_call 153; refine (r5Frags_any _ _ f _ (HF.out.ext hA)).mono ?_; rintro e w3 ⟨rfl, hE3⟩; have s0 := hE3.cell p0; have s1 := hE3.cell p1; have s2 := hE3.cell p2; clear p0 p1 p2; have hB := hA.trans hE3) | (go_at_call 154; refine (r5Fits_any _ _ f _ _ _ (HF.out.ext hB)).mono ?_; rintro e w4 ⟨rfl, hE4⟩; rw [H4.out]))
          go_ret
          exact ⟨by rw [HN.out]; rfl, hB.trans hE4⟩
    · have hn : reqErr M f = fCheck f := by unfold reqErr; rw [if_neg (by simp [h1]), if_pos h2]
      have HN := Lib.hid hn
      have hq2 : (fCheck f != 0) = true := by simp [h2]
      clear h1 h2 hn
      go_enter Tryz.func113, Tryz.ntmps113
      go_wp2_with (first | (go_at_call 75; refine (r13Check_any M va ra vc rc _ hm0).mono ?_; rintro e w1 ⟨rfl, hE1⟩; rw [H1.out]; have q0 := hE1.cell m0; have q1 := hE1.cell m1; have q2 := hE1.cell m2; clear m0 m1 m2) | (go_at_call 126; refine (r5Check_any _ _ f _ (HF.out.ext (HE.out.trans hE1))).mono ?_; rintro e w2 ⟨rfl, hE2⟩))
      go_ret
      exact ⟨by rw [HN.out]; rfl, (HE.out.trans hE1).trans hE2⟩
  · have hn : reqErr M f = moCheck M := by unfold reqErr; rw [if_pos h1]
    have HN := Lib.hid hn
    have hq2 : (moCheck M != 0) = true := by simp [h1]
    clear h1 hn
    go_enter Tryz.func113, Tryz.ntmps113
    go_wp2_with (go_at_call 75; refine (r13Check_any M va ra vc rc _ hm0).mono ?_; rintro e w1 ⟨rfl, hE1⟩)
    go_ret
    exact ⟨by rw [HN.out]; rfl, HE.out.trans hE1⟩
/-- Is a node static, and does it fit a model? -/
def fitsOf (M : Mo) (L : List Nd) : Bool := decide (fFrags L < 16) && fFits L M.rel.length M.val.length
set_option maxHeartbeats 2000000 in
theorem r17fits_any (M : Mo) (va ra : Option Addr) (vc rc : Nat) (fa : Option Addr) (fc : Nat) (f : List Nd) (i : Int) (w : World) (hm : RM w va ra M) (hf : RN w fa f) :
    Calls Tryz.prog 150 #[.agg #[.int .i64 M.worlds, .slice va M.val.length vc, .slice ra M.rel.length rc], .slice fa f.length fc, .int .i64 i] w fun e w' => e = .returned (.bool (fitsOf M (fSub f i))) ∧ Ext w w' := by
  have hE0 := (Ext.refl w).alloc (.cells #[.int .i64 M.worlds, .slice va M.val.length vc, .slice ra M.rel.length rc] 28)
  obtain ⟨m0, m1, m2⟩ := MoBox.new w M.worlds M.val M.rel va vc ra rc 28
  have HE := Lib.hid hE0
  have HF := Lib.hid hf
  have hvl := hm.val.len
  have hrl := hm.rel.len
  clear hE0 hf hm
  have hfr2 : fFrags (fSub f i) < 512 := unionL_lt fragN fragN_lt (fCompact (fSub f i))
  have han : bits .andNot .i64 (fFrags (fSub f i) : Int) 15 = ((fFrags (fSub f i) &&& 4294967280 : Nat) : Int) := andNot_nat (fFrags (fSub f i)) 15 (by omega) (by omega)
  have HS : Hid (∀ w, RN w fa f → Calls Tryz.prog 152 #[.slice fa f.length fc, .int .i64 i] w (RetN (fSub f i) · w ·)) := fun w h => r5Sub_any fa fc f i w h
  by_cases h3 : fFrags (fSub f i) < 16
  · have hq : (((fFrags (fSub f i) &&& 4294967280 : Nat) : Int) == 0) = true := by
      have := andNot15 (fFrags (fSub f i)) hfr2
      simp; omega
    have hn : fitsOf M (fSub f i) = fFits (fSub f i) M.rel.length M.val.length := by unfold fitsOf; simp [h3]
    have HN := Lib.hid hn
    clear hn hfr2 h3
    generalize fSub f i = L at *
    go_enter Tryz.func150, Tryz.ntmps150
    go_wp2_with (first | (go_at_call 152; refine (HS.out _ (HF.out.ext HE.out)).mono ?_; rintro e w1 ⟨a1, c1, rfl, hL, hE1⟩; have q0 := hE1.cell m0; have q1 := hE1.cell m1; have q2 := hE1.cell m2; clear m0 m1 m2; have hA := HE.out.trans hE1) | (go_at_call 153; refine (r5Frags_any _ _ L _ hL).mono ?_; rintro e w2 ⟨rfl, hE2⟩; have p0 := hE2.cell q0; have p1 := hE2.cell q1; have p2 := hE2.cell q2; clear q0 q1 q2; have hB := hA.trans hE2) | (go_at_call 154; refine (r5Fits_any _ _ L _ _ _ (hL.ext hE2)).mono ?_; rintro e w3 ⟨rfl, hE3⟩))
    go_ret
    exact ⟨by rw [HN.out]; rfl, hB.trans hE3⟩
  · have hq : (((fFrags (fSub f i) &&& 4294967280 : Nat) : Int) == 0) = false := by
      have := andNot15 (fFrags (fSub f i)) hfr2
      simp; omega
    have hn : fitsOf M (fSub f i) = false := by unfold fitsOf; simp [h3]
    have HN := Lib.hid hn
    clear hn hfr2 h3
    generalize fSub f i = L at *
    go_enter Tryz.func150, Tryz.ntmps150
    go_wp2_with (first | (go_at_call 152; refine (HS.out _ (HF.out.ext HE.out)).mono ?_; rintro e w1 ⟨a1, c1, rfl, hL, hE1⟩; have q0 := hE1.cell m0; have q1 := hE1.cell m1; have q2 := hE1.cell m2; clear m0 m1 m2; have hA := HE.out.trans hE1) | (go_at_call 153; refine (r5Frags_any _ _ L _ hL).mono ?_; rintro e w2 ⟨rfl, hE2⟩; have p0 := hE2.cell q0; have p1 := hE2.cell q1; have p2 := hE2.cell q2; clear q0 q1 q2; have hB := hA.trans hE2))
    go_ret
    exact ⟨by rw [HN.out]; rfl, hB⟩
/-- A node of a right formula fits exactly if its tree has a set. -/
theorem fits_sem {M : Mo} (hr : M.rel.length ≤ 4) (hv : M.val.length ≤ 8) {f : List Nd} (hc : fCheck f = 0) {k : Nat} (hk : k < f.length) : fitsOf M (fSub f k) = (semT M (trAt f k)).2 := by
  obtain ⟨h0, h200, hw⟩ := fCheck_ok.1 hc
  have ht : fok (trAt f k) := fok_trAt hw _ k (Nat.lt_succ_self k) hk
  have hs : fsize (trAt f k) ≤ 200 := Nat.le_trans (fsize_le hw hk) h200
  have e : fSub f k = canon (trAt f k) := by unfold fSub; rw [if_pos ⟨hc, by omega, by omega⟩, Int.toNat_natCast]
  rw [e, semT_fits M hr hv _ ht]
  unfold fitsOf fFits
  rw [canon_check _ ht hs]
  unfold fFrags fAgents fFacts
  rw [compact_canon _ ht hs]
  simp [Bool.and_assoc]
end Wt
