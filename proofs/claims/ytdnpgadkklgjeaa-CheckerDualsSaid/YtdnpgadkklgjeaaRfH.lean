/- Walks: wittingref05.Frag, Frags, Facts, Agents. -/
import Derived.Test.YtdnpgadkklgjeaaRfG
import Derived.Test.YtdnpgadkklgjeaaFmJ
namespace Wt
open Go Go.RowKit Go.Maps Go.Proofs Fm

set_option maxHeartbeats 2000000 in
theorem r5Frag_any (op : Int) (h : (useOf op).2 = true) (w : World) :
    Calls Try.prog 75 #[.int .i64 op] w fun e w' => e = .returned (.int .i64 (useOf op).1.frag) ∧ w = w' := by
  rcases useOf_cases op h with rfl | rfl | rfl | rfl | rfl | rfl | rfl | rfl | rfl | rfl | rfl | rfl | rfl | rfl | rfl | rfl | rfl | rfl | rfl | rfl | rfl
  all_goals
    clear h
    go_enter Try.func75, Try.ntmps75
    go_wp2
    go_ret
    exact ⟨rfl, rfl⟩
set_option maxHeartbeats 2000000 in
theorem r5Frags_any (fa : Option Addr) (fc : Nat) (l : List Nd) (w : World) (hr : RN w fa l) :
    Calls Try.prog 53 #[.slice fa l.length fc] w fun e w' => e = .returned (.int .i64 (fFrags l : Int)) ∧ Ext w w' := by
  have Hok := Lib.hid (fCompact_ok l).1
  have hlen := (fCompact_ok l).2
  have HR : Hid (fFrags l = unionL fragN (fCompact l)) := rfl
  go_enter Try.func53, Try.ntmps53
  go_wp2_with (go_at_call 40; refine (r5Compact_any _ _ l _ hr).mono ?_; rintro e w1 ⟨a, c, rfl, hc, hE⟩; generalize fCompact l = L at Hok hlen hc HR ⊢)
  go_loopw [4, 5] (fun o i wr => ∃ k : Nat, k ≤ L.length ∧ i = .int .i64 k ∧ o = .int .i64 (unionL fragN (L.take k) : Int) ∧ Ext w1 wr) (fun _ i _ => L.length - (intOf i).toNat)
  case atStart => exact ⟨0, Nat.zero_le _, rfl, rfl, Ext.refl _⟩
  case round =>
    obtain ⟨k, hk, rfl, rfl, hE1⟩ := hrel
    by_cases hlt : k < L.length
    · obtain ⟨b, off, rfl, hb, n0, n1, n2, n3, n4, n5⟩ := (hc.ext hE1).get hlt
      have hmem : nth L k ∈ L := by rw [nth_eq L k hlt]; exact List.getElem_mem hlt
      have hf : (useOf (nth L k).op).1.frag = (fragN (nth L k) : Int) := by have := useOf_frag (nth L k).op; unfold fragN; omega
      have hor := or_nat (unionL fragN (L.take k)) (fragN (nth L k)) (by have := unionL_lt fragN fragN_lt (L.take k); omega) (by have := fragN_lt (nth L k); omega)
      have HS := Lib.hid (unionL_snoc fragN L k hlt)
      have HF := Lib.hid hf
      have HOP := Lib.hid (Hok.out _ hmem).op
      clear hf hmem
      go_wp2_with (go_at_call 75; refine (r5Frag_any _ HOP.out _).mono ?_; rintro _ _ ⟨rfl, rfl⟩; rw [HF.out])
      go_roundw
      case rel => exact ⟨k + 1, hlt, by go_num, by rw [HS.out], hE1⟩
      case measure => simp [intOf]; omega
    · go_wp2
      go_ret
      refine ⟨?_, hE.trans hE1⟩
      rw [HR.out, List.take_of_length_le (by omega)]
      rfl
set_option maxHeartbeats 4000000 in
theorem r5Facts_any (fa : Option Addr) (fc : Nat) (l : List Nd) (w : World) (hr : RN w fa l) :
    Calls Try.prog 77 #[.slice fa l.length fc] w fun e w' => e = .returned (.int .i64 (fFacts l : Int)) ∧ Ext w w' := by
  have Hok := Lib.hid (fCompact_ok l).1
  have hlen := (fCompact_ok l).2
  have HR : Hid (fFacts l = unionL factN (fCompact l)) := rfl
  go_enter Try.func77, Try.ntmps77
  go_wp2_with (go_at_call 40; refine (r5Compact_any _ _ l _ hr).mono ?_; rintro e w1 ⟨a, c, rfl, hc, hE⟩; generalize fCompact l = L at Hok hlen hc HR ⊢)
  go_loopw [4, 5] (fun o i wr => ∃ k : Nat, k ≤ L.length ∧ i = .int .i64 k ∧ o = .int .i64 (unionL factN (L.take k) : Int) ∧ Ext w1 wr) (fun _ i _ => L.length - (intOf i).toNat)
  case atStart => exact ⟨0, Nat.zero_le _, rfl, rfl, Ext.refl _⟩
  case round =>
    obtain ⟨k, hk, rfl, rfl, hE1⟩ := hrel
    by_cases hlt : k < L.length
    · obtain ⟨b, off, rfl, hb, n0, n1, n2, n3, n4, n5⟩ := (hc.ext hE1).get hlt
      have hmem : nth L k ∈ L := by rw [nth_eq L k hlt]; exact List.getElem_mem hlt
      have hN := Hok.out _ hmem
      have hsn := unionL_snoc factN L k hlt
      have hu1 := unionL_lt factN factN_lt (L.take k)
      by_cases h3 : (nth L k).op = 3
      · have hfc : (useOf (nth L k).op).1.fact = true := by rw [r5f_eq, h3]; rfl
        obtain ⟨h0, h7⟩ := hN.fact hfc
        have hf : factN (nth L k) = 2 ^ (nth L k).i.toNat := by unfold factN; rw [hfc]; simp only [if_true]; congr 1; omega
        rw [hf] at hsn
        rw [h3] at n0
        clear hf hfc hN hmem
        generalize (nth L k).i = q at *
        obtain ⟨P, PI, hP, hPI⟩ : ∃ (P : Nat) (PI : Int), 2 ^ q.toNat = P ∧ PI = (P : Int) := ⟨_, _, rfl, rfl⟩
        have hPl : P < 4294967296 := by
          rw [← hP]
          have : (2 : Nat) ^ q.toNat ≤ 2 ^ 7 := Nat.pow_le_pow_right (by omega) (by omega)
          omega
        rw [hP] at hsn
        have hor := or_nat (unionL factN (L.take k)) P (by omega) hPl
        rw [← hPI] at hor
        obtain ⟨rfl, rfl, rfl⟩ | ⟨rfl, rfl, rfl⟩ | ⟨rfl, rfl, rfl⟩ | ⟨rfl, rfl, rfl⟩ | ⟨rfl, rfl, rfl⟩ | ⟨rfl, rfl, rfl⟩ | ⟨rfl, rfl, rfl⟩ | ⟨rfl, rfl, rfl⟩ :
            (q = 0 ∧ P = 1 ∧ PI = 1) ∨ (q = 1 ∧ P = 2 ∧ PI = 2) ∨ (q = 2 ∧ P = 4 ∧ PI = 4) ∨ (q = 3 ∧ P = 8 ∧ PI = 8) ∨ (q = 4 ∧ P = 16 ∧ PI = 16) ∨ (q = 5 ∧ P = 32 ∧ PI = 32) ∨ (q = 6 ∧ P = 64 ∧ PI = 64) ∨ (q = 7 ∧ P = 128 ∧ PI = 128) := by
          rcases (show q = 0 ∨ q = 1 ∨ q = 2 ∨ q = 3 ∨ q = 4 ∨ q = 5 ∨ q = 6 ∨ q = 7 by omega) with rfl | rfl | rfl | rfl | rfl | rfl | rfl | rfl <;> simp at hP <;> omega
        all_goals
          have HS := Lib.hid hsn
          clear hsn h0 h7 hP hPI hPl
          go_wp2
          go_roundw
          case rel => exact ⟨k + 1, hlt, by go_num, by rw [HS.out], hE1⟩
          case measure => simp [intOf]; omega
      · have hf : factN (nth L k) = 0 := by unfold factN; rw [r5f_eq]; simp [h3]
        rw [hf] at hsn
        have hq : ((nth L k).op == 3) = false := by simp [h3]
        have HS := Lib.hid hsn
        clear hsn hN hmem hf h3
        go_wp2
        go_roundw
        case rel => exact ⟨k + 1, hlt, by go_num, by rw [HS.out]; simp, hE1⟩
        case measure => simp [intOf]; omega
    · go_wp2
      go_ret
      refine ⟨?_, hE.trans hE1⟩
      rw [HR.out, List.take_of_length_le (by omega)]
      rfl
end Wt

/- Walks: wittingref05.Agents, Fits. -/
namespace Wt
open Go Go.RowKit Go.Maps Go.Proofs Fm

theorem use_agent_group (op : Int) (h : (useOf op).1.agent = true) : (useOf op).1.group = false := by
  by_cases ho : (useOf op).2 = true
  · obtain ⟨fr, h' | h' | h' | h' | h' | h' | h' | h' | h'⟩ := useOf_pat op ho <;> rw [h'] at h ⊢ <;> simp_all
  · rw [useOf_no op ho] at h ⊢
set_option maxHeartbeats 4000000 in
theorem r5Agents_any (fa : Option Addr) (fc : Nat) (l : List Nd) (w : World) (hr : RN w fa l) :
    Calls Try.prog 76 #[.slice fa l.length fc] w fun e w' => e = .returned (.int .i64 (fAgents l : Int)) ∧ Ext w w' := by
  have Hok := Lib.hid (fCompact_ok l).1
  have hlen := (fCompact_ok l).2
  have HR : Hid (fAgents l = unionL agentN (fCompact l)) := rfl
  go_enter Try.func76, Try.ntmps76
  go_wp2_with (go_at_call 40; refine (r5Compact_any _ _ l _ hr).mono ?_; rintro e w1 ⟨a, c, rfl, hc, hE⟩; generalize fCompact l = L at Hok hlen hc HR ⊢)
  go_loopw [4, 5] (fun o i wr => ∃ k : Nat, k ≤ L.length ∧ i = .int .i64 k ∧ o = .int .i64 (unionL agentN (L.take k) : Int) ∧ Ext w1 wr) (fun _ i _ => L.length - (intOf i).toNat)
  case atStart => exact ⟨0, Nat.zero_le _, rfl, rfl, Ext.refl _⟩
  case round =>
    obtain ⟨k, hk, rfl, rfl, hE1⟩ := hrel
    by_cases hlt : k < L.length
    · obtain ⟨b, off, rfl, hb, n0, n1, n2, n3, n4, n5⟩ := (hc.ext hE1).get hlt
      have hmem : nth L k ∈ L := by rw [nth_eq L k hlt]; exact List.getElem_mem hlt
      have hN := Hok.out _ hmem
      have hsn := unionL_snoc agentN L k hlt
      have hu1 := unionL_lt agentN agentN_lt (L.take k)
      cases ha : (useOf (nth L k).op).1.agent
      · have hg : 0 ≤ (nth L k).g ∧ (nth L k).g ≤ 15 := by
          cases hug : (useOf (nth L k).op).1.group
          · have := hN.nogroup hug; omega
          · have := hN.group hug; omega
        have hf : ((nth L k).g : Int) = (agentN (nth L k) : Int) := by unfold agentN; rw [ha]; simp only [Bool.false_eq_true, if_false]; omega
        have hor := or_nat (unionL agentN (L.take k)) (agentN (nth L k)) (by omega) (by have := agentN_lt (nth L k); omega)
        rw [hf] at n3
        have HA := Lib.hid ha
        have HS := Lib.hid hsn
        clear hsn hN hmem hf ha hg
        go_wp2_with (go_at_call 98; refine (r5A_any _ _).mono ?_; rintro _ _ ⟨rfl, rfl⟩; rw [HA.out])
        go_roundw
        case rel => exact ⟨k + 1, hlt, by go_num, by rw [HS.out], hE1⟩
        case measure => simp [intOf]; omega
      · obtain ⟨h0, h7⟩ := hN.agent ha
        have hg := hN.nogroup (use_agent_group _ ha)
        have hf : agentN (nth L k) = 2 ^ (nth L k).i.toNat := by unfold agentN; rw [ha]; simp only [if_true]; congr 1; omega
        rw [hf] at hsn
        rw [hg] at n3
        have HA := Lib.hid ha
        clear hf ha hN hmem hg
        generalize (nth L k).i = q at *
        obtain ⟨P, PI, hP, hPI⟩ : ∃ (P : Nat) (PI : Int), 2 ^ q.toNat = P ∧ PI = (P : Int) := ⟨_, _, rfl, rfl⟩
        have hPl : P < 512 := by
          rw [← hP]
          have : (2 : Nat) ^ q.toNat ≤ 2 ^ 7 := Nat.pow_le_pow_right (by omega) (by omega)
          omega
        rw [hP] at hsn
        have hor := or_nat (unionL agentN (L.take k)) P (by omega) (by omega)
        have hlt9 : unionL agentN (L.take k) ||| P < 2 ^ 9 := Nat.or_lt_two_pow (by omega) (by omega)
        have hor2 := or_nat (unionL agentN (L.take k) ||| P) 0 (by omega) (by omega)
        rw [Nat.or_zero, Int.natCast_zero] at hor2
        rw [← hPI] at hor
        obtain ⟨rfl, rfl, rfl⟩ | ⟨rfl, rfl, rfl⟩ | ⟨rfl, rfl, rfl⟩ | ⟨rfl, rfl, rfl⟩ :
            (q = 0 ∧ P = 1 ∧ PI = 1) ∨ (q = 1 ∧ P = 2 ∧ PI = 2) ∨ (q = 2 ∧ P = 4 ∧ PI = 4) ∨ (q = 3 ∧ P = 8 ∧ PI = 8) := by
          rcases (show q = 0 ∨ q = 1 ∨ q = 2 ∨ q = 3 by omega) with rfl | rfl | rfl | rfl <;> simp at hP <;> omega
        all_goals
          have HS := Lib.hid hsn
          clear hsn h0 h7 hP hPI hPl
          go_wp2_with (go_at_call 98; refine (r5A_any _ _).mono ?_; rintro _ _ ⟨rfl, rfl⟩; rw [HA.out])
          go_roundw
          case rel => exact ⟨k + 1, hlt, by go_num, by rw [HS.out], hE1⟩
          case measure => simp [intOf]; omega
    · go_wp2
      go_ret
      refine ⟨?_, hE.trans hE1⟩
      rw [HR.out, List.take_of_length_le (by omega)]
      rfl
theorem below_iff (B mask n : Nat) (hm : mask < 2 ^ B) (hB : B ≤ 31) : below mask n = true ↔ ∀ i, i < B → mask.testBit i = true → i < n := by
  unfold below
  constructor
  · intro h i hi hb
    simp only [Bool.or_eq_true, decide_eq_true_eq, beq_iff_eq] at h
    rcases h with h | h
    · omega
    · rcases Nat.lt_or_ge i n with h1 | h1
      · exact h1
      · have : (mask >>> n).testBit (i - n) = mask.testBit i := by rw [Nat.testBit_shiftRight]; congr 1; omega
        rw [h, hb] at this
        simp at this
  · intro h
    simp only [Bool.or_eq_true, decide_eq_true_eq, beq_iff_eq]
    rcases Nat.lt_or_ge n 31 with h1 | h1
    · refine .inr ?_
      apply Nat.eq_of_testBit_eq
      intro j
      rw [Nat.testBit_shiftRight, Nat.zero_testBit]
      rcases hb : mask.testBit (n + j) with _ | _
      · rfl
      · rcases Nat.lt_or_ge (n + j) B with h2 | h2
        · have := h _ h2 hb; omega
        · have : mask < 2 ^ (n + j) := Nat.lt_of_lt_of_le hm (Nat.pow_le_pow_right (by omega) h2)
          rw [Nat.testBit_lt_two_pow this] at hb
          cases hb
    · exact .inl h1
theorem unionL_bound (B : Nat) (m : Nd → Nat) : ∀ (l : List Nd) (a : Nat), a < 2 ^ B → (∀ n ∈ l, m n < 2 ^ B) → l.foldl (fun a n => a ||| m n) a < 2 ^ B
  | [], a, h, _ => h
  | n :: l, a, h, hm => unionL_bound B m l _ (Nat.or_lt_two_pow h (hm n (by simp))) (fun x hx => hm x (by simp [hx]))
theorem fAgents_lt (l : List Nd) : fAgents l < 2 ^ 4 := unionL_bound 4 agentN (fCompact l) 0 (by decide) fun n hn => by
  have h := (fCompact_ok l).1 n hn
  unfold agentN
  split
  · rename_i ha
    have := h.agent ha
    have : n.i.toNat % 9 ≤ 3 := by omega
    exact Nat.lt_of_le_of_lt (Nat.pow_le_pow_right (by omega) this) (by decide)
  · cases hg : (useOf n.op).1.group
    · have := h.nogroup hg; omega
    · have := h.group hg; omega
theorem fFacts_lt (l : List Nd) : fFacts l < 2 ^ 8 := unionL_bound 8 factN (fCompact l) 0 (by decide) fun n hn => by
  have h := (fCompact_ok l).1 n hn
  unfold factN
  split
  · rename_i ha
    have := h.fact ha
    have : n.i.toNat % 9 ≤ 7 := by omega
    exact Nat.lt_of_le_of_lt (Nat.pow_le_pow_right (by omega) this) (by decide)
  · decide
theorem bit_of (mask k : Nat) : (((mask : Int) / 2 ^ k).tmod 2 == 1) = mask.testBit k := by
  have h0 : (mask : Int) / 2 ^ k = ((mask / 2 ^ k : Nat) : Int) := by simp
  have h : ((mask : Int) / 2 ^ k).tmod 2 = ((mask / 2 ^ k % 2 : Nat) : Int) := by rw [h0]; rfl
  rw [h, Nat.testBit_eq_decide_div_mod_eq, Bool.eq_iff_iff]
  simp only [beq_iff_eq, decide_eq_true_eq]
  omega
set_option maxHeartbeats 4000000 in
theorem r5Fits_any (fa : Option Addr) (fc : Nat) (l : List Nd) (a f : Nat) (w : World) (hr : RN w fa l) :
    Calls Try.prog 54 #[.slice fa l.length fc, .int .i64 (a : Int), .int .i64 (f : Int)] w fun e w' => e = .returned (.bool (fFits l a f)) ∧ Ext w w' := by
  by_cases h1 : fCheck l = 0
  · have H1 := Lib.hid h1
    have HA := Lib.hid (below_iff 4 (fAgents l) a (fAgents_lt l) (by omega))
    have HF := Lib.hid (below_iff 8 (fFacts l) f (fFacts_lt l) (by omega))
    have HV : Hid (fFits l a f = (below (fAgents l) a && below (fFacts l) f)) := by show _ = _; unfold fFits; rw [h1]; simp
    have hma := fAgents_lt l
    have hmf := fFacts_lt l
    clear h1
    go_enter Try.func54, Try.ntmps54
    go_wp2_with (go_at_call 52; refine (r5Check_any fa fc l _ hr).mono ?_; rintro e w1 ⟨rfl, hE1⟩; rw [H1.out])
    go_loopw [7] (fun i wr => ∃ k : Nat, k ≤ 4 ∧ i = .int .i64 k ∧ Ext w wr ∧ Hid (∀ j, j < k → (fAgents l).testBit j = true → j < a)) (fun i _ => 4 - (intOf i).toNat)
    case atStart => exact ⟨0, Nat.zero_le _, rfl, by assumption, fun _ h => absurd h (Nat.not_lt_zero _)⟩
    case round =>
      obtain ⟨k, hk, rfl, hE, hno⟩ := hrel
      by_cases hlt : k < 4
      · have hb := bit_of (fAgents l) k
        cases hbit : (fAgents l).testBit k
        · rw [hbit] at hb
          go_wp2_with (go_at_call 76; refine (r5Agents_any fa fc l _ (hr.ext hE)).mono ?_; rintro e w2 ⟨rfl, hE2⟩)
          go_roundw
          case rel => exact ⟨k + 1, hlt, by go_num, hE.trans hE2, fun j hj hjb => by
            rcases Nat.lt_or_ge j k with h | h
            · exact hno.out j h hjb
            · obtain rfl : j = k := by omega
              rw [hbit] at hjb; cases hjb⟩
          case measure => simp [intOf]; omega
        · rw [hbit] at hb
          by_cases hka : k < a
          · go_wp2_with (go_at_call 76; refine (r5Agents_any fa fc l _ (hr.ext hE)).mono ?_; rintro e w2 ⟨rfl, hE2⟩)
            go_roundw
            case rel => exact ⟨k + 1, hlt, by go_num, hE.trans hE2, fun j hj hjb => by
              rcases Nat.lt_or_ge j k with h | h
              · exact hno.out j h hjb
              · omega⟩
            case measure => simp [intOf]; omega
          · have hfalse : fFits l a f = false := by
              rw [HV.out]
              rcases hbl : below (fAgents l) a with _ | _
              · simp
              · exact absurd (HA.out.1 hbl k hlt hbit) hka
            have HN := Lib.hid hfalse
            clear hfalse
            go_wp2_with (go_at_call 76; refine (r5Agents_any fa fc l _ (hr.ext hE)).mono ?_; rintro e w2 ⟨rfl, hE2⟩)
            go_ret
            exact ⟨by rw [HN.out]; rfl, hE.trans hE2⟩
      · obtain rfl : k = 4 := by omega
        have hba : below (fAgents l) a = true := HA.out.2 hno.out
        have HBA := Lib.hid hba
        have hEa := hE
        clear hba hno hE
        rw [show ((4 : Nat) : Int) = 4 from rfl]
        go_wp2
        go_loopw [8] (fun i wr => ∃ k : Nat, k ≤ 8 ∧ i = .int .i64 k ∧ Ext w wr ∧ Hid (∀ j, j < k → (fFacts l).testBit j = true → j < f)) (fun i _ => 8 - (intOf i).toNat)
        case atStart => exact ⟨0, Nat.zero_le _, rfl, by assumption, fun _ h => absurd h (Nat.not_lt_zero _)⟩
        case round =>
          obtain ⟨k, hk, rfl, hE, hno⟩ := hrel
          by_cases hlt : k < 8
          · have hb := bit_of (fFacts l) k
            cases hbit : (fFacts l).testBit k
            · rw [hbit] at hb
              go_wp2_with (go_at_call 77; refine (r5Facts_any fa fc l _ (hr.ext hE)).mono ?_; rintro e w2 ⟨rfl, hE2⟩)
              go_roundw
              case rel => exact ⟨k + 1, hlt, by go_num, hE.trans hE2, fun j hj hjb => by
                rcases Nat.lt_or_ge j k with h | h
                · exact hno.out j h hjb
                · obtain rfl : j = k := by omega
                  rw [hbit] at hjb; cases hjb⟩
              case measure => simp [intOf]; omega
            · rw [hbit] at hb
              by_cases hka : k < f
              · go_wp2_with (go_at_call 77; refine (r5Facts_any fa fc l _ (hr.ext hE)).mono ?_; rintro e w2 ⟨rfl, hE2⟩)
                go_roundw
                case rel => exact ⟨k + 1, hlt, by go_num, hE.trans hE2, fun j hj hjb => by
                  rcases Nat.lt_or_ge j k with h | h
                  · exact hno.out j h hjb
                  · omega⟩
                case measure => simp [intOf]; omega
              · have hfalse : fFits l a f = false := by
                  rw [HV.out]
                  rcases hbl : below (fFacts l) f with _ | _
                  · simp
                  · exact absurd (HF.out.1 hbl k hlt hbit) hka
                have HN := Lib.hid hfalse
                clear hfalse
                go_wp2_with (go_at_call 77; refine (r5Facts_any fa fc l _ (hr.ext hE)).mono ?_; rintro e w2 ⟨rfl, hE2⟩)
                go_ret
                exact ⟨by rw [HN.out]; rfl, hE.trans hE2⟩
          · obtain rfl : k = 8 := by omega
            have hbf : below (fFacts l) f = true := HF.out.2 hno.out
            have htrue : fFits l a f = true := by rw [HV.out, HBA.out, hbf]; rfl
            have HN := Lib.hid htrue
            clear htrue hbf
            go_wp2
            go_ret
            exact ⟨by rw [HN.out]; rfl, hE⟩
  · have hn : fFits l a f = false := by unfold fFits; simp [h1]
    have HN := Lib.hid hn
    have hq2 : (fCheck l != 0) = true := by simp [h1]
    clear h1 hn
    go_enter Try.func54, Try.ntmps54
    go_wp2_with (go_at_call 52; refine (r5Check_any _ _ l _ hr).mono ?_; rintro e w1 ⟨rfl, hE⟩)
    go_ret
    exact ⟨by rw [HN.out]; rfl, hE⟩
end Wt
