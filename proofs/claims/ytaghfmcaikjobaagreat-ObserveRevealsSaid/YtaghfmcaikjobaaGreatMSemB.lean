/- Walks: wittingref17.Box, Paths, common, Boolean. -/
import Derived.Test.YtaghfmcaikjobaaGreatMBld
import Derived.Test.YtaghfmcaikjobaaGreatMFmJ
import Derived.Test.YtaghfmcaikjobaaGreatMTz
import Derived.Test.YtaghfmcaikjobaaGreatMFmH
import Derived.Test.YtaghfmcaikjobaaGreatMCkA
import Derived.Laws.StructEq
import Derived.Deep.RegionHeld3
import Derived.Deep.RegionLaw
import Derived.Deep.AppendLies
namespace Wt
open Go Go.RowKit Go.Proofs

set_option maxHeartbeats 1000000 in
theorem r17Box_any (a : Option Addr) (r : List (BitVec 64)) (c n : Nat) (s : BitVec 64) (w : World) (hr : RU w a r) (hn : n ≤ r.length) (h64 : n ≤ 64) :
    Calls Tryz.prog 83 #[.slice a r.length c, .int .i64 (n : Int), .int .u64 (un s)] w fun e w' => e = .returned (.int .u64 (un (boxTo r s n))) ∧ w = w' := by
  have hl := hr.len
  go_enter Tryz.func83, Tryz.ntmps83
  go_wp2
  go_loop [7, 8] (fun o i => ∃ k : Nat, k ≤ n ∧ i = .int .i64 k ∧ o = .int .u64 (un (boxTo r s k))) (fun _ i => n - (intOf i).toNat)
  case atStart => exact ⟨0, Nat.zero_le _, rfl, rfl⟩
  case round =>
    obtain ⟨k, hk, rfl, rfl⟩ := hrel
    by_cases hlt : k < n
    · obtain ⟨b, off, rfl, hb, hc⟩ := hr.get (k := k) (by omega)
      by_cases hq : (nth r k &&& ~~~ s) = 0#64
      · have hs : boxTo r s (k + 1) = boxTo r s k ||| 1#64 <<< k := if_pos hq
        have HS := Lib.hid hs
        have hq2 : ((nth r k &&& ~~~ s) == 0#64) = true := by simp [hq]
        clear hq hs
        go_wp2
        go_round
        case rel => exact ⟨k + 1, hlt, by go_num, by rw [HS.out]⟩
        case measure => simp [intOf]; omega
      · have hs : boxTo r s (k + 1) = boxTo r s k := if_neg hq
        have HS := Lib.hid hs
        have hq2 : ((nth r k &&& ~~~ s) == 0#64) = false := by simp [hq]
        clear hq hs
        go_wp2
        go_round
        case rel => exact ⟨k + 1, hlt, by go_num, by rw [HS.out]⟩
        case measure => simp [intOf]; omega
    · obtain rfl : k = n := by omega
      go_wp2
      go_ret
      exact ⟨rfl, rfl⟩
/-- The inner rounds of Paths. -/
def pIn (r : List (BitVec 64)) (c : BitVec 64) : Nat → BitVec 64 → BitVec 64
  | 0, s => s
  | k + 1, s => if bt (pIn r c k s) k then pIn r c k s ||| (nth r k &&& c) else pIn r c k s
theorem pIn_yes {r : List (BitVec 64)} {c : BitVec 64} {q : Nat} {S : BitVec 64} (h : bt (pIn r c q S) q = true) : pIn r c (q + 1) S = pIn r c q S ||| (nth r q &&& c) := by
  show (if bt (pIn r c q S) q then _ else _) = _
  rw [if_pos h]
theorem pIn_no {r : List (BitVec 64)} {c : BitVec 64} {q : Nat} {S : BitVec 64} (h : bt (pIn r c q S) q = false) : pIn r c (q + 1) S = pIn r c q S := by
  show (if bt (pIn r c q S) q then _ else _) = _
  rw [if_neg (by simp [h])]
def pOut (r : List (BitVec 64)) (n : Nat) (c s : BitVec 64) : Nat → BitVec 64
  | 0 => s
  | i + 1 => pIn r c n (pOut r n c s i)
def paths (r : List (BitVec 64)) (n k : Nat) (c : BitVec 64) : BitVec 64 := pOut r n c (nth r k &&& c) n
set_option maxHeartbeats 1000000 in
theorem r17Paths_any (a : Option Addr) (r : List (BitVec 64)) (rc n k : Nat) (c : BitVec 64) (w : World) (hr : RU w a r) (hn : n ≤ r.length) (h64 : n ≤ 64) (hk : k < n) :
    Calls Tryz.prog 101 #[.slice a r.length rc, .int .i64 (n : Int), .int .i64 (k : Int), .int .u64 (un c)] w fun e w' => e = .returned (.int .u64 (un (paths r n k c))) ∧ w = w' := by
  have hl := hr.len
  obtain ⟨b, off, rfl, hb, hc⟩ := hr.get (k := k) (by omega)
  have HR := Lib.hid hr
  clear hr
  go_enter Tryz.func101, Tryz.ntmps101
  go_wp2
  go_loop [9, 10] (fun o i => ∃ j : Nat, j ≤ n ∧ i = .int .i64 j ∧ o = .int .u64 (un (pOut r n c (nth r k &&& c) j))) (fun _ i => n - (intOf i).toNat)
  case atStart => exact ⟨0, Nat.zero_le _, rfl, rfl⟩
  case round =>
    obtain ⟨j, hj, rfl, rfl⟩ := hrel
    by_cases hlt : j < n
    · generalize hS : pOut r n c (nth r k &&& c) j = S
      have HS := Lib.hid hS
      clear hS
      go_wp2
      go_loop [9, 11] (fun o i => ∃ q : Nat, q ≤ n ∧ i = .int .i64 q ∧ o = .int .u64 (un (pIn r c q S))) (fun _ i => n - (intOf i).toNat)
      case atStart => exact ⟨0, Nat.zero_le _, rfl, rfl⟩
      case round =>
        obtain ⟨q, hq, rfl, rfl⟩ := hrel
        by_cases hql : q < n
        · obtain ⟨b', off', hbe, hb', hcq⟩ := HR.out.get (k := q) (by omega)
          simp only [Option.some.injEq, Addr.mk.injEq] at hbe
          obtain ⟨rfl, rfl, -⟩ := hbe
          cases hbt : bt (pIn r c q S) q
          · have hs : pIn r c (q + 1) S = pIn r c q S := pIn_no hbt
            have HP := Lib.hid hs
            have hh : hasW (pIn r c q S) (q : Int) = false := by simpa [hasW] using hbt
            have HH := Lib.hid hh
            clear hs hh hbt
            go_wp2_with (go_at_call 106; refine (r13Has_any _ _ _).mono ?_; rintro _ _ ⟨rfl, rfl⟩; rw [HH.out])
            go_round
            case rel => exact ⟨q + 1, hql, by go_num, by rw [HP.out]⟩
            case measure => simp [intOf]; omega
          · have hs : pIn r c (q + 1) S = pIn r c q S ||| (nth r q &&& c) := pIn_yes hbt
            have HP := Lib.hid hs
            have hh : hasW (pIn r c q S) (q : Int) = true := by simpa [hasW] using hbt
            have HH := Lib.hid hh
            clear hs hh hbt
            go_wp2_with (go_at_call 106; refine (r13Has_any _ _ _).mono ?_; rintro _ _ ⟨rfl, rfl⟩; rw [HH.out])
            go_round
            case rel => exact ⟨q + 1, hql, by go_num, by rw [HP.out]⟩
            case measure => simp [intOf]; omega
        · obtain rfl : q = n := by omega
          go_wp2
          go_round
          case rel => exact ⟨j + 1, hlt, by go_num, by rw [← HS.out]; rfl⟩
          case measure => simp [intOf]; omega
    · obtain rfl : j = n := by omega
      go_wp2
      go_ret
      exact ⟨rfl, rfl⟩
/-- The worlds below k from which all paths through a condition lead to a set. -/
def comTo (r : List (BitVec 64)) (n : Nat) (c s : BitVec 64) : Nat → BitVec 64
  | 0 => 0#64
  | k + 1 => if (paths r n k c &&& ~~~ s) = 0#64 then comTo r n c s k ||| 1#64 <<< k else comTo r n c s k
set_option maxHeartbeats 1000000 in
theorem r17common_any (a : Option Addr) (r : List (BitVec 64)) (rc n : Nat) (c s : BitVec 64) (w : World) (hr : RU w a r) (hn : n ≤ r.length) (h64 : n ≤ 64) :
    Calls Tryz.prog 86 #[.slice a r.length rc, .int .i64 (n : Int), .int .u64 (un c), .int .u64 (un s)] w fun e w' => e = .returned (.int .u64 (un (comTo r n c s n))) ∧ w = w' := by
  have hl := hr.len
  go_enter Tryz.func86, Tryz.ntmps86
  go_wp2
  go_loop [9, 10] (fun o i => ∃ k : Nat, k ≤ n ∧ i = .int .i64 k ∧ o = .int .u64 (un (comTo r n c s k))) (fun _ i => n - (intOf i).toNat)
  case atStart => exact ⟨0, Nat.zero_le _, rfl, rfl⟩
  case round =>
    obtain ⟨k, hk, rfl, rfl⟩ := hrel
    by_cases hlt : k < n
    · by_cases hq : (paths r n k c &&& ~~~ s) = 0#64
      · have hs : comTo r n c s (k + 1) = comTo r n c s k ||| 1#64 <<< k := if_pos hq
        have HS := Lib.hid hs
        have hq2 : ((paths r n k c &&& ~~~ s) == 0#64) = true := by simp [hq]
        clear hq hs
        go_wp2_with (go_at_call 101; refine (r17Paths_any a r rc n k c _ hr hn h64 hlt).mono ?_; rintro _ _ ⟨rfl, rfl⟩)
        go_round
        case rel => exact ⟨k + 1, hlt, by go_num, by rw [HS.out]⟩
        case measure => simp [intOf]; omega
      · have hs : comTo r n c s (k + 1) = comTo r n c s k := if_neg hq
        have HS := Lib.hid hs
        have hq2 : ((paths r n k c &&& ~~~ s) == 0#64) = false := by simp [hq]
        clear hq hs
        go_wp2_with (go_at_call 101; refine (r17Paths_any a r rc n k c _ hr hn h64 hlt).mono ?_; rintro _ _ ⟨rfl, rfl⟩)
        go_round
        case rel => exact ⟨k + 1, hlt, by go_num, by rw [HS.out]⟩
        case measure => simp [intOf]; omega
    · obtain rfl : k = n := by omega
      go_wp2
      go_ret
      exact ⟨rfl, rfl⟩
/-- The set of a propositional node. -/
def boolN (o : Int) (x y all : BitVec 64) : BitVec 64 :=
  if o = 1 then all else if o = 4 then all &&& ~~~ x else if o = 5 then x &&& y else if o = 6 then x ||| y else if o = 7 then (all &&& ~~~ x) ||| y else if o = 8 then all &&& ~~~ (x ^^^ y) else 0#64
set_option maxHeartbeats 1000000 in
theorem r17Boolean_any (o : Int) (x y all : BitVec 64) (w : World) :
    Calls Tryz.prog 82 #[.int .i64 o, .int .u64 (un x), .int .u64 (un y), .int .u64 (un all)] w fun e w' => e = .returned (.int .u64 (un (boolN o x y all))) ∧ w = w' := by
  by_cases h1 : o = 1
  · subst h1; go_enter Tryz.func82, Tryz.ntmps82; go_wp2; go_ret; exact ⟨rfl, rfl⟩
  by_cases h4 : o = 4
  · subst h4; go_enter Tryz.func82, Tryz.ntmps82; go_wp2; go_ret; exact ⟨rfl, rfl⟩
  by_cases h5 : o = 5
  · subst h5; go_enter Tryz.func82, Tryz.ntmps82; go_wp2; go_ret; exact ⟨rfl, rfl⟩
  by_cases h6 : o = 6
  · subst h6; go_enter Tryz.func82, Tryz.ntmps82; go_wp2; go_ret; exact ⟨rfl, rfl⟩
  by_cases h7 : o = 7
  · subst h7; go_enter Tryz.func82, Tryz.ntmps82; go_wp2; go_ret; exact ⟨rfl, rfl⟩
  by_cases h8 : o = 8
  · subst h8; go_enter Tryz.func82, Tryz.ntmps82; go_wp2; go_ret; exact ⟨rfl, rfl⟩
  have hv : boolN o x y all = 0#64 := by simp [boolN, h1, h4, h5, h6, h7, h8]
  have HV := Lib.hid hv
  have e1 : (o == 1) = false := by simp [h1]
  have e4 : (o == 4) = false := by simp [h4]
  have e5 : (o == 5) = false := by simp [h5]
  have e6 : (o == 6) = false := by simp [h6]
  have e7 : (o == 7) = false := by simp [h7]
  have e8 : (o == 8) = false := by simp [h8]
  clear hv h1 h4 h5 h6 h7 h8
  go_enter Tryz.func82, Tryz.ntmps82
  go_wp2
  go_ret
  exact ⟨by rw [HV.out]; rfl, rfl⟩
end Wt

/- Plain laws: common knowledge by paths; boxes; a tree's set is there exactly if its fragments and its agents and facts fit. -/
namespace Wt
open Fm

section
variable {r : List (BitVec 64)} {c s : BitVec 64} {n : Nat}
theorem pIn_sup : ∀ k, Sub s (pIn r c k s)
  | 0 => Sub.refl _
  | k + 1 => by
    rcases h : bt (pIn r c k s) k with _ | _
    · rw [pIn_no h]; exact pIn_sup k
    · rw [pIn_yes h]; exact (pIn_sup k).trans (Sub.orL _ _)
theorem pIn_step (k : Nat) : Sub (pIn r c k s) (pIn r c (k + 1) s) := by
  rcases h : bt (pIn r c k s) k with _ | _
  · rw [pIn_no h]; exact Sub.refl _
  · rw [pIn_yes h]; exact Sub.orL _ _
theorem pIn_mono (j : Nat) : ∀ d, Sub (pIn r c j s) (pIn r c (j + d) s)
  | 0 => Sub.refl _
  | d + 1 => (pIn_mono j d).trans (pIn_step (j + d))
theorem pIn_inv {X : BitVec 64} {m : Nat} (hm : m ≤ 64) (hX : ∀ v, v < m → bt X v = true → Sub (nth r v &&& c) X) (h0 : Sub s X) : ∀ k, k ≤ m → Sub (pIn r c k s) X
  | 0, _ => h0
  | k + 1, hk => by
    have ih := pIn_inv hm hX h0 k (by omega)
    rcases h : bt (pIn r c k s) k with _ | _
    · rw [pIn_no h]; exact ih
    · rw [pIn_yes h]; exact Sub.or ih (hX k (by omega) (ih k (by omega) h))
theorem pOut_inv {X : BitVec 64} (hn : n ≤ 64) (hX : ∀ v, v < n → bt X v = true → Sub (nth r v &&& c) X) (h0 : Sub s X) : ∀ i, Sub (pOut r n c s i) X
  | 0 => h0
  | i + 1 => pIn_inv hn hX (pOut_inv hn hX h0 i) n (Nat.le_refl _)
theorem pOut_sup : ∀ i, Sub s (pOut r n c s i)
  | 0 => Sub.refl _
  | i + 1 => (pOut_sup i).trans (pIn_sup n)
theorem pIn_closed (h : pIn r c n s = s) {v : Nat} (hv : v < n) (hb : bt s v = true) : Sub (nth r v &&& c) s := by
  have h1 : pIn r c v s = s := by
    have := pIn_mono (r := r) (c := c) (s := s) v (n - v)
    rw [show v + (n - v) = n by omega, h] at this
    exact Sub.antisymm this (pIn_sup v)
  have h2 : Sub (pIn r c (v + 1) s) s := by
    have := pIn_mono (r := r) (c := c) (s := s) (v + 1) (n - (v + 1))
    rw [show v + 1 + (n - (v + 1)) = n by omega, h] at this
    exact this
  rw [pIn_yes (by rw [h1]; exact hb), h1] at h2
  exact (Sub.orR _ _).trans h2
theorem pOut_stop : ∀ i, pOut r n c s (i + 1) = pOut r n c s i ∨ i + 1 ≤ pop (pOut r n c s (i + 1))
  | 0 => by
    by_cases h : pOut r n c s 1 = pOut r n c s 0
    · exact .inl h
    · have := pop_lt (pIn_sup (r := r) (c := c) (s := pOut r n c s 0) n) (Ne.symm h)
      exact .inr (by show 0 + 1 ≤ pop (pIn r c n (pOut r n c s 0)); omega)
  | i + 1 => by
    rcases pOut_stop i with h | h
    · exact .inl (by show pIn r c n (pOut r n c s (i + 1)) = _; rw [h]; exact h)
    · by_cases h2 : pOut r n c s (i + 1 + 1) = pOut r n c s (i + 1)
      · exact .inl h2
      · have := pop_lt (pIn_sup (r := r) (c := c) (s := pOut r n c s (i + 1)) n) (Ne.symm h2)
        exact .inr (by show i + 1 + 1 ≤ pop (pIn r c n (pOut r n c s (i + 1))); omega)
theorem pop_mono {s t : BitVec 64} (h : Sub s t) : pop s ≤ pop t := by
  by_cases e : s = t
  · rw [e]; exact Nat.le_refl _
  · exact Nat.le_of_lt (pop_lt h e)
theorem pOut_fix (hn : n ≤ 64) (hrow : ∀ v, v < n → Sub (nth r v) (allW n)) (h0 : Sub s (allW n)) : pIn r c n (pOut r n c s n) = pOut r n c s n := by
  rcases pOut_stop (r := r) (c := c) (s := s) (n := n) n with h | h
  · exact h
  · have h1 : Sub (pOut r n c s (n + 1)) (allW n) := pOut_inv hn (fun v hv _ k hk hb => by
      rw [bt_and, Bool.and_eq_true] at hb
      exact hrow v hv k hk hb.1) h0 (n + 1)
    have h2 := pop_mono h1
    have h3 := pop_allW n
    omega
theorem paths_sup (k : Nat) : Sub (nth r k &&& c) (paths r n k c) := pOut_sup n
theorem paths_inv {X : BitVec 64} (hn : n ≤ 64) {k : Nat} (hX : ∀ v, v < n → bt X v = true → Sub (nth r v &&& c) X) (h0 : Sub (nth r k &&& c) X) : Sub (paths r n k c) X := pOut_inv hn hX h0 n
theorem paths_closed (hn : n ≤ 64) (hrow : ∀ v, v < n → Sub (nth r v) (allW n)) {k v : Nat} (hk : k < n) (hv : v < n) (hb : bt (paths r n k c) v = true) : Sub (nth r v &&& c) (paths r n k c) :=
  pIn_closed (pOut_fix hn hrow fun j hj h => by
    rw [bt_and, Bool.and_eq_true] at h
    exact hrow k hk j hj h.1) hv hb
theorem bt_comTo (m : Nat) {k : Nat} (hk : k < 64) : bt (comTo r n c s m) k = (decide (k < m) && (paths r n k c &&& ~~~ s == 0#64)) := by
  induction m with
  | zero => simp [comTo, bt_zero]
  | succ m ih =>
    by_cases h : (paths r n m c &&& ~~~ s) = 0#64
    · have e : comTo r n c s (m + 1) = comTo r n c s m ||| 1#64 <<< m := if_pos h
      rw [e, bt_or, bt_shl1, ih]
      by_cases hkm : k = m
      · subst hkm; rw [h]; simp [hk]
      · rw [Bool.eq_iff_iff]; simp [hkm]; omega
    · have e : comTo r n c s (m + 1) = comTo r n c s m := if_neg h
      rw [e, ih]
      by_cases hkm : k = m
      · subst hkm; simp [h]
      · rw [Bool.eq_iff_iff]; simp; omega
/-- Common knowledge: all paths through the condition lead to the set. -/
theorem comTo_cmn (hr : r.length = n) (hn : n ≤ 64) (hok : relCheck r = 0) (hrow : ∀ v, v < n → Sub (nth r v) (allW n)) : comTo r n c s n = cmn r n c s := by
  apply Sub.antisymm
  · -- into every round
    have key : ∀ j, Sub (comTo r n c s n) (cmnI r n c s j) := by
      intro j
      induction j with
      | zero =>
        intro k hk hb
        rw [bt_comTo n hk, Bool.and_eq_true, decide_eq_true_eq] at hb
        show bt (allW n) k = true
        rw [bt_allW]; simp [hk, hb.1]
      | succ j ih =>
        intro k hk hb
        have hb2 := hb
        rw [bt_comTo n hk, Bool.and_eq_true, decide_eq_true_eq, beq_iff_eq, andNot_zero] at hb2
        show bt (relBox r _) k = true
        rw [bt_relBox _ _ _ hk]
        simp only [Bool.and_eq_true, decide_eq_true_eq, beq_iff_eq, andNot_zero]
        refine ⟨⟨hok, by omega⟩, fun v hv hbv => ?_⟩
        have hvn : v < n := by
          have := hrow k hb2.1 v hv hbv
          rw [bt_allW] at this; simp at this; exact this.2
        rw [bt_or, bt_and, bt_and, bt_not, bt_allW]
        rcases hc : bt c v with _ | _
        · simp [hv, hvn]
        · have hvp : bt (paths r n k c) v = true := paths_sup k v hv (by rw [bt_and, hbv, hc]; rfl)
          have hvx : bt (comTo r n c s n) v = true := by
            rw [bt_comTo n hv, Bool.and_eq_true, decide_eq_true_eq, beq_iff_eq, andNot_zero]
            refine ⟨hvn, Sub.trans ?_ hb2.2⟩
            exact paths_inv hn (fun u hu hbu => paths_closed hn hrow hb2.1 hu hbu) (paths_closed hn hrow hb2.1 hvn hvp)
          have h1 := hb2.2 v hv hvp
          have h2 := ih v hv hvx
          rw [h1, h2]; simp
    exact key n
  · intro k hk hb
    have hG : cmnF r n c s (cmn r n c s) = cmn r n c s := cmnI_fix r n (by omega) c s
    have step : ∀ v, v < 64 → bt (cmn r n c s) v = true → v < n ∧ Sub (nth r v &&& c) (s &&& cmn r n c s) := by
      intro v hv hbv
      rw [← hG] at hbv
      have h1 : bt (relBox r ((allW n &&& ~~~ c) ||| (s &&& cmn r n c s))) v = true := hbv
      rw [bt_relBox _ _ _ hv] at h1
      simp only [Bool.and_eq_true, decide_eq_true_eq, beq_iff_eq, andNot_zero] at h1
      refine ⟨by omega, fun u hu hbu => ?_⟩
      rw [bt_and, Bool.and_eq_true] at hbu
      have := h1.2 u hu hbu.1
      rw [bt_or, bt_and, bt_not, hbu.2] at this
      simpa using this
    obtain ⟨hkn, h0⟩ := step k hk hb
    rw [bt_comTo n hk, Bool.and_eq_true, decide_eq_true_eq, beq_iff_eq, andNot_zero]
    refine ⟨hkn, Sub.trans (paths_inv (X := s &&& cmn r n c s) hn (fun v hv hbv => ?_) h0) fun v hv hbv => ?_⟩
    · rw [bt_and, Bool.and_eq_true] at hbv
      exact (step v (by omega) hbv.2).2
    · rw [bt_and, Bool.and_eq_true] at hbv
      exact hbv.1
end
end Wt

/- The state of wittingref05's walk (the canonical list so far, the numbers of the nodes that are done), and what a call of put does to it: plain facts. -/
namespace Wt
open Go Go.RowKit Go.Maps Go.Proofs Fm

theorem node_fields : (Tryz.prog.fieldsOf 62).toList.map (fun f => (f.name == "_", f.type, f.offset)) = [(false, 3, 0), (false, 3, 1), (false, 3, 2), (false, 3, 3), (false, 3, 4), (false, 3, 5)] := by kernel_rfl
theorem node_struct : Tryz.prog.underlying 62 = some (.struct (Tryz.prog.fieldsOf 62)) := by kernel_rfl
theorem node_held : Tryz.prog.stoodInHeld 62 = false := by kernel_rfl
theorem eqFields_ints {P : Program} {w : World} (d : Nat) (h3 : P.underlying 3 = some (.int .i64)) (hp3 : P.plainKey 3 = true) (xs ys : Array Value) : ∀ (fs : List Field) (o : Nat) (us bs : List Int), fs.map (fun f => (f.name == "_", f.type, f.offset)) = (List.range' o us.length).map (fun k => (false, 3, k)) →
    us.length = bs.length → (∀ k, k < us.length → xs[o + k]? = some (.int .i64 (us.getD k 0))) → (∀ k, k < us.length → ys[o + k]? = some (.int .i64 (bs.getD k 0))) →
    (Op.eqFields (d + 1) xs ys fs).run P w = .ok (decide (us = bs)) w
  | [], o, us, bs, hf, hl, _, _ => by
    have : us = [] := by cases us with | nil => rfl | cons a us => simp [List.range'] at hf
    subst this
    have : bs = [] := by cases bs with | nil => rfl | cons b bs => simp at hl
    subst this
    simp [Op.eqFields]
  | f :: fs, o, [], bs, hf, hl, _, _ => by simp at hf
  | f :: fs, o, a :: us, [], hf, hl, _, _ => by simp at hl
  | f :: fs, o, a :: us, b :: bs, hf, hl, hx, hy => by
    simp only [List.map_cons, List.length_cons, List.range'_succ, List.cons.injEq, Prod.mk.injEq] at hf
    obtain ⟨⟨h1, h2, h4⟩, hf⟩ := hf
    have ih := eqFields_ints (w := w) d h3 hp3 xs ys fs (o + 1) us bs hf (by simpa using hl) (fun k hk => by have := hx (k + 1) (by simp; omega); rw [show o + (k + 1) = o + 1 + k by omega] at this; simpa using this) (fun k hk => by have := hy (k + 1) (by simp; omega); rw [show o + (k + 1) = o + 1 + k by omega] at this; simpa using this)
    have hx0 := hx 0 (by simp)
    have hy0 := hy 0 (by simp)
    simp at hx0 hy0
    unfold Op.eqFields
    rw [if_pos (by simpa using h1), h2, h4]
    have p1 := run_part_plain (P := P) (w := w) (e := 3) (xs := xs) (off := o) hp3 hx0
    have p2 := run_part_plain (P := P) (w := w) (e := 3) (xs := ys) (off := o) hp3 hy0
    have p3 := run_equalIn_int (P := P) (w := w) d 3 .i64 .i64 a b h3
    simp only [Sem.run_bind, p1, p2, p3, Result.andThen]
    by_cases hab : a = b
    · subst hab
      simp [ih]
    · simp [hab]
theorem int_plain : Tryz.prog.plainKey 3 = true := by kernel_rfl
/-- Nodes are compared field by field. -/
theorem run_nd_eql (a b : Nd) (W : World) : (binOp .eql 62 a.val b.val).run Tryz.prog W = .ok (.bool (decide (a = b))) W := by
  have h := eqFields_ints (P := Tryz.prog) (w := W) 9998 Tryz.underlying3 int_plain #[.int .i64 a.op, .int .i64 a.i, .int .i64 a.e, .int .i64 a.g, .int .i64 a.x, .int .i64 a.y] #[.int .i64 b.op, .int .i64 b.i, .int .i64 b.e, .int .i64 b.g, .int .i64 b.x, .int .i64 b.y] (Tryz.prog.fieldsOf 62).toList 0 [a.op, a.i, a.e, a.g, a.x, a.y] [b.op, b.i, b.e, b.g, b.x, b.y] (by rw [node_fields]; rfl) rfl
    (fun k hk => by
      rcases (show k = 0 ∨ k = 1 ∨ k = 2 ∨ k = 3 ∨ k = 4 ∨ k = 5 by simp at hk; omega) with rfl | rfl | rfl | rfl | rfl | rfl <;> rfl)
    (fun k hk => by
      rcases (show k = 0 ∨ k = 1 ∨ k = 2 ∨ k = 3 ∨ k = 4 ∨ k = 5 by simp at hk; omega) with rfl | rfl | rfl | rfl | rfl | rfl <;> rfl)
  unfold Nd.val
  rw [run_eql_struct, run_equalIn_agg (P := Tryz.prog) (w := W) (t := 62) (ht := node_struct) (hp := node_held), h]
  have : decide (a = b) = decide ([a.op, a.i, a.e, a.g, a.x, a.y] = [b.op, b.i, b.e, b.g, b.x, b.y]) := by
    cases a; cases b; simp
  rw [this]
  rfl

/-- What may differ behind a call: the state's block, the numbers' block, the list's own block, and what is new. -/
structure FR (wb g : Nat) (v : Value) (W W' : World) (v' : Value) : Prop where
  size : W.heap.size ≤ W'.heap.size
  keep : ∀ k, k < W.heap.size → k ≠ wb → k ≠ g → some k ≠ v.ownBlock → W'.heap[k]? = W.heap[k]?
  own : v'.ownBlock = v.ownBlock ∨ ∀ b, v'.ownBlock = some b → W.heap.size ≤ b
theorem FR.refl (wb g : Nat) (v : Value) (W : World) : FR wb g v W W v := ⟨Nat.le_refl _, fun _ _ _ _ _ => rfl, .inl rfl⟩
theorem FR.trans {wb g : Nat} {v v1 v2 : Value} {W W1 W2 : World} (a : FR wb g v W W1 v1) (b : FR wb g v1 W1 W2 v2) : FR wb g v W W2 v2 where
  size := Nat.le_trans a.size b.size
  keep k h1 h2 h3 h4 := by
    have hne : some k ≠ v1.ownBlock := by
      rcases a.own with e | e
      · rw [e]; exact h4
      · intro e2
        have := e k e2.symm
        omega
    exact (b.keep k (Nat.lt_of_lt_of_le h1 a.size) h2 h3 hne).trans (a.keep k h1 h2 h3 h4)
  own := by
    rcases b.own with e | e
    · rw [e]; exact a.own
    · exact .inr fun g hg => Nat.le_trans a.size (e g hg)
theorem FR.ext {wb g : Nat} {v v1 : Value} {W W1 W2 : World} (a : FR wb g v W W1 v1) (b : Ext W1 W2) : FR wb g v W W2 v1 :=
  a.trans ⟨b.size, fun k h1 _ _ _ => b.block k h1, .inl rfl⟩
theorem FR.pre {wb g : Nat} {v v1 : Value} {W W1 W2 : World} (b : Ext W W1) (a : FR wb g v W1 W2 v1) : FR wb g v W W2 v1 :=
  FR.trans (v1 := v) ⟨b.size, fun k h1 _ _ _ => b.block k h1, .inl rfl⟩ a
/-- A block that lies apart from the state is as it was. -/
theorem FR.block {wb g : Nat} {v v1 : Value} {W W1 : World} (a : FR wb g v W W1 v1) {k : Nat} (h1 : k < W.heap.size) (h2 : k ≠ wb) (h3 : k ≠ g) (h4 : some k ≠ v.ownBlock) : W1.heap[k]? = W.heap[k]? := a.keep k h1 h2 h3 h4
theorem FR.xb {wb g : Nat} {v v1 : Value} {W W1 : World} (a : FR wb g v W W1 v1) {b : Nat} (hb : b < W.heap.size) (hv : some b ≠ v.ownBlock) : some b ≠ v1.ownBlock := by
  rcases a.own with e | e
  · rw [e]; exact hv
  · intro e2; have := e b e2.symm; omega

section
variable (w : World) (wb g c : Nat) (l : List Nd)
/-- The state of wittingref05's walk over a formula. -/
structure RS (W : World) (L : List Fm) (v : Value) (D : List Int) : Prop where
  lo : w.heap.size ≤ wb
  hi : wb < W.heap.size
  ext : Ext w W
  co : W.cell? ⟨wb, 0, none⟩ = some v
  cd : W.cell? ⟨wb, 1, none⟩ = some (.slice (some ⟨g, 0, none⟩) l.length c)
  fz : ∀ o, W.frozen? ⟨wb, o, none⟩ = false
  own : W.ownsRow (wb + 1) 62 6 v L.length (rowN (encL L))
  dn : OG W (wb + 1) 3 (.int .i64) g l.length c D
  ne : v.ownBlock ≠ some g
  dD : ∀ i, i < l.length → nth D i = -1 ∨ (trAt l i ∈ L ∧ nth D i = idx L (trAt l i))
  nd : L.Nodup
  cl : Cl L
  ok : AllOk L
  sub : ∀ t ∈ L, t ∈ (List.range l.length).map (trAt l)
variable {w wb g c l} {W : World} {L : List Fm} {v : Value} {D : List Int}
theorem RS.len (h : RS w wb g c l W L v D) : L.length ≤ l.length := by
  have := nodup_sub_len h.nd h.sub
  simpa using this
theorem RS.vb (h : RS w wb g c l W L v D) : ∀ b, v.ownBlock = some b → wb + 1 ≤ b ∧ b < W.heap.size := h.own.lt
theorem RS.gb (h : RS w wb g c l W L v D) : wb + 1 ≤ g ∧ g < W.heap.size := ⟨h.dn.base_le, h.dn.lt⟩
/-- The state lives on where its blocks are as they were. -/
theorem RS.ext' (h : RS w wb g c l W L v D) {W' : World} (e : Ext W W') : RS w wb g c l W' L v D := by
  have hz := h.hi
  refine ⟨h.lo, by have := e.size; omega, h.ext.trans e, e.cell h.co, e.cell h.cd, fun o => ?_, ?_, h.dn.ext e, h.ne, h.dD, h.nd, h.cl, h.ok, h.sub⟩
  · rw [World.frozen?_of_block (w := W) (e.block _ hz)]; exact h.fz o
  · exact h.own.kept (row := none) ⟨e.os, e.tape, e.output, e.size, fun k hk _ => e.block k hk⟩ (by cases v.ownBlock <;> simp)
theorem RS.slice (h : RS w wb g c l W L v D) (hl : l.length ≤ 1000) : ∃ va vc, v = .slice va L.length vc ∧ RN W va (encL L) := by
  obtain ⟨va, vc, hv, hrn⟩ := RN_of_own (l := encL L) (by rw [encL_length]; exact h.own) (by rw [encL_length]; have := h.len; omega)
  rw [encL_length] at hv
  exact ⟨va, vc, hv, hrn⟩
/-- An append to the list, and its store. -/
theorem RS.push (h : RS w wb g c l W L v D) {t : Fm} (hn : t ∉ L) (hk : ∀ c, kid c t → c ∈ L) (ht : fok t) (hs : t ∈ (List.range l.length).map (trAt l)) {W1 : World} {v' : Value}
    (ho : W1.ownsRow (wb + 1) 62 6 v' (L.length + 1) (rowN (encL L) ++ ndCells (ndOf L t))) (g1 : W.grownBy W1 v.ownBlock) (hv : v'.ownBlock = v.ownBlock ∨ ∀ b, v'.ownBlock = some b → W.heap.size ≤ b) :
    RS w wb g c l (W1.setCell ⟨wb, 0, none⟩ v') (L ++ [t]) v' D ∧ FR wb g v W (W1.setCell ⟨wb, 0, none⟩ v') v' := by
  have hz := h.hi
  have hlo := h.lo
  have hgb := h.gb
  have hvb := h.vb
  have hz1 : W.heap.size ≤ W1.heap.size := g1.size
  have hwv : some wb ≠ v.ownBlock := fun e => by have := (hvb wb e.symm).1; omega
  have hgv : some g ≠ v.ownBlock := fun e => h.ne e.symm
  have co1 : W1.cell? ⟨wb, 0, none⟩ = some v := g1.cell h.co (by simpa using hwv)
  have cd1 : W1.cell? ⟨wb, 1, none⟩ = some (.slice (some ⟨g, 0, none⟩) l.length c) := g1.cell h.cd (by simpa using hwv)
  have hlt : ∀ b, v'.ownBlock = some b → wb + 1 ≤ b ∧ b < W1.heap.size := ho.lt
  have hwv' : v'.ownBlock ≠ some wb := fun e => by have := (hlt wb e).1; omega
  have dn1 : OG W1 (wb + 1) 3 (.int .i64) g l.length c D := ⟨h.dn.len, h.dn.row.kept g1 (by simpa [Value.ownBlock] using hgv)⟩
  have e1 : (L ++ [t]).length = L.length + 1 := by simp
  have e2 : rowN (encL (L ++ [t])) = rowN (encL L) ++ ndCells (ndOf L t) := by rw [encL_snoc h.cl hk, rowN_append]; simp [rowN]
  refine ⟨⟨hlo, by simp [World.setCell]; omega, ?_, World.cell?_setCell_same _ _ _ co1, ?_, fun o => ?_, ?_, dn1.other 0 v' (by omega), ?_, ?_, ?_, h.cl.snoc' hn hk, ?_, ?_⟩, ⟨by simpa [World.setCell] using hz1, fun k h1 h2 h3 h4 => ?_, hv⟩⟩
  · exact (ext_of_grown h.ext g1 (fun k hk => by have := (hvb k hk).1; omega)).setCell (by simp; omega) _
  · rw [World.cell?_setCell_other _ _ _ _ (by simp)]; exact cd1
  · rw [World.frozen?_setCell, World.frozen?_of_block (g1.block wb hz hwv)]; exact h.fz o
  · rw [e1, e2]
    exact ho.kept (row := some wb) ⟨rfl, rfl, rfl, by simp, fun j _ hj => heap_setCell_other W1 ⟨wb, 0, none⟩ j v' (fun e => hj (by simp [e]))⟩ (.inr hwv')
  · intro e
    rcases hv with hv | hv
    · rw [hv] at e; exact h.ne e
    · have := hv g e; omega
  · intro i hi
    rcases h.dD i hi with h1 | ⟨h1, h2⟩
    · exact .inl h1
    · exact .inr ⟨by simp [h1], by rw [idx_append h1]; exact h2⟩
  · rw [List.nodup_append]
    refine ⟨h.nd, by simp, fun a ha b hb => ?_⟩
    simp at hb
    subst hb
    rintro rfl
    exact hn ha
  · intro s hs'
    simp only [List.mem_append, List.mem_singleton] at hs'
    rcases hs' with h1 | rfl
    · exact h.ok s h1
    · exact ht
  · intro s hs'
    simp only [List.mem_append, List.mem_singleton] at hs'
    rcases hs' with h1 | rfl
    · exact h.sub s h1
    · exact hs
  · rw [Below.heap_setCell _ _ _ _ (by simpa using h2)]
    exact g1.block k h1 h4
/-- A node's number is written down. -/
theorem RS.mark (h : RS w wb g c l W L v D) {i : Nat} (hi : i < l.length) (hm : trAt l i ∈ L) : RS w wb g c l (W.setCell ⟨g, i, none⟩ (.int .i64 (idx L (trAt l i)))) L v (D.set i (idx L (trAt l i) : Int)) ∧ FR wb g v W (W.setCell ⟨g, i, none⟩ (.int .i64 (idx L (trAt l i)))) v := by
  have hz := h.hi
  have hlo := h.lo
  have hgb := h.gb
  have hdl := h.dn.len
  refine ⟨⟨hlo, by simpa [World.setCell] using hz, h.ext.setCell (by simp; omega) _, ?_, ?_, fun o => ?_, ?_, h.dn.set i _, h.ne, ?_, h.nd, h.cl, h.ok, h.sub⟩, ⟨by simp [World.setCell], fun k h1 h2 h3 h4 => ?_, .inl rfl⟩⟩
  · rw [World.cell?_setCell_other _ _ _ _ (by simp; try omega)]; exact h.co
  · rw [World.cell?_setCell_other _ _ _ _ (by simp; try omega)]; exact h.cd
  · rw [World.frozen?_setCell]; exact h.fz o
  · exact h.own.kept (row := some g) ⟨rfl, rfl, rfl, by simp, fun j _ hj => heap_setCell_other W ⟨g, i, none⟩ j _ (fun e => hj (by simp [e]))⟩ (.inr h.ne)
  · intro j hj
    by_cases hij : i = j
    · subst hij
      refine .inr ⟨hm, ?_⟩
      rw [nth_eq _ _ (by rw [List.length_set]; omega)]
      simp
    · have : nth (D.set i (idx L (trAt l i) : Int)) j = nth D j := by
        rw [nth_eq _ _ (by rw [List.length_set]; omega), nth_eq _ _ (by omega)]
        exact List.getElem_set_ne hij _
      rw [this]
      exact h.dD j hj
  · exact Below.heap_setCell _ _ _ _ (by simpa using h3)
/-- A store into a block that lies apart. -/
theorem RS.setBox (h : RS w wb g c l W L v D) {b : Nat} (h0 : w.heap.size ≤ b) (h1 : b ≠ wb) (h2 : b ≠ g) (h3 : some b ≠ v.ownBlock) (o : Nat) (u : Value) : RS w wb g c l (W.setCell ⟨b, o, none⟩ u) L v D := by
  refine ⟨h.lo, by simpa [World.setCell] using h.hi, h.ext.setCell (by simpa using h0) _, ?_, ?_, fun o => ?_, ?_, h.dn.other o u (Ne.symm h2), h.ne, h.dD, h.nd, h.cl, h.ok, h.sub⟩
  · rw [World.cell?_setCell_other _ _ _ _ (by simp)]; exact h.co
  · rw [World.cell?_setCell_other _ _ _ _ (by simp)]; exact h.cd
  · rw [World.frozen?_setCell]; exact h.fz o
  · exact h.own.kept (row := some b) ⟨rfl, rfl, rfl, by simp, fun j _ hj => heap_setCell_other W ⟨b, o, none⟩ j u (fun e => hj (by simp [e]))⟩ (.inr (Ne.symm h3))
theorem FR.setNew {wb g : Nat} {v v1 : Value} {W W1 : World} (a : FR wb g v W W1 v1) {b : Nat} (hb : W.heap.size ≤ b) (o : Nat) (u : Value) : FR wb g v W (W1.setCell ⟨b, o, none⟩ u) v1 :=
  ⟨by have := a.size; simpa [World.setCell] using this, fun k h1 h2 h3 h4 => (Below.heap_setCell _ _ _ _ (by simp; omega)).trans (a.keep k h1 h2 h3 h4), a.own⟩
/-- Where a node lies in the list. -/
theorem RS.found (h : RS w wb g c l W L v D) {t : Fm} (hk : ∀ c, kid c t → c ∈ L) (ht : fok t) {k : Nat} (hlt : k < L.length) (he : nth (encL L) k = ndOf L t) : t ∈ L ∧ k = idx L t := by
  have h1 : nth (encL L) k = ndOf L L[k] := by
    rw [nth_eq _ _ (by rw [encL_length]; exact hlt)]
    exact encL_get hlt
  have hm : L[k] ∈ L := List.getElem_mem hlt
  have h2 : L[k] = t := ndOf_inj (h.ok _ hm) ht (fun c hc => h.cl.kid hm hc) hk (by rw [← h1, he])
  exact ⟨h2 ▸ hm, by rw [← h2, idx_getElem h.nd hlt]⟩
theorem RS.none (_h : RS w wb g c l W L v D) {t : Fm} (hno : ∀ j, 0 ≤ j → j < L.length → nth (encL L) j ≠ ndOf L t) : t ∉ L := fun hm => by
  refine hno (idx L t) (Nat.zero_le _) (idx_lt hm) ?_
  rw [nth_eq _ _ (by rw [encL_length]; exact idx_lt hm)]
  rw [encL_get (idx_lt hm), getElem_idx hm]
end
end Wt

/- Walk: wittingref05.put. -/
namespace Wt
open Go Go.RowKit Go.Maps Go.Proofs Fm

def PutPost (w : World) (wb g c : Nat) (l : List Nd) (W : World) (L : List Fm) (v : Value) (D : List Int) (t : Fm) (e : Ending) (W' : World) : Prop :=
  ∃ v', e = .returned (.int .i64 (idx (put t L) t)) ∧ RS w wb g c l W' (put t L) v' D ∧ FR wb g v W W' v'
set_option maxRecDepth 20000 in
set_option maxHeartbeats 2000000 in
theorem r5put_any {w : World} {wb g c : Nat} {l : List Nd} {W : World} {L : List Fm} {v : Value} {D : List Int} (h : RS w wb g c l W L v D) (hl : l.length ≤ 1000) {t : Fm} (n : Nd) (hk : ∀ c, kid c t → c ∈ L) (ht : fok t) (hs : t ∈ (List.range l.length).map (trAt l)) (hn : ndOf L t = n) :
    Calls Tryz.prog 102 #[.pointer (some ⟨wb, 0, none⟩), .agg #[.int .i64 n.op, .int .i64 n.i, .int .i64 n.e, .int .i64 n.g, .int .i64 n.x, .int .i64 n.y]] W (PutPost w wb g c l W L v D t) := by
  obtain ⟨va, vc, rfl, hrn⟩ := h.slice hl
  have hx := NdAt.new W n 62
  have hE0 : Ext W (W.alloc (.cells #[.int .i64 n.op, .int .i64 n.i, .int .i64 n.e, .int .i64 n.g, .int .i64 n.x, .int .i64 n.y] 62)) := (Ext.refl W).alloc _
  have hlen := h.len
  have HX := Lib.hid hx
  have HE0 := Lib.hid hE0
  have H := Lib.hid h
  have HN := Lib.hid hn
  have HK := Lib.hid hk
  have HT := Lib.hid ht
  have HS := Lib.hid hs
  have HRN := Lib.hid hrn
  have c0 := h.co
  clear hx hE0 h hn hk ht hs hrn
  go_enter Tryz.func102, Tryz.ntmps102
  go_wp2
  go_loopw [5] (fun i wr => ∃ k : Nat, k ≤ L.length ∧ i = .int .i64 k ∧ Qu (W.alloc (.cells #[.int .i64 n.op, .int .i64 n.i, .int .i64 n.e, .int .i64 n.g, .int .i64 n.x, .int .i64 n.y] 62)) wr ∧ Hid (∀ j, 0 ≤ j → j < k → nth (encL L) j ≠ n)) (fun i _ => L.length - (intOf i).toNat)
  case atStart => exact ⟨0, Nat.zero_le _, rfl, Qu.refl _, fun _ _ h => absurd h (Nat.not_lt_zero _)⟩
  case round =>
    obtain ⟨k, hk, rfl, hq, hno⟩ := hrel
    have hE : Ext W wr := HE0.out.trans hq.ext
    have hR := H.out.ext' hE
    have HR := Lib.hid hR
    have HQ := Lib.hid hq
    have HEE := Lib.hid hE
    clear c0
    obtain ⟨x0, x1, x2, x3, x4, x5⟩ := HX.out.ext hq.ext
    simp only [Nat.zero_add] at x1 x2 x3 x4 x5
    have c0 := hR.co
    by_cases hlt : k < L.length
    · obtain ⟨b, off, rfl, hb, n0, n1, n2, n3, n4, n5⟩ := (HRN.out.ext hE).get (k := k) (by rw [encL_length]; exact hlt)
      clear hR hq hE
      by_cases hq2 : nth (encL L) k = n
      · obtain ⟨hm, hidx⟩ := HR.out.found HK.out HT.out hlt (hq2.trans HN.out.symm)
        rw [hq2] at n0 n1 n2 n3 n4 n5
        have hcmp : ∀ W, (binOp .eql 62 (.agg #[.int .i64 n.op, .int .i64 n.i, .int .i64 n.e, .int .i64 n.g, .int .i64 n.x, .int .i64 n.y]) (.agg #[.int .i64 n.op, .int .i64 n.i, .int .i64 n.e, .int .i64 n.g, .int .i64 n.x, .int .i64 n.y])).run Tryz.prog W = .ok (.bool true) W := fun W => (run_nd_eql n n W).trans (by simp)
        have HM := Lib.hid hm
        have HI := Lib.hid hidx
        clear hm hidx hq2
        go_wp2_with fail
        go_quiet (fail)
        go_wp2
        go_ret
        refine ⟨_, ?_, ?_, (FR.refl wb g _ W).ext (HEE.out.drewN _)⟩
        · rw [put_of_mem HM.out, ← HI.out]; rfl
        · rw [put_of_mem HM.out]; exact HR.out.ext' ((Ext.refl _).drewN _)
      · have hcmp : ∀ W, (binOp .eql 62 (.agg #[.int .i64 (nth (encL L) k).op, .int .i64 (nth (encL L) k).i, .int .i64 (nth (encL L) k).e, .int .i64 (nth (encL L) k).g, .int .i64 (nth (encL L) k).x, .int .i64 (nth (encL L) k).y]) (.agg #[.int .i64 n.op, .int .i64 n.i, .int .i64 n.e, .int .i64 n.g, .int .i64 n.x, .int .i64 n.y])).run Tryz.prog W = .ok (.bool false) W := fun W => (run_nd_eql (nth (encL L) k) n W).trans (by simp [hq2])
        have HQ2 := Lib.hid hq2
        clear hq2
        go_wp2_with fail
        go_quiet (fail)
        go_wp2
        go_roundw
        case rel =>
          exact ⟨k + 1, hlt, by go_num, HQ.out.drewN _, fun j h0 hj => by
            rcases Nat.lt_or_ge j k with h | h
            · exact hno.out j h0 h
            · obtain rfl : j = k := by omega
              exact HQ2.out⟩
        case measure => simp [intOf]; omega
    · obtain rfl : k = L.length := by omega
      have HM := Lib.hid (HR.out.none (t := t) (fun j h0 hj => by rw [HN.out]; exact hno.out j h0 hj))
      clear hR hq hE
      obtain ⟨i0, hi1, hz0, hz1, hz2⟩ := info_parts node_info
      have hqq := HQ.out.ext.size
      simp at hqq
      have hwb := HR.out.hi
      have HO : Hid (∀ o, RS w wb g c l (wr.drew.alloc o) L (.slice va L.length vc) D) := fun o => HR.out.ext' (((Ext.refl wr).drew).alloc o)
      have hnews := news_of wr.drew n 62
      have hone : ∀ u ∈ ndCells n, u.oneCell' = true := by
        intro u hu'
        simp [ndCells] at hu'
        rcases hu' with rfl | rfl | rfl | rfl | rfl | rfl <;> rfl
      have HNW := Lib.hid hnews
      have HON := Lib.hid hone
      have hvb := HR.out.vb
      have hn1 : some wb ≠ (Value.slice va L.length vc).ownBlock := fun e => by have := (hvb wb e.symm).1; omega
      have hn2 : some W.heap.size ≠ (Value.slice va L.length vc).ownBlock := fun e => by have := (H.out.vb _ e.symm).2; omega
      have HN1 := Lib.hid hn1
      have HN2 := Lib.hid hn2
      have HNK : Hid (∀ o w1, (wr.drew.alloc o).grownBy w1 (Value.slice va L.length vc).ownBlock → w1.cell? ⟨wb, 0, none⟩ = some (.slice va L.length vc) ∧ w1.cell? ⟨W.heap.size, 0, none⟩ = some (.int .i64 n.op) ∧ w1.cell? ⟨W.heap.size, 1, none⟩ = some (.int .i64 n.i) ∧ w1.cell? ⟨W.heap.size, 2, none⟩ = some (.int .i64 n.e) ∧ w1.cell? ⟨W.heap.size, 3, none⟩ = some (.int .i64 n.g) ∧ w1.cell? ⟨W.heap.size, 4, none⟩ = some (.int .i64 n.x) ∧ w1.cell? ⟨W.heap.size, 5, none⟩ = some (.int .i64 n.y)) := by
        intro o w1 hg
        have e := ((Ext.refl wr).drew.alloc o)
        exact ⟨hg.cell (e.cell c0) hn1, hg.cell (e.cell x0) hn2, hg.cell (e.cell x1) hn2, hg.cell (e.cell x2) hn2, hg.cell (e.cell x3) hn2, hg.cell (e.cell x4) hn2, hg.cell (e.cell x5) hn2⟩
      have HFZ : Hid (∀ o w1, (wr.drew.alloc o).grownBy w1 (Value.slice va L.length vc).ownBlock → w1.frozen? ⟨wb, 0, none⟩ = false) := by
        intro o w1 hg
        rw [World.frozen?_of_block (hg.block wb (by simp; omega) hn1)]
        exact (HO.out o).fz 0
      clear hnews hone hn1 hn2 hvb
      go_wp2_with fail
      go_region_law (refine step_append_lies _ (by rfl) _ _ 26 (by rfl) (wb + 1) 62 i0 _ 6 48 Tryz.underlying26 hi1 hz0 hz1 hz2 rfl (by decide) (.slice va L.length vc) L.length (rowN (encL L)) (by rfl) (HO.out _).own ⟨wr.heap.size, 0, none⟩ 1 1 (ndCells n) (by rfl) (by rfl) HNW.out HON.out (by decide) (by unfold maxLen; omega) (by omega) (by simp; omega) (wr.heap.size + 1) (by simp) ?_; intro gx cap w1 hown1 hgrow hat hlt2; have fz1 := HFZ.out _ _ hgrow; obtain ⟨y0, y1, y2, y3, y4, y5, y6⟩ := HNK.out _ _ hgrow)
      all_goals
        have hpush := (HO.out (.cells #[.int .i64 n.op, .int .i64 n.i, .int .i64 n.e, .int .i64 n.g, .int .i64 n.x, .int .i64 n.y] 62)).push (v' := .slice (some ⟨gx, 0, none⟩) (L.length + 1) cap) HM.out HK.out HT.out HS.out (by rw [HN.out]; exact hown1) hgrow (hat.elim (fun e => .inl e.symm) (fun e => .inr fun b hb => by cases hb; simp; omega))
        have HP := Lib.hid hpush
        clear hpush hgrow hown1 hat
        go_wp2
        go_ret
        have hput : put t L = L ++ [t] := by unfold put; rw [if_neg HM.out]
        refine ⟨_, ?_, by rw [hput]; exact HP.out.1, FR.pre (HEE.out.drew.alloc _) HP.out.2⟩
        rw [hput, idx_new HM.out]
        go_num
end Wt
