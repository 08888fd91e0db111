/- Walks: wittingref17.Box, Paths, common, Boolean. -/
import Derived.Test.YtdnpgadkklgjeaaRelA
import Derived.Test.YtdnpgadkklgjeaaR13A
import Derived.Test.YtdnpgadkklgjeaaSem
import Derived.Test.YtdnpgadkklgjeaaCan
import Derived.Test.YtdnpgadkklgjeaaRfH
namespace Wt
open Go Go.RowKit Go.Proofs

set_option maxHeartbeats 1000000 in
theorem r17Box_any (a : Option Addr) (r : List (BitVec 64)) (c n : Nat) (s : BitVec 64) (w : World) (hr : RU w a r) (hn : n ≤ r.length) (h64 : n ≤ 64) :
    Calls Try.prog 65 #[.slice a r.length c, .int .i64 (n : Int), .int .u64 (un s)] w fun e w' => e = .returned (.int .u64 (un (boxTo r s n))) ∧ w = w' := by
  have hl := hr.len
  go_enter Try.func65, Try.ntmps65
  go_wp2
  go_loop [7, 8] (fun o i => ∃ k : Nat, k ≤ n ∧ i = .int .i64 k ∧ o = .int .u64 (un (boxTo r s k))) (fun _ i => n - (intOf i).toNat)
  case atStart => exact ⟨0, Nat.zero_le _, rfl, rfl⟩
  case round =>
    obtain ⟨k, hk, rfl, rfl⟩ := hrel
    by_cases hlt : k < n
    · obtain ⟨b, off, rfl, hb, hc⟩ := hr.get (k := k) (by omega)
      by_cases hq : (nth r k &&& ~~~ s) = 0#64
      · have hs : boxTo r s (k + 1) = boxTo r s k ||| 1#64 <<< k := if_pos hq
        have HS := Lib.hid hs
        have hq2 : ((nth r k &&& ~~~ s) == 0#64) = true := by simp [hq]
        clear hq hs
        go_wp2
        go_round
        case rel => exact ⟨k + 1, hlt, by go_num, by rw [HS.out]⟩
        case measure => simp [intOf]; omega
      · have hs : boxTo r s (k + 1) = boxTo r s k := if_neg hq
        have HS := Lib.hid hs
        have hq2 : ((nth r k &&& ~~~ s) == 0#64) = false := by simp [hq]
        clear hq hs
        go_wp2
        go_round
        case rel => exact ⟨k + 1, hlt, by go_num, by rw [HS.out]⟩
        case measure => simp [intOf]; omega
    · obtain rfl : k = n := by omega
      go_wp2
      go_ret
      exact ⟨rfl, rfl⟩
/-- The inner rounds of Paths. -/
def pIn (r : List (BitVec 64)) (c : BitVec 64) : Nat → BitVec 64 → BitVec 64
  | 0, s => s
  | k + 1, s => if bt (pIn r c k s) k then pIn r c k s ||| (nth r k &&& c) else pIn r c k s
theorem pIn_yes {r : List (BitVec 64)} {c : BitVec 64} {q : Nat} {S : BitVec 64} (h : bt (pIn r c q S) q = true) : pIn r c (q + 1) S = pIn r c q S ||| (nth r q &&& c) := by
  show (if bt (pIn r c q S) q then _ else _) = _
  rw [if_pos h]
theorem pIn_no {r : List (BitVec 64)} {c : BitVec 64} {q : Nat} {S : BitVec 64} (h : bt (pIn r c q S) q = false) : pIn r c (q + 1) S = pIn r c q S := by
  show (if bt (pIn r c q S) q then _ else _) = _
  rw [if_neg (by simp [h])]
def pOut (r : List (BitVec 64)) (n : Nat) (c s : BitVec 64) : Nat → BitVec 64
  | 0 => s
  | i + 1 => pIn r c n (pOut r n c s i)
def paths (r : List (BitVec 64)) (n k : Nat) (c : BitVec 64) : BitVec 64 := pOut r n c (nth r k &&& c) n
set_option maxHeartbeats 1000000 in
theorem r17Paths_any (a : Option Addr) (r : List (BitVec 64)) (rc n k : Nat) (c : BitVec 64) (w : World) (hr : RU w a r) (hn : n ≤ r.length) (h64 : n ≤ 64) (hk : k < n) :
    Calls Try.prog 92 #[.slice a r.length rc, .int .i64 (n : Int), .int .i64 (k : Int), .int .u64 (un c)] w fun e w' => e = .returned (.int .u64 (un (paths r n k c))) ∧ w = w' := by
  have hl := hr.len
  obtain ⟨b, off, rfl, hb, hc⟩ := hr.get (k := k) (by omega)
  have HR := Lib.hid hr
  clear hr
  go_enter Try.func92, Try.ntmps92
  go_wp2
  go_loop [9, 10] (fun o i => ∃ j : Nat, j ≤ n ∧ i = .int .i64 j ∧ o = .int .u64 (un (pOut r n c (nth r k &&& c) j))) (fun _ i => n - (intOf i).toNat)
  case atStart => exact ⟨0, Nat.zero_le _, rfl, rfl⟩
  case round =>
    obtain ⟨j, hj, rfl, rfl⟩ := hrel
    by_cases hlt : j < n
    · generalize hS : pOut r n c (nth r k &&& c) j = S
      have HS := Lib.hid hS
      clear hS
      go_wp2
      go_loop [9, 11] (fun o i => ∃ q : Nat, q ≤ n ∧ i = .int .i64 q ∧ o = .int .u64 (un (pIn r c q S))) (fun _ i => n - (intOf i).toNat)
      case atStart => exact ⟨0, Nat.zero_le _, rfl, rfl⟩
      case round =>
        obtain ⟨q, hq, rfl, rfl⟩ := hrel
        by_cases hql : q < n
        · obtain ⟨b', off', hbe, hb', hcq⟩ := HR.out.get (k := q) (by omega)
          simp only [Option.some.injEq, Addr.mk.injEq] at hbe
          obtain ⟨rfl, rfl, -⟩ := hbe
          cases hbt : bt (pIn r c q S) q
          · have hs : pIn r c (q + 1) S = pIn r c q S := pIn_no hbt
            have HP := Lib.hid hs
            have hh : hasW (pIn r c q S) (q : Int) = false := by simpa [hasW] using hbt
            have HH := Lib.hid hh
            clear hs hh hbt
            go_wp2_with (go_at_call 42; refine (r13Has_any _ _ _).mono ?_; rintro _ _ ⟨rfl, rfl⟩; rw [HH.out])
            go_round
            case rel => exact ⟨q + 1, hql, by go_num, by rw [HP.out]⟩
            case measure => simp [intOf]; omega
          · have hs : pIn r c (q + 1) S = pIn r c q S ||| (nth r q &&& c) := pIn_yes hbt
            have HP := Lib.hid hs
            have hh : hasW (pIn r c q S) (q : Int) = true := by simpa [hasW] using hbt
            have HH := Lib.hid hh
            clear hs hh hbt
            go_wp2_with (go_at_call 42; refine (r13Has_any _ _ _).mono ?_; rintro _ _ ⟨rfl, rfl⟩; rw [HH.out])
            go_round
            case rel => exact ⟨q + 1, hql, by go_num, by rw [HP.out]⟩
            case measure => simp [intOf]; omega
        · obtain rfl : q = n := by omega
          go_wp2
          go_round
          case rel => exact ⟨j + 1, hlt, by go_num, by rw [← HS.out]; rfl⟩
          case measure => simp [intOf]; omega
    · obtain rfl : j = n := by omega
      go_wp2
      go_ret
      exact ⟨rfl, rfl⟩
/-- The worlds below k from which all paths through a condition lead to a set. -/
def comTo (r : List (BitVec 64)) (n : Nat) (c s : BitVec 64) : Nat → BitVec 64
  | 0 => 0#64
  | k + 1 => if (paths r n k c &&& ~~~ s) = 0#64 then comTo r n c s k ||| 1#64 <<< k else comTo r n c s k
set_option maxHeartbeats 1000000 in
theorem r17common_any (a : Option Addr) (r : List (BitVec 64)) (rc n : Nat) (c s : BitVec 64) (w : World) (hr : RU w a r) (hn : n ≤ r.length) (h64 : n ≤ 64) :
    Calls Try.prog 68 #[.slice a r.length rc, .int .i64 (n : Int), .int .u64 (un c), .int .u64 (un s)] w fun e w' => e = .returned (.int .u64 (un (comTo r n c s n))) ∧ w = w' := by
  have hl := hr.len
  go_enter Try.func68, Try.ntmps68
  go_wp2
  go_loop [9, 10] (fun o i => ∃ k : Nat, k ≤ n ∧ i = .int .i64 k ∧ o = .int .u64 (un (comTo r n c s k))) (fun _ i => n - (intOf i).toNat)
  case atStart => exact ⟨0, Nat.zero_le _, rfl, rfl⟩
  case round =>
    obtain ⟨k, hk, rfl, rfl⟩ := hrel
    by_cases hlt : k < n
    · by_cases hq : (paths r n k c &&& ~~~ s) = 0#64
      · have hs : comTo r n c s (k + 1) = comTo r n c s k ||| 1#64 <<< k := if_pos hq
        have HS := Lib.hid hs
        have hq2 : ((paths r n k c &&& ~~~ s) == 0#64) = true := by simp [hq]
        clear hq hs
        go_wp2_with (go_at_call 92; refine (r17Paths_any a r rc n k c _ hr hn h64 hlt).mono ?_; rintro _ _ ⟨rfl, rfl⟩)
        go_round
        case rel => exact ⟨k + 1, hlt, by go_num, by rw [HS.out]⟩
        case measure => simp [intOf]; omega
      · have hs : comTo r n c s (k + 1) = comTo r n c s k := if_neg hq
        have HS := Lib.hid hs
        have hq2 : ((paths r n k c &&& ~~~ s) == 0#64) = false := by simp [hq]
        clear hq hs
        go_wp2_with (go_at_call 92; refine (r17Paths_any a r rc n k c _ hr hn h64 hlt).mono ?_; rintro _ _ ⟨rfl, rfl⟩)
        go_round
        case rel => exact ⟨k + 1, hlt, by go_num, by rw [HS.out]⟩
        case measure => simp [intOf]; omega
    · obtain rfl : k = n := by omega
      go_wp2
      go_ret
      exact ⟨rfl, rfl⟩
/-- The set of a propositional node. -/
def boolN (o : Int) (x y all : BitVec 64) : BitVec 64 :=
  if o = 1 then all else if o = 4 then all &&& ~~~ x else if o = 5 then x &&& y else if o = 6 then x ||| y else if o = 7 then (all &&& ~~~ x) ||| y else if o = 8 then all &&& ~~~ (x ^^^ y) else 0#64
set_option maxHeartbeats 1000000 in
theorem r17Boolean_any (o : Int) (x y all : BitVec 64) (w : World) :
    Calls Try.prog 64 #[.int .i64 o, .int .u64 (un x), .int .u64 (un y), .int .u64 (un all)] w fun e w' => e = .returned (.int .u64 (un (boolN o x y all))) ∧ w = w' := by
  by_cases h1 : o = 1
  · subst h1; go_enter Try.func64, Try.ntmps64; go_wp2; go_ret; exact ⟨rfl, rfl⟩
  by_cases h4 : o = 4
  · subst h4; go_enter Try.func64, Try.ntmps64; go_wp2; go_ret; exact ⟨rfl, rfl⟩
  by_cases h5 : o = 5
  · subst h5; go_enter Try.func64, Try.ntmps64; go_wp2; go_ret; exact ⟨rfl, rfl⟩
  by_cases h6 : o = 6
  · subst h6; go_enter Try.func64, Try.ntmps64; go_wp2; go_ret; exact ⟨rfl, rfl⟩
  by_cases h7 : o = 7
  · subst h7; go_enter Try.func64, Try.ntmps64; go_wp2; go_ret; exact ⟨rfl, rfl⟩
  by_cases h8 : o = 8
  · subst h8; go_enter Try.func64, Try.ntmps64; go_wp2; go_ret; exact ⟨rfl, rfl⟩
  have hv : boolN o x y all = 0#64 := by simp [boolN, h1, h4, h5, h6, h7, h8]
  have HV := Lib.hid hv
  have e1 : (o == 1) = false := by simp [h1]
  have e4 : (o == 4) = false := by simp [h4]
  have e5 : (o == 5) = false := by simp [h5]
  have e6 : (o == 6) = false := by simp [h6]
  have e7 : (o == 7) = false := by simp [h7]
  have e8 : (o == 8) = false := by simp [h8]
  clear hv h1 h4 h5 h6 h7 h8
  go_enter Try.func64, Try.ntmps64
  go_wp2
  go_ret
  exact ⟨by rw [HV.out]; rfl, rfl⟩
end Wt

/- Plain laws: common knowledge by paths; boxes; a tree's set is there exactly if its fragments and its agents and facts fit. -/
namespace Wt
open Fm

section
variable {r : List (BitVec 64)} {c s : BitVec 64} {n : Nat}
theorem Sub.or {s t u : BitVec 64} (h1 : Sub s u) (h2 : Sub t u) : Sub (s ||| t) u := fun k hk h => by
  rw [bt_or, Bool.or_eq_true] at h
  exact h.elim (h1 k hk) (h2 k hk)
theorem Sub.orL (s t : BitVec 64) : Sub s (s ||| t) := fun k _ h => by rw [bt_or, h]; rfl
theorem Sub.orR (s t : BitVec 64) : Sub t (s ||| t) := fun k _ h => by rw [bt_or, h]; simp
theorem pIn_sup : ∀ k, Sub s (pIn r c k s)
  | 0 => Sub.refl _
  | k + 1 => by
    rcases h : bt (pIn r c k s) k with _ | _
    · rw [pIn_no h]; exact pIn_sup k
    · rw [pIn_yes h]; exact (pIn_sup k).trans (Sub.orL _ _)
theorem pIn_step (k : Nat) : Sub (pIn r c k s) (pIn r c (k + 1) s) := by
  rcases h : bt (pIn r c k s) k with _ | _
  · rw [pIn_no h]; exact Sub.refl _
  · rw [pIn_yes h]; exact Sub.orL _ _
theorem pIn_mono (j : Nat) : ∀ d, Sub (pIn r c j s) (pIn r c (j + d) s)
  | 0 => Sub.refl _
  | d + 1 => (pIn_mono j d).trans (pIn_step (j + d))
theorem pIn_inv {X : BitVec 64} {m : Nat} (hm : m ≤ 64) (hX : ∀ v, v < m → bt X v = true → Sub (nth r v &&& c) X) (h0 : Sub s X) : ∀ k, k ≤ m → Sub (pIn r c k s) X
  | 0, _ => h0
  | k + 1, hk => by
    have ih := pIn_inv hm hX h0 k (by omega)
    rcases h : bt (pIn r c k s) k with _ | _
    · rw [pIn_no h]; exact ih
    · rw [pIn_yes h]; exact Sub.or ih (hX k (by omega) (ih k (by omega) h))
theorem pOut_inv {X : BitVec 64} (hn : n ≤ 64) (hX : ∀ v, v < n → bt X v = true → Sub (nth r v &&& c) X) (h0 : Sub s X) : ∀ i, Sub (pOut r n c s i) X
  | 0 => h0
  | i + 1 => pIn_inv hn hX (pOut_inv hn hX h0 i) n (Nat.le_refl _)
theorem pOut_sup : ∀ i, Sub s (pOut r n c s i)
  | 0 => Sub.refl _
  | i + 1 => (pOut_sup i).trans (pIn_sup n)
theorem pIn_closed (h : pIn r c n s = s) {v : Nat} (hv : v < n) (hb : bt s v = true) : Sub (nth r v &&& c) s := by
  have h1 : pIn r c v s = s := by
    have := pIn_mono (r := r) (c := c) (s := s) v (n - v)
    rw [show v + (n - v) = n by omega, h] at this
    exact Sub.antisymm this (pIn_sup v)
  have h2 : Sub (pIn r c (v + 1) s) s := by
    have := pIn_mono (r := r) (c := c) (s := s) (v + 1) (n - (v + 1))
    rw [show v + 1 + (n - (v + 1)) = n by omega, h] at this
    exact this
  rw [pIn_yes (by rw [h1]; exact hb), h1] at h2
  exact (Sub.orR _ _).trans h2
theorem pOut_stop : ∀ i, pOut r n c s (i + 1) = pOut r n c s i ∨ i + 1 ≤ pop (pOut r n c s (i + 1))
  | 0 => by
    by_cases h : pOut r n c s 1 = pOut r n c s 0
    · exact .inl h
    · have := pop_lt (pIn_sup (r := r) (c := c) (s := pOut r n c s 0) n) (Ne.symm h)
      exact .inr (by show 0 + 1 ≤ pop (pIn r c n (pOut r n c s 0)); omega)
  | i + 1 => by
    rcases pOut_stop i with h | h
    · exact .inl (by show pIn r c n (pOut r n c s (i + 1)) = _; rw [h]; exact h)
    · by_cases h2 : pOut r n c s (i + 1 + 1) = pOut r n c s (i + 1)
      · exact .inl h2
      · have := pop_lt (pIn_sup (r := r) (c := c) (s := pOut r n c s (i + 1)) n) (Ne.symm h2)
        exact .inr (by show i + 1 + 1 ≤ pop (pIn r c n (pOut r n c s (i + 1))); omega)
theorem pop_mono {s t : BitVec 64} (h : Sub s t) : pop s ≤ pop t := by
  by_cases e : s = t
  · rw [e]; exact Nat.le_refl _
  · exact Nat.le_of_lt (pop_lt h e)
theorem pOut_fix (hn : n ≤ 64) (hrow : ∀ v, v < n → Sub (nth r v) (allW n)) (h0 : Sub s (allW n)) : pIn r c n (pOut r n c s n) = pOut r n c s n := by
  rcases pOut_stop (r := r) (c := c) (s := s) (n := n) n with h | h
  · exact h
  · have h1 : Sub (pOut r n c s (n + 1)) (allW n) := pOut_inv hn (fun v hv _ k hk hb => by
      rw [bt_and, Bool.and_eq_true] at hb
      exact hrow v hv k hk hb.1) h0 (n + 1)
    have h2 := pop_mono h1
    have h3 := pop_allW n
    omega
theorem paths_sup (k : Nat) : Sub (nth r k &&& c) (paths r n k c) := pOut_sup n
theorem paths_inv {X : BitVec 64} (hn : n ≤ 64) {k : Nat} (hX : ∀ v, v < n → bt X v = true → Sub (nth r v &&& c) X) (h0 : Sub (nth r k &&& c) X) : Sub (paths r n k c) X := pOut_inv hn hX h0 n
theorem paths_closed (hn : n ≤ 64) (hrow : ∀ v, v < n → Sub (nth r v) (allW n)) {k v : Nat} (hk : k < n) (hv : v < n) (hb : bt (paths r n k c) v = true) : Sub (nth r v &&& c) (paths r n k c) :=
  pIn_closed (pOut_fix hn hrow fun j hj h => by
    rw [bt_and, Bool.and_eq_true] at h
    exact hrow k hk j hj h.1) hv hb
theorem bt_comTo (m : Nat) {k : Nat} (hk : k < 64) : bt (comTo r n c s m) k = (decide (k < m) && (paths r n k c &&& ~~~ s == 0#64)) := by
  induction m with
  | zero => simp [comTo, bt_zero]
  | succ m ih =>
    by_cases h : (paths r n m c &&& ~~~ s) = 0#64
    · have e : comTo r n c s (m + 1) = comTo r n c s m ||| 1#64 <<< m := if_pos h
      rw [e, bt_or, bt_shl1, ih]
      by_cases hkm : k = m
      · subst hkm; rw [h]; simp [hk]
      · rw [Bool.eq_iff_iff]; simp [hkm]; omega
    · have e : comTo r n c s (m + 1) = comTo r n c s m := if_neg h
      rw [e, ih]
      by_cases hkm : k = m
      · subst hkm; simp [h]
      · rw [Bool.eq_iff_iff]; simp; omega
/-- Common knowledge: all paths through the condition lead to the set. -/
theorem comTo_cmn (hr : r.length = n) (hn : n ≤ 64) (hok : relCheck r = 0) (hrow : ∀ v, v < n → Sub (nth r v) (allW n)) : comTo r n c s n = cmn r n c s := by
  apply Sub.antisymm
  · -- into every round
    have key : ∀ j, Sub (comTo r n c s n) (cmnI r n c s j) := by
      intro j
      induction j with
      | zero =>
        intro k hk hb
        rw [bt_comTo n hk, Bool.and_eq_true, decide_eq_true_eq] at hb
        show bt (allW n) k = true
        rw [bt_allW]; simp [hk, hb.1]
      | succ j ih =>
        intro k hk hb
        have hb2 := hb
        rw [bt_comTo n hk, Bool.and_eq_true, decide_eq_true_eq, beq_iff_eq, andNot_zero] at hb2
        show bt (relBox r _) k = true
        rw [bt_relBox _ _ _ hk]
        simp only [Bool.and_eq_true, decide_eq_true_eq, beq_iff_eq, andNot_zero]
        refine ⟨⟨hok, by omega⟩, fun v hv hbv => ?_⟩
        have hvn : v < n := by
          have := hrow k hb2.1 v hv hbv
          rw [bt_allW] at this; simp at this; exact this.2
        rw [bt_or, bt_and, bt_and, bt_not, bt_allW]
        rcases hc : bt c v with _ | _
        · simp [hv, hvn]
        · have hvp : bt (paths r n k c) v = true := paths_sup k v hv (by rw [bt_and, hbv, hc]; rfl)
          have hvx : bt (comTo r n c s n) v = true := by
            rw [bt_comTo n hv, Bool.and_eq_true, decide_eq_true_eq, beq_iff_eq, andNot_zero]
            refine ⟨hvn, Sub.trans ?_ hb2.2⟩
            exact paths_inv hn (fun u hu hbu => paths_closed hn hrow hb2.1 hu hbu) (paths_closed hn hrow hb2.1 hvn hvp)
          have h1 := hb2.2 v hv hvp
          have h2 := ih v hv hvx
          rw [h1, h2]; simp
    exact key n
  · intro k hk hb
    have hG : cmnF r n c s (cmn r n c s) = cmn r n c s := cmnI_fix r n (by omega) c s
    have step : ∀ v, v < 64 → bt (cmn r n c s) v = true → v < n ∧ Sub (nth r v &&& c) (s &&& cmn r n c s) := by
      intro v hv hbv
      rw [← hG] at hbv
      have h1 : bt (relBox r ((allW n &&& ~~~ c) ||| (s &&& cmn r n c s))) v = true := hbv
      rw [bt_relBox _ _ _ hv] at h1
      simp only [Bool.and_eq_true, decide_eq_true_eq, beq_iff_eq, andNot_zero] at h1
      refine ⟨by omega, fun u hu hbu => ?_⟩
      rw [bt_and, Bool.and_eq_true] at hbu
      have := h1.2 u hu hbu.1
      rw [bt_or, bt_and, bt_not, hbu.2] at this
      simpa using this
    obtain ⟨hkn, h0⟩ := step k hk hb
    rw [bt_comTo n hk, Bool.and_eq_true, decide_eq_true_eq, beq_iff_eq, andNot_zero]
    refine ⟨hkn, Sub.trans (paths_inv (X := s &&& cmn r n c s) hn (fun v hv hbv => ?_) h0) fun v hv hbv => ?_⟩
    · rw [bt_and, Bool.and_eq_true] at hbv
      exact (step v (by omega) hbv.2).2
    · rw [bt_and, Bool.and_eq_true] at hbv
      exact hbv.1
theorem boxTo_rel (hr : r.length = n) (hok : relCheck r = 0) : boxTo r s n = relBox r s := by
  unfold relBox; rw [if_pos hok, hr]
theorem boxTo_dia (hr : r.length = n) (hok : relCheck r = 0) (hrow : ∀ v, v < n → Sub (nth r v) (allW n)) : allW n &&& ~~~ boxTo r (allW n &&& ~~~ s) n = relDia r s := by
  unfold relDia; rw [if_pos hok, hr]
  congr 2
  apply bt_ext
  intro k hk
  rw [bt_boxTo _ _ _ _ hk, bt_boxTo _ _ _ _ hk, Bool.eq_iff_iff]
  simp only [Bool.and_eq_true, decide_eq_true_eq, beq_iff_eq, andNot_zero]
  constructor
  · rintro ⟨h1, h2⟩
    refine ⟨h1, fun v hv hb => ?_⟩
    have := h2 v hv hb
    rw [bt_and, Bool.and_eq_true] at this
    exact this.2
  · rintro ⟨h1, h2⟩
    refine ⟨h1, fun v hv hb => ?_⟩
    rw [bt_and, h2 v hv hb, hrow k h1 v hv hb]; rfl
end

/-! When a tree has a set. -/
theorem valN_snd (M : Mo) (o i g : Int) (x y x' y' : BitVec 64) : (valN M o i g x y).2 = (valN M o i g x' y').2 := by
  unfold valN
  simp only [apply_ite Prod.snd]
def okS (M : Mo) : Fm → Bool
  | .leaf o i _ g | .un o i _ g _ | .bin o i _ g _ _ => (valN M o i g 0#64 0#64).2
theorem semT_snd (M : Mo) : ∀ t, (semT M t).2 = true ↔ ∀ s, sbt s t → okS M s = true
  | .leaf o i e g => by
    constructor
    · rintro h s rfl; exact h
    · intro h; exact h _ rfl
  | .un o i e g x => by
    have ih := semT_snd M x
    have hv := valN_snd M o i g (semT M x).1 0#64 0#64 0#64
    constructor
    · intro h s hs
      have h1 : (semT M x).2 = true := by
        rcases hx : (semT M x).2 with _ | _
        · simp [semT, hx] at h
        · rfl
      simp [semT, h1] at h
      rcases hs with rfl | hs
      · show (valN M o i g 0#64 0#64).2 = true
        rw [← hv]; exact h
      · exact ih.1 h1 s hs
    · intro h
      have h1 := ih.2 fun s hs => h s (.inr hs)
      have h2 : (valN M o i g 0#64 0#64).2 = true := h _ (.inl rfl)
      simp [semT, h1]; rw [hv]; exact h2
  | .bin o i e g x y => by
    have ihx := semT_snd M x
    have ihy := semT_snd M y
    have hv := valN_snd M o i g (semT M x).1 (semT M y).1 0#64 0#64
    constructor
    · intro h s hs
      have h1 : (semT M x).2 = true := by
        rcases hx : (semT M x).2 with _ | _
        · simp [semT, hx] at h
        · rfl
      have h1y : (semT M y).2 = true := by
        rcases hx : (semT M y).2 with _ | _
        · simp [semT, hx] at h
        · rfl
      simp [semT, h1, h1y] at h
      rcases hs with rfl | hs | hs
      · show (valN M o i g 0#64 0#64).2 = true
        rw [← hv]; exact h
      · exact ihx.1 h1 s hs
      · exact ihy.1 h1y s hs
    · intro h
      have h1 := ihx.2 fun s hs => h s (.inr (.inl hs))
      have h1y := ihy.2 fun s hs => h s (.inr (.inr hs))
      have h2 : (valN M o i g 0#64 0#64).2 = true := h _ (.inl rfl)
      simp [semT, h1, h1y]; rw [hv]; exact h2
end Wt

/- Plain laws: a tree has a set exactly if its fragments, agents and facts fit the model. -/
namespace Wt
open Fm

theorem foldl_or (m : Nd → Nat) : ∀ (l : List Nd) (a : Nat), l.foldl (fun a n => a ||| m n) a = a ||| unionL m l
  | [], a => by simp [unionL]
  | n :: l, a => by
    show l.foldl _ (a ||| m n) = a ||| l.foldl _ (0 ||| m n)
    rw [foldl_or m l (a ||| m n), foldl_or m l (0 ||| m n), Nat.zero_or, Nat.or_assoc]
theorem unionL_cons (m : Nd → Nat) (n : Nd) (l : List Nd) : unionL m (n :: l) = m n ||| unionL m l := by
  show l.foldl _ (0 ||| m n) = _
  rw [foldl_or, Nat.zero_or]
theorem unionL_lt_iff (B : Nat) (m : Nd → Nat) : ∀ l, unionL m l < 2 ^ B ↔ ∀ n ∈ l, m n < 2 ^ B
  | [] => by simp [unionL, Nat.pow_pos]
  | n :: l => by
    rw [unionL_cons]
    have ih := unionL_lt_iff B m l
    constructor
    · intro h x hx
      have h1 : m n ≤ m n ||| unionL m l := Nat.left_le_or
      have h2 : unionL m l ≤ m n ||| unionL m l := Nat.right_le_or
      rcases List.mem_cons.1 hx with rfl | hx
      · omega
      · exact ih.1 (by omega) x hx
    · intro h
      exact Nat.or_lt_two_pow (h n (by simp)) (ih.2 fun x hx => h x (by simp [hx]))
theorem unionL_bit (m : Nd → Nat) (i : Nat) : ∀ l, (unionL m l).testBit i = true ↔ ∃ n ∈ l, (m n).testBit i = true
  | [] => by simp [unionL]
  | n :: l => by
    rw [unionL_cons, Nat.testBit_or, Bool.or_eq_true, unionL_bit m i l]
    constructor
    · rintro (h | ⟨x, hx, h⟩)
      · exact ⟨n, by simp, h⟩
      · exact ⟨x, by simp [hx], h⟩
    · rintro ⟨x, hx, h⟩
      rcases List.mem_cons.1 hx with rfl | hx
      · exact .inl h
      · exact .inr ⟨x, hx, h⟩
theorem grp_bits : ∀ (nr : _root_.Fin 5) (g : _root_.Fin 16), ((∀ i : _root_.Fin 4, g.val.testBit i.val = true → i.val < nr.val) ↔ g.val < 2 ^ nr.val) := by decide +kernel
theorem grp_bits' {nr g : Nat} (h1 : nr ≤ 4) (h2 : g ≤ 15) : (∀ i, i < 4 → g.testBit i = true → i < nr) ↔ g < 2 ^ nr := by
  have := grp_bits ⟨nr, by omega⟩ ⟨g, by omega⟩
  rw [← this]
  exact ⟨fun h i => h i.val i.isLt, fun h i hi => h ⟨i, hi⟩⟩
theorem pow_bits {a nr B : Nat} (h : a < B) : (∀ i, i < B → (2 ^ a).testBit i = true → i < nr) ↔ a < nr := by
  constructor
  · intro h2; exact h2 a h (by rw [Nat.testBit_two_pow_self])
  · intro h2 i _ hb
    rw [Nat.testBit_two_pow, decide_eq_true_eq] at hb
    omega
theorem zero_bits {nr B : Nat} : (∀ i, i < B → (0 : Nat).testBit i = true → i < nr) ↔ True := by simp
/-- A node fits a model, and is static. -/
def ndFits (M : Mo) (n : Nd) : Prop := fragN n < 16 ∧ (∀ i, i < 4 → (agentN n).testBit i = true → i < M.rel.length) ∧ (∀ i, i < 8 → (factN n).testBit i = true → i < M.val.length)
set_option maxHeartbeats 1000000 in
theorem nd_okS (M : Mo) (hr : M.rel.length ≤ 4) (n : Nd) (h : NdOk n) : (valN M n.op n.i n.g 0#64 0#64).2 = true ↔ ndFits M n := by
  obtain ⟨o, i, e, g, x, y⟩ := n
  have h1 := h.fact
  have h2 := h.agent
  have h3 := h.group
  have h4 := h.nogroup
  have h0 := h.op
  clear h
  dsimp only at *
  have plain : ∀ k : Int, (useOf k).1.fact = false → (useOf k).1.agent = false → g = 0 → (ndFits M ⟨k, i, e, g, x, y⟩ ↔ (useOf k).1.frag.toNat < 16) := by
    intro k hf ha hg
    unfold ndFits fragN agentN factN
    dsimp only
    rw [hf, ha, hg]
    simp
  have grp : ∀ k : Int, (useOf k).1.fact = false → (useOf k).1.agent = false → (1 ≤ g ∧ g ≤ 15) → (ndFits M ⟨k, i, e, g, x, y⟩ ↔ (useOf k).1.frag.toNat < 16 ∧ ¬ p2 M.rel.length ≤ g) := by
    intro k hf ha hg
    unfold ndFits fragN agentN factN
    dsimp only
    rw [hf, ha]
    simp only [Bool.false_eq_true, if_false]
    have hg2 : g.toNat % 512 = g.toNat := by omega
    rw [hg2, grp_bits' hr (by omega)]
    simp only [Nat.zero_testBit, Bool.false_eq_true, false_implies, implies_true, and_true]
    unfold p2
    constructor
    · rintro ⟨a, b⟩; exact ⟨a, by omega⟩
    · rintro ⟨a, b⟩; exact ⟨a, by omega⟩
  have agt : ∀ k : Int, (useOf k).1.fact = false → (useOf k).1.agent = true → (0 ≤ i ∧ i ≤ 3) → (ndFits M ⟨k, i, e, g, x, y⟩ ↔ (useOf k).1.frag.toNat < 16 ∧ ¬ (M.rel.length : Int) ≤ i) := by
    intro k hf ha hg
    unfold ndFits fragN agentN factN
    dsimp only
    rw [hf, ha]
    simp only [Bool.false_eq_true, if_false, if_true]
    have hg2 : i.toNat % 9 = i.toNat := by omega
    rw [hg2, pow_bits (by omega)]
    simp only [Nat.zero_testBit, Bool.false_eq_true, false_implies, implies_true, and_true]
    constructor
    · rintro ⟨a, b⟩; exact ⟨a, by omega⟩
    · rintro ⟨a, b⟩; exact ⟨a, by omega⟩
  rcases useOf_cases o h0 with rfl | rfl | rfl | rfl | rfl | rfl | rfl | rfl | rfl | rfl | rfl | rfl | rfl | rfl | rfl | rfl | rfl | rfl | rfl | rfl | rfl
  · rw [plain 1 rfl rfl (h4 rfl)]; simp [valN, useOf]
  · rw [plain 2 rfl rfl (h4 rfl)]; simp [valN, useOf]
  · have hg := h4 rfl
    have hi := h1 rfl
    have hi2 : i.toNat % 9 = i.toNat := by omega
    have hf : ndFits M ⟨3, i, e, g, x, y⟩ ↔ ¬ (M.val.length : Int) ≤ i := by
      unfold ndFits fragN agentN factN
      dsimp only
      rw [show (useOf 3).1.fact = true from rfl, show (useOf 3).1.agent = false from rfl, show (useOf 3).1.frag = 0 from rfl, hg]
      simp only [Bool.false_eq_true, if_false, if_true]
      rw [hi2, pow_bits (a := i.toNat) (B := 8) (by omega)]
      simp
      omega
    rw [hf]
    simp only [valN]
    by_cases hc : (M.val.length : Int) ≤ i <;> simp [hc]
  · rw [plain 4 rfl rfl (h4 rfl)]; simp [valN, useOf]
  · rw [plain 5 rfl rfl (h4 rfl)]; simp [valN, useOf]
  · rw [plain 6 rfl rfl (h4 rfl)]; simp [valN, useOf]
  · rw [plain 7 rfl rfl (h4 rfl)]; simp [valN, useOf]
  · rw [plain 8 rfl rfl (h4 rfl)]; simp [valN, useOf]
  · rw [agt 9 rfl rfl (h2 rfl)]; by_cases hc : (M.rel.length : Int) ≤ i <;> simp [valN, useOf, hc]
  · rw [agt 10 rfl rfl (h2 rfl)]; by_cases hc : (M.rel.length : Int) ≤ i <;> simp [valN, useOf, hc]
  · rw [grp 11 rfl rfl (h3 rfl)]; by_cases hc : p2 M.rel.length ≤ g <;> simp [valN, useOf, hc]
  · rw [grp 12 rfl rfl (h3 rfl)]; by_cases hc : p2 M.rel.length ≤ g <;> simp [valN, useOf, hc]
  · rw [grp 13 rfl rfl (h3 rfl)]; by_cases hc : p2 M.rel.length ≤ g <;> simp [valN, useOf, hc]
  · rw [agt 14 rfl rfl (h2 rfl)]; simp [valN, useOf]
  · rw [agt 15 rfl rfl (h2 rfl)]; simp [valN, useOf]
  · rw [plain 16 rfl rfl (h4 rfl)]; simp [valN, useOf]
  · rw [plain 17 rfl rfl (h4 rfl)]; simp [valN, useOf]
  · rw [plain 18 rfl rfl (h4 rfl)]; simp [valN, useOf]
  · rw [plain 19 rfl rfl (h4 rfl)]; simp [valN, useOf]
  · rw [plain 20 rfl rfl (h4 rfl)]; simp [valN, useOf]
  · rw [plain 21 rfl rfl (h4 rfl)]; simp [valN, useOf]
theorem okS_nd (M : Mo) (L : List Fm) (s : Fm) : okS M s = (valN M (ndOf L s).op (ndOf L s).i (ndOf L s).g 0#64 0#64).2 := by cases s <;> rfl
/-- A tree has a set exactly if its fragments are static, and its agents and facts are there. -/
theorem semT_fits (M : Mo) (hr : M.rel.length ≤ 4) (_hv : M.val.length ≤ 8) (t : Fm) (ht : fok t) :
    (semT M t).2 = (decide (unionL fragN (canon t) < 16) && below (unionL agentN (canon t)) M.rel.length && below (unionL factN (canon t)) M.val.length) := by
  have hok := canon_ok ht
  have hmem : ∀ P : Nd → Prop, (∀ n ∈ canon t, P n) ↔ ∀ s, sbt s t → P (ndOf (addT t []) s) := fun P => by
    constructor
    · intro h s hs
      exact h _ (List.mem_map.2 ⟨s, (mem_addT t []).2 (.inr hs), rfl⟩)
    · intro h n hn
      obtain ⟨s, hs, rfl⟩ := List.mem_map.1 hn
      exact h s (((mem_addT t []).1 hs).elim (fun h => by simp at h) id)
  have hag : unionL agentN (canon t) < 2 ^ 4 := (unionL_lt_iff 4 agentN _).2 fun n hn => by
    have h := hok n hn
    unfold agentN
    split
    · rename_i ha
      have := h.agent ha
      exact Nat.lt_of_le_of_lt (Nat.pow_le_pow_right (by omega) (show n.i.toNat % 9 ≤ 3 by omega)) (by decide)
    · cases hg : (useOf n.op).1.group
      · have := h.nogroup hg; omega
      · have := h.group hg; omega
  have hfa : unionL factN (canon t) < 2 ^ 8 := (unionL_lt_iff 8 factN _).2 fun n hn => by
    have h := hok n hn
    unfold factN
    split
    · rename_i ha
      have := h.fact ha
      exact Nat.lt_of_le_of_lt (Nat.pow_le_pow_right (by omega) (show n.i.toNat % 9 ≤ 7 by omega)) (by decide)
    · decide
  rw [Bool.eq_iff_iff, semT_snd]
  simp only [Bool.and_eq_true, decide_eq_true_eq]
  rw [show (16 : Nat) = 2 ^ 4 from rfl, unionL_lt_iff, below_iff 4 _ _ hag (by omega), below_iff 8 _ _ hfa (by omega)]
  have key : (∀ s, sbt s t → okS M s = true) ↔ ∀ n ∈ canon t, ndFits M n := by
    rw [hmem]
    constructor
    · intro h s hs
      have hn : ndOf (addT t []) s ∈ canon t := List.mem_map.2 ⟨s, (mem_addT t []).2 (.inr hs), rfl⟩
      rw [← nd_okS M hr _ (hok _ hn), ← okS_nd]; exact h s hs
    · intro h s hs
      have hn : ndOf (addT t []) s ∈ canon t := List.mem_map.2 ⟨s, (mem_addT t []).2 (.inr hs), rfl⟩
      rw [okS_nd M (addT t []), nd_okS M hr _ (hok _ hn)]; exact h s hs
  rw [key]
  constructor
  · intro h
    refine ⟨⟨fun n hn => (h n hn).1, fun i hi hb => ?_⟩, fun i hi hb => ?_⟩
    · obtain ⟨n, hn, hb⟩ := (unionL_bit _ _ _).1 hb
      exact (h n hn).2.1 i hi hb
    · obtain ⟨n, hn, hb⟩ := (unionL_bit _ _ _).1 hb
      exact (h n hn).2.2 i hi hb
  · rintro ⟨⟨h1, h2⟩, h3⟩ n hn
    exact ⟨h1 n hn, fun i hi hb => h2 i hi ((unionL_bit _ _ _).2 ⟨n, hn, hb⟩), fun i hi hb => h3 i hi ((unionL_bit _ _ _).2 ⟨n, hn, hb⟩)⟩
end Wt
