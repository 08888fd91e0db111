/- Walks: wittingref17.Box, Paths, common, Boolean. -/
import Derived.Test.YtoacdccachhjdaaGreatDoorMAAa
import Derived.Test.YtoacdccachhjdaaGreatDoorMAAj
import Derived.Test.YtoacdccachhjdaaGreatDoorMAAi
import Derived.Test.YtoacdccachhjdaaGreatDoorMAAm
import Derived.Test.YtoacdccachhjdaaGreatDoorMAAr
import Derived.Deep.RegionHeld3
namespace Wt
open Go Go.RowKit Go.Proofs

set_option maxHeartbeats 1000000 in
theorem r17Box_any (a : Option Addr) (r : List (BitVec 64)) (c n : Nat) (s : BitVec 64) (w : World) (hr : RU w a r) (hn : n ≤ r.length) (h64 : n ≤ 64) :
    Calls Tryz.prog 183 #[.slice a r.length c, .int .i64 (n : Int), .int .u64 (un s)] w fun e w' => e = .returned (.int .u64 (un (boxTo r s n))) ∧ w = w' := by
  have hl := hr.len
  go_enter Tryz.func183, Tryz.ntmps183
  go_wp2
  go_loop [7, 8] (fun o i => ∃ k : Nat, k ≤ n ∧ i = .int .i64 k ∧ o = .int .u64 (un (boxTo r s k))) (fun _ i => n - (intOf i).toNat)
  case atStart => exact ⟨0, Nat.zero_le _, rfl, rfl⟩
  case round =>
    obtain ⟨k, hk, rfl, rfl⟩ := hrel
    by_cases hlt : k < n
    · obtain ⟨b, off, rfl, hb, hc⟩ := hr.get (k := k) (by omega)
      by_cases hq : (nth r k &&& ~~~ s) = 0#64
      · have hs : boxTo r s (k + 1) = boxTo r s k ||| 1#64 <<< k := if_pos hq
        have HS := Lib.hid hs
        have hq2 : ((nth r k &&& ~~~ s) == 0#64) = true := by simp [hq]
        clear hq hs
        go_wp2
        go_round
        case rel => exact ⟨k + 1, hlt, by go_num, by rw [HS.out]⟩
        case measure => simp [intOf]; omega
      · have hs : boxTo r s (k + 1) = boxTo r s k := if_neg hq
        have HS := Lib.hid hs
        have hq2 : ((nth r k &&& ~~~ s) == 0#64) = false := by simp [hq]
        clear hq hs
        go_wp2
        go_round
        case rel => exact ⟨k + 1, hlt, by go_num, by rw [HS.out]⟩
        case measure => simp [intOf]; omega
    · obtain rfl : k = n := by omega
      go_wp2
      go_ret
      exact ⟨rfl, rfl⟩
/-- The inner rounds of Paths. -/
def pIn (r : List (BitVec 64)) (c : BitVec 64) : Nat → BitVec 64 → BitVec 64
  | 0, s => s
  | k + 1, s => if bt (pIn r c k s) k then pIn r c k s ||| (nth r k &&& c) else pIn r c k s
theorem pIn_yes {r : List (BitVec 64)} {c : BitVec 64} {q : Nat} {S : BitVec 64} (h : bt (pIn r c q S) q = true) : pIn r c (q + 1) S = pIn r c q S ||| (nth r q &&& c) := by
  show (if bt (pIn r c q S) q then _ else _) = _
  rw [if_pos h]
theorem pIn_no {r : List (BitVec 64)} {c : BitVec 64} {q : Nat} {S : BitVec 64} (h : bt (pIn r c q S) q = false) : pIn r c (q + 1) S = pIn r c q S := by
  show (if bt (pIn r c q S) q then _ else _) = _
  rw [if_neg (by simp [h])]
def pOut (r : List (BitVec 64)) (n : Nat) (c s : BitVec 64) : Nat → BitVec 64
  | 0 => s
  | i + 1 => pIn r c n (pOut r n c s i)
def paths (r : List (BitVec 64)) (n k : Nat) (c : BitVec 64) : BitVec 64 := pOut r n c (nth r k &&& c) n
set_option maxHeartbeats 1000000 in
theorem r17Paths_any (a : Option Addr) (r : List (BitVec 64)) (rc n k : Nat) (c : BitVec 64) (w : World) (hr : RU w a r) (hn : n ≤ r.length) (h64 : n ≤ 64) (hk : k < n) :
    Calls Tryz.prog 197 #[.slice a r.length rc, .int .i64 (n : Int), .int .i64 (k : Int), .int .u64 (un c)] w fun e w' => e = .returned (.int .u64 (un (paths r n k c))) ∧ w = w' := by
  have hl := hr.len
  obtain ⟨b, off, rfl, hb, hc⟩ := hr.get (k := k) (by omega)
  have HR := Lib.hid hr
  clear hr
  go_enter Tryz.func197, Tryz.ntmps197
  go_wp2
  go_loop [9, 10] (fun o i => ∃ j : Nat, j ≤ n ∧ i = .int .i64 j ∧ o = .int .u64 (un (pOut r n c (nth r k &&& c) j))) (fun _ i => n - (intOf i).toNat)
  case atStart => exact ⟨0, Nat.zero_le _, rfl, rfl⟩
  case round =>
    obtain ⟨j, hj, rfl, rfl⟩ := hrel
    by_cases hlt : j < n
    · generalize hS : pOut r n c (nth r k &&& c) j = S
      have HS := Lib.hid hS
      clear hS
      go_wp2
      go_loop [9, 11] (fun o i => ∃ q : Nat, q ≤ n ∧ i = .int .i64 q ∧ o = .int .u64 (un (pIn r c q S))) (fun _ i => n - (intOf i).toNat)
      case atStart => exact ⟨0, Nat.zero_le _, rfl, rfl⟩
      case round =>
        obtain ⟨q, hq, rfl, rfl⟩ := hrel
        by_cases hql : q < n
        · obtain ⟨b', off', hbe, hb', hcq⟩ := HR.out.get (k := q) (by omega)
          simp only [Option.some.injEq, Addr.mk.injEq] at hbe
          obtain ⟨rfl, rfl, -⟩ := hbe
          cases hbt : bt (pIn r c q S) q
          · have hs : pIn r c (q + 1) S = pIn r c q S := pIn_no hbt
            have HP := Lib.hid hs
            have hh : hasW (pIn r c q S) (q : Int) = false := by simpa [hasW] using hbt
            have HH := Lib.hid hh
            clear hs hh hbt
            go_wp2_with (go_at_call 155; refine (r13Has_any _ _ _).mono ?_; rintro _ _ ⟨rfl, rfl⟩; rw [HH.out])
            go_round
            case rel => exact ⟨q + 1, hql, by go_num, by rw [HP.out]⟩
            case measure => simp [intOf]; omega
          · have hs : pIn r c (q + 1) S = pIn r c q S ||| (nth r q &&& c) := pIn_yes hbt
            have HP := Lib.hid hs
            have hh : hasW (pIn r c q S) (q : Int) = true := by simpa [hasW] using hbt
            have HH := Lib.hid hh
            clear hs hh hbt
            go_wp2_with (go_at_call 155; refine (r13Has_any _ _ _).mono ?_; rintro _ _ ⟨rfl, rfl⟩; rw [HH.out])
            go_round
            case rel => exact ⟨q + 1, hql, by go_num, by rw [HP.out]⟩
            case measure => simp [intOf]; omega
        · obtain rfl : q = n := by omega
          go_wp2
          go_round
          case rel => exact ⟨j + 1, hlt, by go_num, by rw [← HS.out]; rfl⟩
          case measure => simp [intOf]; omega
    · obtain rfl : j = n := by omega
      go_wp2
      go_ret
      exact ⟨rfl, rfl⟩
/-- The worlds below k from which all paths through a condition lead to a set. -/
def comTo (r : List (BitVec 64)) (n : Nat) (c s : BitVec 64) : Nat → BitVec 64
  | 0 => 0#64
  | k + 1 => if (paths r n k c &&& ~~~ s) = 0#64 then comTo r n c s k ||| 1#64 <<< k else comTo r n c s k
set_option maxHeartbeats 1000000 in
theorem r17common_any (a : Option Addr) (r : List (BitVec 64)) (rc n : Nat) (c s : BitVec 64) (w : World) (hr : RU w a r) (hn : n ≤ r.length) (h64 : n ≤ 64) :
    Calls Tryz.prog 186 #[.slice a r.length rc, .int .i64 (n : Int), .int .u64 (un c), .int .u64 (un s)] w fun e w' => e = .returned (.int .u64 (un (comTo r n c s n))) ∧ w = w' := by
  have hl := hr.len
  go_enter Tryz.func186, Tryz.ntmps186
  go_wp2
  go_loop [9, 10] (fun o i => ∃ k : Nat, k ≤ n ∧ i = .int .i64 k ∧ o = .int .u64 (un (comTo r n c s k))) (fun _ i => n - (intOf i).toNat)
  case atStart => exact ⟨0, Nat.zero_le _, rfl, rfl⟩
  case round =>
    obtain ⟨k, hk, rfl, rfl⟩ := hrel
    by_cases hlt : k < n
    · by_cases hq : (paths r n k c &&& ~~~ s) = 0#64
      · have hs : comTo r n c s (k + 1) = comTo r n c s k ||| 1#64 <<< k := if_pos hq
        have HS := Lib.hid hs
        have hq2 : ((paths r n k c &&& ~~~ s) == 0#64) = true := by simp [hq]
        clear hq hs
        go_wp2_with (go_at_call 197; refine (r17Paths_any a r rc n k c _ hr hn h64 hlt).mono ?_; rintro _ _ ⟨rfl, rfl⟩)
        go_round
        case rel => exact ⟨k + 1, hlt, by go_num, by rw [HS.out]⟩
        case measure => simp [intOf]; omega
      · have hs : comTo r n c s (k + 1) = comTo r n c s k := if_neg hq
        have HS := Lib.hid hs
        have hq2 : ((paths r n k c &&& ~~~ s) == 0#64) = false := by simp [hq]
        clear hq hs
        go_wp2_with (go_at_call 197; refine (r17Paths_any a r rc n k c _ hr hn h64 hlt).mono ?_; rintro _ _ ⟨rfl, rfl⟩)
        go_round
        case rel => exact ⟨k + 1, hlt, by go_num, by rw [HS.out]⟩
        case measure => simp [intOf]; omega
    · obtain rfl : k = n := by omega
      go_wp2
      go_ret
      exact ⟨rfl, rfl⟩
/-- The set of a propositional node. -/
def boolN (o : Int) (x y all : BitVec 64) : BitVec 64 :=
  if o = 1 then all else if o = 4 then all &&& ~~~ x else if o = 5 then x &&& y else if o = 6 then x ||| y else if o = 7 then (all &&& ~~~ x) ||| y else if o = 8 then all &&& ~~~ (x ^^^ y) else 0#64
set_option maxHeartbeats 1000000 in
theorem r17Boolean_any (o : Int) (x y all : BitVec 64) (w : World) :
    Calls Tryz.prog 182 #[.int .i64 o, .int .u64 (un x), .int .u64 (un y), .int .u64 (un all)] w fun e w' => e = .returned (.int .u64 (un (boolN o x y all))) ∧ w = w' := by
  by_cases h1 : o = 1
  · subst h1; go_enter Tryz.func182, Tryz.ntmps182; go_wp2; go_ret; exact ⟨rfl, rfl⟩
  by_cases h4 : o = 4
  · subst h4; go_enter Tryz.func182, Tryz.ntmps182; go_wp2; go_ret; exact ⟨rfl, rfl⟩
  by_cases h5 : o = 5
  · subst h5; go_enter Tryz.func182, Tryz.ntmps182; go_wp2; go_ret; exact ⟨rfl, rfl⟩
  by_cases h6 : o = 6
  · subst h6; go_enter Tryz.func182, Tryz.ntmps182; go_wp2; go_ret; exact ⟨rfl, rfl⟩
  by_cases h7 : o = 7
  · subst h7; go_enter Tryz.func182, Tryz.ntmps182; go_wp2; go_ret; exact ⟨rfl, rfl⟩
  by_cases h8 : o = 8
  · subst h8; go_enter Tryz.func182, Tryz.ntmps182; go_wp2; go_ret; exact ⟨rfl, rfl⟩
  have hv : boolN o x y all = 0#64 := by simp [boolN, h1, h4, h5, h6, h7, h8]
  have HV := Lib.hid hv
  have e1 : (o == 1) = false := by simp [h1]
  have e4 : (o == 4) = false := by simp [h4]
  have e5 : (o == 5) = false := by simp [h5]
  have e6 : (o == 6) = false := by simp [h6]
  have e7 : (o == 7) = false := by simp [h7]
  have e8 : (o == 8) = false := by simp [h8]
  clear hv h1 h4 h5 h6 h7 h8
  go_enter Tryz.func182, Tryz.ntmps182
  go_wp2
  go_ret
  exact ⟨by rw [HV.out]; rfl, rfl⟩
end Wt

/- Plain laws: common knowledge by paths; boxes; a tree's set is there exactly if its fragments and its agents and facts fit. -/
namespace Wt
open Fm

section
variable {r : List (BitVec 64)} {c s : BitVec 64} {n : Nat}
theorem pIn_sup : ∀ k, Sub s (pIn r c k s)
  | 0 => Sub.refl _
  | k + 1 => by
    rcases h : bt (pIn r c k s) k with _ | _
    · rw [pIn_no h]; exact pIn_sup k
    · rw [pIn_yes h]; exact (pIn_sup k).trans (Sub.orL _ _)
theorem pIn_step (k : Nat) : Sub (pIn r c k s) (pIn r c (k + 1) s) := by
  rcases h : bt (pIn r c k s) k with _ | _
  · rw [pIn_no h]; exact Sub.refl _
  · rw [pIn_yes h]; exact Sub.orL _ _
theorem pIn_mono (j : Nat) : ∀ d, Sub (pIn r c j s) (pIn r c (j + d) s)
  | 0 => Sub.refl _
  | d + 1 => (pIn_mono j d).trans (pIn_step (j + d))
theorem pIn_inv {X : BitVec 64} {m : Nat} (hm : m ≤ 64) (hX : ∀ v, v < m → bt X v = true → Sub (nth r v &&& c) X) (h0 : Sub s X) : ∀ k, k ≤ m → Sub (pIn r c k s) X
  | 0, _ => h0
  | k + 1, hk => by
    have ih := pIn_inv hm hX h0 k (by omega)
    rcases h : bt (pIn r c k s) k with _ | _
    · rw [pIn_no h]; exact ih
    · rw [pIn_yes h]; exact Sub.or ih (hX k (by omega) (ih k (by omega) h))
theorem pOut_inv {X : BitVec 64} (hn : n ≤ 64) (hX : ∀ v, v < n → bt X v = true → Sub (nth r v &&& c) X) (h0 : Sub s X) : ∀ i, Sub (pOut r n c s i) X
  | 0 => h0
  | i + 1 => pIn_inv hn hX (pOut_inv hn hX h0 i) n (Nat.le_refl _)
theorem pOut_sup : ∀ i, Sub s (pOut r n c s i)
  | 0 => Sub.refl _
  | i + 1 => (pOut_sup i).trans (pIn_sup n)
theorem pIn_closed (h : pIn r c n s = s) {v : Nat} (hv : v < n) (hb : bt s v = true) : Sub (nth r v &&& c) s := by
  have h1 : pIn r c v s = s := by
    have := pIn_mono (r := r) (c := c) (s := s) v (n - v)
    rw [show v + (n - v) = n by omega, h] at this
    exact Sub.antisymm this (pIn_sup v)
  have h2 : Sub (pIn r c (v + 1) s) s := by
    have := pIn_mono (r := r) (c := c) (s := s) (v + 1) (n - (v + 1))
    rw [show v + 1 + (n - (v + 1)) = n by omega, h] at this
    exact this
  rw [pIn_yes (by rw [h1]; exact hb), h1] at h2
  exact (Sub.orR _ _).trans h2
theorem pOut_stop : ∀ i, pOut r n c s (i + 1) = pOut r n c s i ∨ i + 1 ≤ pop (pOut r n c s (i + 1))
  | 0 => by
    by_cases h : pOut r n c s 1 = pOut r n c s 0
    · exact .inl h
    · have := pop_lt (pIn_sup (r := r) (c := c) (s := pOut r n c s 0) n) (Ne.symm h)
      exact .inr (by show 0 + 1 ≤ pop (pIn r c n (pOut r n c s 0)); omega)
  | i + 1 => by
    rcases pOut_stop i with h | h
    · exact .inl (by show pIn r c n (pOut r n c s (i + 1)) = _; rw [h]; exact h)
    · by_cases h2 : pOut r n c s (i + 1 + 1) = pOut r n c s (i + 1)
      · exact .inl h2
      · have := pop_lt (pIn_sup (r := r) (c := c) (s := pOut r n c s (i + 1)) n) (Ne.symm h2)
        exact .inr (by show i + 1 + 1 ≤ pop (pIn r c n (pOut r n c s (i + 1))); omega)
theorem pop_mono {s t : BitVec 64} (h : Sub s t) : pop s ≤ pop t := by
  by_cases e : s = t
  · rw [e]; exact Nat.le_refl _
  · exact Nat.le_of_lt (pop_lt h e)
theorem pOut_fix (hn : n ≤ 64) (hrow : ∀ v, v < n → Sub (nth r v) (allW n)) (h0 : Sub s (allW n)) : pIn r c n (pOut r n c s n) = pOut r n c s n := by
  rcases pOut_stop (r := r) (c := c) (s := s) (n := n) n with h | h
  · exact h
  · have h1 : Sub (pOut r n c s (n + 1)) (allW n) := pOut_inv hn (fun v hv _ k hk hb => by
      rw [bt_and, Bool.and_eq_true] at hb
      exact hrow v hv k hk hb.1) h0 (n + 1)
    have h2 := pop_mono h1
    have h3 := pop_allW n
    omega
theorem paths_sup (k : Nat) : Sub (nth r k &&& c) (paths r n k c) := pOut_sup n
theorem paths_inv {X : BitVec 64} (hn : n ≤ 64) {k : Nat} (hX : ∀ v, v < n → bt X v = true → Sub (nth r v &&& c) X) (h0 : Sub (nth r k &&& c) X) : Sub (paths r n k c) X := pOut_inv hn hX h0 n
theorem paths_closed (hn : n ≤ 64) (hrow : ∀ v, v < n → Sub (nth r v) (allW n)) {k v : Nat} (hk : k < n) (hv : v < n) (hb : bt (paths r n k c) v = true) : Sub (nth r v &&& c) (paths r n k c) :=
  pIn_closed (pOut_fix hn hrow fun j hj h => by
    rw [bt_and, Bool.and_eq_true] at h
    exact hrow k hk j hj h.1) hv hb
theorem bt_comTo (m : Nat) {k : Nat} (hk : k < 64) : bt (comTo r n c s m) k = (decide (k < m) && (paths r n k c &&& ~~~ s == 0#64)) := by
  induction m with
  | zero => simp [comTo, bt_zero]
  | succ m ih =>
    by_cases h : (paths r n m c &&& ~~~ s) = 0#64
    · have e : comTo r n c s (m + 1) = comTo r n c s m ||| 1#64 <<< m := if_pos h
      rw [e, bt_or, bt_shl1, ih]
      by_cases hkm : k = m
      · subst hkm; rw [h]; simp [hk]
      · rw [Bool.eq_iff_iff]; simp [hkm]; omega
    · have e : comTo r n c s (m + 1) = comTo r n c s m := if_neg h
      rw [e, ih]
      by_cases hkm : k = m
      · subst hkm; simp [h]
      · rw [Bool.eq_iff_iff]; simp; omega
/-- Common knowledge: all paths through the condition lead to the set. -/
theorem comTo_cmn (hr : r.length = n) (hn : n ≤ 64) (hok : relCheck r = 0) (hrow : ∀ v, v < n → Sub (nth r v) (allW n)) : comTo r n c s n = cmn r n c s := by
  apply Sub.antisymm
  · -- into every round
    have key : ∀ j, Sub (comTo r n c s n) (cmnI r n c s j) := by
      intro j
      induction j with
      | zero =>
        intro k hk hb
        rw [bt_comTo n hk, Bool.and_eq_true, decide_eq_true_eq] at hb
        show bt (allW n) k = true
        rw [bt_allW]; simp [hk, hb.1]
      | succ j ih =>
        intro k hk hb
        have hb2 := hb
        rw [bt_comTo n hk, Bool.and_eq_true, decide_eq_true_eq, beq_iff_eq, andNot_zero] at hb2
        show bt (relBox r _) k = true
        rw [bt_relBox _ _ _ hk]
        simp only [Bool.and_eq_true, decide_eq_true_eq, beq_iff_eq, andNot_zero]
        refine ⟨⟨hok, by omega⟩, fun v hv hbv => ?_⟩
        have hvn : v < n := by
          have := hrow k hb2.1 v hv hbv
          rw [bt_allW] at this; simp at this; exact this.2
        rw [bt_or, bt_and, bt_and, bt_not, bt_allW]
        rcases hc : bt c v with _ | _
        · simp [hv, hvn]
        · have hvp : bt (paths r n k c) v = true := paths_sup k v hv (by rw [bt_and, hbv, hc]; rfl)
          have hvx : bt (comTo r n c s n) v = true := by
            rw [bt_comTo n hv, Bool.and_eq_true, decide_eq_true_eq, beq_iff_eq, andNot_zero]
            refine ⟨hvn, Sub.trans ?_ hb2.2⟩
            exact paths_inv hn (fun u hu hbu => paths_closed hn hrow hb2.1 hu hbu) (paths_closed hn hrow hb2.1 hvn hvp)
          have h1 := hb2.2 v hv hvp
          have h2 := ih v hv hvx
          rw [h1, h2]; simp
    exact key n
  · intro k hk hb
    have hG : cmnF r n c s (cmn r n c s) = cmn r n c s := cmnI_fix r n (by omega) c s
    have step : ∀ v, v < 64 → bt (cmn r n c s) v = true → v < n ∧ Sub (nth r v &&& c) (s &&& cmn r n c s) := by
      intro v hv hbv
      rw [← hG] at hbv
      have h1 : bt (relBox r ((allW n &&& ~~~ c) ||| (s &&& cmn r n c s))) v = true := hbv
      rw [bt_relBox _ _ _ hv] at h1
      simp only [Bool.and_eq_true, decide_eq_true_eq, beq_iff_eq, andNot_zero] at h1
      refine ⟨by omega, fun u hu hbu => ?_⟩
      rw [bt_and, Bool.and_eq_true] at hbu
      have := h1.2 u hu hbu.1
      rw [bt_or, bt_and, bt_not, hbu.2] at this
      simpa using this
    obtain ⟨hkn, h0⟩ := step k hk hb
    rw [bt_comTo n hk, Bool.and_eq_true, decide_eq_true_eq, beq_iff_eq, andNot_zero]
    refine ⟨hkn, Sub.trans (paths_inv (X := s &&& cmn r n c s) hn (fun v hv hbv => ?_) h0) fun v hv hbv => ?_⟩
    · rw [bt_and, Bool.and_eq_true] at hbv
      exact (step v (by omega) hbv.2).2
    · rw [bt_and, Bool.and_eq_true] at hbv
      exact hbv.1
end
end Wt

/- Walks: wittingref05: UsesX, UsesY, agent, group, node, Check. -/
namespace Wt
open Go Go.RowKit Go.Maps Go.Proofs Fm

theorem use_low (op : Int) (h : op < 1 ∨ 21 < op) : useOf op = (⟨false,false,false,false,false,false,0⟩, false) := by
  refine useOf_no op fun h2 => ?_
  rcases useOf_cases op h2 with h | h | h | h | h | h | h | h | h | h | h | h | h | h | h | h | h | h | h | h | h <;> omega
theorem op_cases (op : Int) : (op < 1 ∨ 21 < op) ∨ op = 1 ∨ op = 2 ∨ op = 3 ∨ op = 4 ∨ op = 5 ∨ op = 6 ∨ op = 7 ∨ op = 8 ∨ op = 9 ∨ op = 10 ∨ op = 11 ∨ op = 12 ∨ op = 13 ∨ op = 14 ∨ op = 15 ∨ op = 16 ∨ op = 17 ∨ op = 18 ∨ op = 19 ∨ op = 20 ∨ op = 21 := by omega
theorem r5x_eq (op : Int) : (useOf op).1.x = (decide (4 ≤ op) && decide (op ≤ 21)) := by
  rcases op_cases op with h | h | h | h | h | h | h | h | h | h | h | h | h | h | h | h | h | h | h | h | h | h
  · rw [use_low op h]; simp; omega
  all_goals (subst h; rfl)
theorem r5y_eq (op : Int) : (useOf op).1.y = (decide (5 ≤ op ∧ op ≤ 8) || op == 13 || op == 14 || op == 16 || op == 19 || op == 21) := by
  rcases op_cases op with h | h | h | h | h | h | h | h | h | h | h | h | h | h | h | h | h | h | h | h | h | h
  · rw [use_low op h]; simp; omega
  all_goals (subst h; rfl)
theorem r5a_eq (op : Int) : (useOf op).1.agent = (op == 9 || op == 10 || op == 14 || op == 15) := by
  rcases op_cases op with h | h | h | h | h | h | h | h | h | h | h | h | h | h | h | h | h | h | h | h | h | h
  · rw [use_low op h]; simp; omega
  all_goals (subst h; rfl)
theorem r5g_eq (op : Int) : (useOf op).1.group = (decide (11 ≤ op) && decide (op ≤ 13)) := by
  rcases op_cases op with h | h | h | h | h | h | h | h | h | h | h | h | h | h | h | h | h | h | h | h | h | h
  · rw [use_low op h]; simp; omega
  all_goals (subst h; rfl)
theorem r5f_eq (op : Int) : (useOf op).1.fact = (op == 3) := by
  rcases op_cases op with h | h | h | h | h | h | h | h | h | h | h | h | h | h | h | h | h | h | h | h | h | h
  · rw [use_low op h]; simp; omega
  all_goals (subst h; rfl)
theorem r5e_eq (op : Int) : (useOf op).1.event = (op == 17) := by
  rcases op_cases op with h | h | h | h | h | h | h | h | h | h | h | h | h | h | h | h | h | h | h | h | h | h
  · rw [use_low op h]; simp; omega
  all_goals (subst h; rfl)
theorem r5ok_eq (op : Int) : (useOf op).2 = (decide (1 ≤ op) && decide (op ≤ 21)) := by
  rcases op_cases op with h | h | h | h | h | h | h | h | h | h | h | h | h | h | h | h | h | h | h | h | h | h
  · rw [use_low op h]; simp; omega
  all_goals (subst h; rfl)
set_option maxHeartbeats 1000000 in
theorem r5X_any (op : Int) (w : World) :
    Calls Tryz.prog 127 #[.int .i64 op] w fun e w' => e = .returned (.bool (useOf op).1.x) ∧ w = w' := by
  have H := Lib.hid (r5x_eq op)
  by_cases h1 : 4 ≤ op <;> by_cases h2 : op ≤ 21
  all_goals
    go_enter Tryz.func127, Tryz.ntmps127
    go_wp2
    go_ret
    exact ⟨by rw [H.out]; simp [h1, h2], rfl⟩
set_option maxHeartbeats 1000000 in
theorem r5G_any (op : Int) (w : World) :
    Calls Tryz.prog 164 #[.int .i64 op] w fun e w' => e = .returned (.bool (useOf op).1.group) ∧ w = w' := by
  have H := Lib.hid (r5g_eq op)
  by_cases h1 : 11 ≤ op <;> by_cases h2 : op ≤ 13
  all_goals
    go_enter Tryz.func164, Tryz.ntmps164
    go_wp2
    go_ret
    exact ⟨by rw [H.out]; simp [h1, h2], rfl⟩
set_option maxHeartbeats 1000000 in
theorem r5A_any (op : Int) (w : World) :
    Calls Tryz.prog 163 #[.int .i64 op] w fun e w' => e = .returned (.bool (useOf op).1.agent) ∧ w = w' := by
  by_cases h : op = 9 ∨ op = 10 ∨ op = 14 ∨ op = 15
  · rcases h with rfl | rfl | rfl | rfl
    all_goals
      go_enter Tryz.func163, Tryz.ntmps163
      go_wp2
      go_ret
      exact ⟨rfl, rfl⟩
  · have H := Lib.hid (r5a_eq op)
    have e9 : (op == 9) = false := by simp; omega
    have e10 : (op == 10) = false := by simp; omega
    have e14 : (op == 14) = false := by simp; omega
    have e15 : (op == 15) = false := by simp; omega
    clear h
    go_enter Tryz.func163, Tryz.ntmps163
    go_wp2
    go_ret
    exact ⟨by rw [H.out]; simp [e9, e10, e14, e15], rfl⟩
set_option maxHeartbeats 1000000 in
theorem r5Y_any (op : Int) (w : World) :
    Calls Tryz.prog 128 #[.int .i64 op] w fun e w' => e = .returned (.bool (useOf op).1.y) ∧ w = w' := by
  by_cases h : op = 5 ∨ op = 6 ∨ op = 7 ∨ op = 8 ∨ op = 13 ∨ op = 14 ∨ op = 16 ∨ op = 19 ∨ op = 21
  · rcases h with rfl | rfl | rfl | rfl | rfl | rfl | rfl | rfl | rfl
    all_goals
      go_enter Tryz.func128, Tryz.ntmps128
      go_wp2
      go_ret
      exact ⟨rfl, rfl⟩
  · have H := Lib.hid (r5y_eq op)
    have e13 : (op == 13) = false := by simp; omega
    have e14 : (op == 14) = false := by simp; omega
    have e16 : (op == 16) = false := by simp; omega
    have e19 : (op == 19) = false := by simp; omega
    have e21 : (op == 21) = false := by simp; omega
    have e58 : decide (5 ≤ op ∧ op ≤ 8) = false := by simp; omega
    by_cases h5 : 5 ≤ op
    · have d8 : decide (op ≤ 8) = false := by simp; omega
      clear h
      go_enter Tryz.func128, Tryz.ntmps128
      go_wp2
      go_ret
      exact ⟨by rw [H.out, e58, e13, e14, e16, e19, e21]; rfl, rfl⟩
    · clear h
      go_enter Tryz.func128, Tryz.ntmps128
      go_wp2
      go_ret
      exact ⟨by rw [H.out, e58, e13, e14, e16, e19, e21]; rfl, rfl⟩

set_option maxRecDepth 20000 in
set_option maxHeartbeats 1000000 in
theorem r5node_low (op i ev g x y a : Int) (w : World) (h : op < 1 ∨ 21 < op) :
    Calls Tryz.prog 129 #[.agg #[.int .i64 op, .int .i64 i, .int .i64 ev, .int .i64 g, .int .i64 x, .int .i64 y], .int .i64 a] w fun e w' => e = .returned (.int .i64 (nodeErr ⟨op, i, ev, g, x, y⟩ a)) ∧ Ext w w' := by
  have hn : nodeErr ⟨op, i, ev, g, x, y⟩ a = 10 := nodeErr_no _ _ (by rw [use_low op h])
  have HN := Lib.hid hn
  clear hn
  rcases h with h | h
  · go_enter Tryz.func129, Tryz.ntmps129
    go_wp2
    go_ret
    exact ⟨by rw [HN.out]; rfl, (Ext.refl w).alloc _⟩
  · go_enter Tryz.func129, Tryz.ntmps129
    go_wp2
    go_ret
    exact ⟨by rw [HN.out]; rfl, (Ext.refl w).alloc _⟩
end Wt

/- Walk: wittingref05.finish (printed by gen_rff.py). -/
namespace Wt
open Go Go.RowKit Go.Maps Go.Proofs Fm

def FinRPost (w : World) (wb g c : Nat) (l : List Nd) (i : Nat) (W : World) (L : List Fm) (v : Value) (_D : List Int) (e : Ending) (W' : World) : Prop :=
  ∃ v' D', e = .returned (.int .i64 (idx (addT (trAt l i) L) (trAt l i))) ∧ RS w wb g c l W' (addT (trAt l i) L) v' D' ∧ FR wb g v W W' v'
/-- What a call of finish at a node does. -/
def FinR (w : World) (wb g c : Nat) (fa : Option Addr) (fc : Nat) (l : List Nd) (i : Nat) : Prop :=
  ∀ W L v D, RS w wb g c l W L v D →
    Calls Tryz.prog 165 #[.slice fa l.length fc, .int .i64 (i : Int), .pointer (some ⟨wb, 0, none⟩)] W (FinRPost w wb g c l i W L v D)
set_option maxRecDepth 20000 in
set_option maxHeartbeats 2000000 in
theorem r5finish_done {w : World} {wb g c : Nat} {fa : Option Addr} {fc : Nat} {l : List Nd} {W : World} {L : List Fm} {v : Value} {D : List Int} (h : RS w wb g c l W L v D) (i : Nat) (hi : i < l.length) (hD : nth D i ≠ -1) (_hl : l.length ≤ 1000) :
    Calls Tryz.prog 165 #[.slice fa l.length fc, .int .i64 (i : Int), .pointer (some ⟨wb, 0, none⟩)] W (FinRPost w wb g c l i W L v D) := by
  rcases h.dD i hi with h1 | ⟨hm, h2⟩
  · exact absurd h1 hD
  have hp : FinRPost w wb g c l i W L v D (.returned (.int .i64 (idx L (trAt l i)))) W := by
    unfold FinRPost
    rw [addT_of_mem _ h.cl hm]
    exact ⟨v, D, rfl, h, FR.refl _ _ _ _⟩
  have c1 := h.cd
  have c2 := h.dn.cell hi
  rw [h2] at c2
  have HP := Lib.hid hp
  clear hp h h2 hm hD
  go_enter Tryz.func165, Tryz.ntmps165
  go_wp2
  go_ret
  exact HP.out
set_option maxRecDepth 20000 in
set_option maxHeartbeats 4000000 in
theorem r5finish_leaf {w : World} {wb g c : Nat} {fa : Option Addr} {fc : Nat} {l : List Nd} {W : World} {L : List Fm} {v : Value} {D : List Int} (hr : RN w fa l) (hw : Wf l) (h : RS w wb g c l W L v D) (i : Nat) (hi : i < l.length) (hD : nth D i = -1) (hl : l.length ≤ 1000)
    (hux : (useOf (nth l i).op).1.x = false) (huy : (useOf (nth l i).op).1.y = false) :
    Calls Tryz.prog 165 #[.slice fa l.length fc, .int .i64 (i : Int), .pointer (some ⟨wb, 0, none⟩)] W (FinRPost w wb g c l i W L v D) := by
  have hok : fok (trAt l i) := fok_trAt hw _ i (Nat.lt_succ_self i) hi
  have hrange : trAt l i ∈ (List.range l.length).map (trAt l) := List.mem_map.2 ⟨i, by simpa using hi, rfl⟩
  have ht : trAt l i = .leaf (nth l i).op (nth l i).i (nth l i).e (nth l i).g := trAt_leaf hi hux
  have hnd : ndOf L (trAt l i) = nth l i := by
    rw [ht]
    have hx := hw.x_zero hi hux
    have hy := hw.y_zero hi huy
    have : nth l i = ⟨(nth l i).op, (nth l i).i, (nth l i).e, (nth l i).g, (nth l i).x, (nth l i).y⟩ := rfl
    rw [this, hx, hy]; rfl
  have hkid : ∀ c, kid c (trAt l i) → c ∈ L := fun c h => by rw [ht] at h; exact h.elim
  have hadd : addT (trAt l i) L = put (trAt l i) L := by rw [ht]; rfl
  have c1 := h.cd
  have c2 := h.dn.cell hi
  rw [hD] at c2
  have HUX := Lib.hid hux
  have HUY := Lib.hid huy
  have HOK := Lib.hid hok
  have HRG := Lib.hid hrange
  have HN := Lib.hid hnd
  have HA := Lib.hid hadd
  have HK := Lib.hid hkid
  clear ht
  have hwbW := h.hi
  have hgW := h.gb
  have hlo := h.lo
  have HB0 : Hid (some W.heap.size ≠ v.ownBlock) := fun e => by have := (h.vb _ e.symm).2; omega
  have HR0 := Lib.hid (h.ext' ((Ext.refl W).alloc (.cells #[.int .i64 (nth l i).op, .int .i64 (nth l i).i, .int .i64 (nth l i).e, .int .i64 (nth l i).g, .int .i64 (nth l i).x, .int .i64 (nth l i).y] 109)))
  have HF0 := Lib.hid ((FR.refl wb g v W).ext ((Ext.refl W).alloc (.cells #[.int .i64 (nth l i).op, .int .i64 (nth l i).i, .int .i64 (nth l i).e, .int .i64 (nth l i).g, .int .i64 (nth l i).x, .int .i64 (nth l i).y] 109)))
  have HX0 := Lib.hid (NdAt.new W (nth l i) 109)
  obtain ⟨b, off, rfl, hb, n0, n1, n2, n3, n4, n5⟩ := (hr.ext h.ext).get hi
  have HRN := Lib.hid hr
  clear hr hw h hD hux huy hok hrange hnd hadd hkid
  have hfzx0 : ∀ o, (W.alloc (.cells #[.int .i64 (nth l i).op, .int .i64 (nth l i).i, .int .i64 (nth l i).e, .int .i64 (nth l i).g, .int .i64 (nth l i).x, .int .i64 (nth l i).y] 109)).frozen? ⟨W.heap.size, o, none⟩ = false := fun o => by simp
  have hxlt0 : W.heap.size < (W.alloc (.cells #[.int .i64 (nth l i).op, .int .i64 (nth l i).i, .int .i64 (nth l i).e, .int .i64 (nth l i).g, .int .i64 (nth l i).x, .int .i64 (nth l i).y] 109)).heap.size := by simp
  go_enter Tryz.func165, Tryz.ntmps165
  go_wp2_with fail
  refine (r5X_any _ _).mono ?_
  rintro _ _ ⟨rfl, rfl⟩
  rw [HUX.out]
  dsimp only
  generalize W.alloc (.cells #[.int .i64 (nth l i).op, .int .i64 (nth l i).i, .int .i64 (nth l i).e, .int .i64 (nth l i).g, .int .i64 (nth l i).x, .int .i64 (nth l i).y] 109) = W1 at *
  clear c1 c2 n0 n1 n2 n3 n4 n5
  obtain ⟨x0, x1, x2, x3, x4, x5⟩ := HX0.out
  simp only [Nat.zero_add] at x1 x2 x3 x4 x5
  go_wp2_with fail
  refine (r5Y_any _ _).mono ?_
  rintro _ _ ⟨rfl, rfl⟩
  rw [HUY.out]
  dsimp only
  have c1 := HR0.out.cd
  have hi0 : (0 : Int) ≤ (i : Int) := by omega
  have hi1 : (i : Int) < (l.length : Int) := by omega
  have hgw : wb ≠ g := by omega
  have hgx : W.heap.size ≠ g := by omega
  have hwx : W.heap.size ≠ wb := by omega
  have HRD := Lib.hid (HR0.out.ext' ((Ext.refl W1).drew))
  have HXD := Lib.hid (HX0.out.ext ((Ext.refl W1).drew))
  have HFD := Lib.hid (HF0.out.ext ((Ext.refl W1).drew))
  have hxD : W.heap.size < W1.drew.heap.size := hxlt0
  clear x0 x1 x2 x3 x4 x5
  generalize hcn : ((nth l i) : Nd) = cn at *
  obtain ⟨x0, x1, x2, x3, x4, x5⟩ := HX0.out
  simp only [Nat.zero_add] at x1 x2 x3 x4 x5
  have HC4 : Hid (∀ W4 v4, RS w wb g c l W4 (put (trAt l i) L) v4 D → FR wb g v W1.drew W4 v4 → (W4.cell? ⟨wb, 1, none⟩ = some (.slice (some ⟨g, 0, none⟩) l.length c) ∧ W4.cell? ⟨W.heap.size, 0, none⟩ = some (.int .i64 cn.op) ∧ W4.cell? ⟨W.heap.size, 1, none⟩ = some (.int .i64 cn.i) ∧ W4.cell? ⟨W.heap.size, 2, none⟩ = some (.int .i64 cn.e) ∧ W4.cell? ⟨W.heap.size, 3, none⟩ = some (.int .i64 cn.g) ∧ W4.cell? ⟨W.heap.size, 4, none⟩ = some (.int .i64 cn.x) ∧ W4.cell? ⟨W.heap.size, 5, none⟩ = some (.int .i64 cn.y)) ∧ ∀ u, (W4.setCell ⟨g, i, none⟩ u).cell? ⟨wb, 1, none⟩ = some (.slice (some ⟨g, 0, none⟩) l.length c) ∧ (W4.setCell ⟨g, i, none⟩ u).cell? ⟨W.heap.size, 0, none⟩ = some (.int .i64 cn.op) ∧ (W4.setCell ⟨g, i, none⟩ u).cell? ⟨W.heap.size, 1, none⟩ = some (.int .i64 cn.i) ∧ (W4.setCell ⟨g, i, none⟩ u).cell? ⟨W.heap.size, 2, none⟩ = some (.int .i64 cn.e) ∧ (W4.setCell ⟨g, i, none⟩ u).cell? ⟨W.heap.size, 3, none⟩ = some (.int .i64 cn.g) ∧ (W4.setCell ⟨g, i, none⟩ u).cell? ⟨W.heap.size, 4, none⟩ = some (.int .i64 cn.x) ∧ (W4.setCell ⟨g, i, none⟩ u).cell? ⟨W.heap.size, 5, none⟩ = some (.int .i64 cn.y)) := by
    intro W4 v4 hR hF
    have hx := HXD.out.keep (hF.keep W.heap.size hxD hwx hgx HB0.out)
    obtain ⟨y0, y1, y2, y3, y4, y5⟩ := hx
    simp only [Nat.zero_add] at y1 y2 y3 y4 y5
    refine ⟨⟨hR.cd, y0, y1, y2, y3, y4, y5⟩, fun u => ?_⟩
    refine ⟨?_, ?_, ?_, ?_, ?_, ?_, ?_⟩
    · rw [World.cell?_setCell_other _ _ _ _ (by simp)]; exact hR.cd
    all_goals (rw [World.cell?_setCell_other _ _ _ _ (by simp)]; assumption)
  go_wp2_with fail
  go_region_held3 (fun w' => w'.cell? ⟨wb, 1, none⟩ = some (.slice (some ⟨g, 0, none⟩) l.length c) ∧ w'.cell? ⟨W.heap.size, 0, none⟩ = some (.int .i64 cn.op) ∧ w'.cell? ⟨W.heap.size, 1, none⟩ = some (.int .i64 cn.i) ∧ w'.cell? ⟨W.heap.size, 2, none⟩ = some (.int .i64 cn.e) ∧ w'.cell? ⟨W.heap.size, 3, none⟩ = some (.int .i64 cn.g) ∧ w'.cell? ⟨W.heap.size, 4, none⟩ = some (.int .i64 cn.x) ∧ w'.cell? ⟨W.heap.size, 5, none⟩ = some (.int .i64 cn.y)) (first | go_keep | exact k4 | exact k5 _)
    (first | (go_at_call 190; refine (r5put_any HRD.out hl cn HK.out HOK.out HRG.out HN.out).mono ?_; rintro e W4 ⟨v4, rfl, hR4, hF4⟩; obtain ⟨k4, k5⟩ := HC4.out _ _ hR4 hF4; have c4 := hR4.dn.cell hi; have f4 := hR4.dn.frozen i; have HR4 := Lib.hid hR4; have HF4 := Lib.hid hF4; clear hR4 hF4))
  all_goals
    obtain ⟨z0, -⟩ := k5 (.int .i64 (idx (put (trAt l i) L) (trAt l i) : Int))
    have z1 := World.cell?_setCell_same W4 ⟨g, i, none⟩ (.int .i64 (idx (put (trAt l i) L) (trAt l i) : Int)) c4
    clear k4 k5
    go_wp2
    go_ret
    refine ⟨v4, D.set i (idx (put (trAt l i) L) (trAt l i) : Int), ?_, ?_, ?_⟩
    · rw [HA.out]; rfl
    · rw [HA.out]; exact (HR4.out.mark hi (put_mem _ _)).1
    · exact (HFD.out.trans HF4.out).trans (HR4.out.mark hi (put_mem _ _)).2
set_option maxRecDepth 20000 in
set_option maxHeartbeats 4000000 in
theorem r5finish_un {w : World} {wb g c : Nat} {fa : Option Addr} {fc : Nat} {l : List Nd} {W : World} {L : List Fm} {v : Value} {D : List Int} (hr : RN w fa l) (hw : Wf l) (h : RS w wb g c l W L v D) (i : Nat) (hi : i < l.length) (hD : nth D i = -1) (hl : l.length ≤ 1000)
    (hux : (useOf (nth l i).op).1.x = true) (huy : (useOf (nth l i).op).1.y = false) (ihx : FinR w wb g c fa fc l (nth l i).x.toNat) :
    Calls Tryz.prog 165 #[.slice fa l.length fc, .int .i64 (i : Int), .pointer (some ⟨wb, 0, none⟩)] W (FinRPost w wb g c l i W L v D) := by
  have hok : fok (trAt l i) := fok_trAt hw _ i (Nat.lt_succ_self i) hi
  have hrange : trAt l i ∈ (List.range l.length).map (trAt l) := List.mem_map.2 ⟨i, by simpa using hi, rfl⟩
  obtain ⟨hx0, hxl⟩ := hw.x_lt hi hux
  obtain ⟨kx, hkx⟩ := Int.eq_ofNat_of_zero_le hx0
  have ht := trAt_un hw hi hux huy
  rw [hkx, Int.toNat_natCast] at ht ihx hxl
  have hnd : ndOf (addT (trAt l kx) L) (trAt l i) = { (nth l i) with x := (idx (addT (trAt l kx) L) (trAt l kx) : Int) } := by
    rw [ht]
    have hy := hw.y_zero hi huy
    have : nth l i = ⟨(nth l i).op, (nth l i).i, (nth l i).e, (nth l i).g, (nth l i).x, (nth l i).y⟩ := rfl
    rw [this, hy]; rfl
  have hkid : ∀ c, kid c (trAt l i) → c ∈ addT (trAt l kx) L := fun c h => by rw [ht] at h; rw [show c = trAt l kx from h]; exact addT_mem _ _
  have hadd : addT (trAt l i) L = put (trAt l i) (addT (trAt l kx) L) := by rw [ht]; rfl
  have HKX := Lib.hid hkx
  have Hihx := Lib.hid ihx
  clear hkx hx0 ihx
  have c1 := h.cd
  have c2 := h.dn.cell hi
  rw [hD] at c2
  have HUX := Lib.hid hux
  have HUY := Lib.hid huy
  have HOK := Lib.hid hok
  have HRG := Lib.hid hrange
  have HN := Lib.hid hnd
  have HA := Lib.hid hadd
  have HK := Lib.hid hkid
  clear ht
  have hwbW := h.hi
  have hgW := h.gb
  have hlo := h.lo
  have HB0 : Hid (some W.heap.size ≠ v.ownBlock) := fun e => by have := (h.vb _ e.symm).2; omega
  have HR0 := Lib.hid (h.ext' ((Ext.refl W).alloc (.cells #[.int .i64 (nth l i).op, .int .i64 (nth l i).i, .int .i64 (nth l i).e, .int .i64 (nth l i).g, .int .i64 (nth l i).x, .int .i64 (nth l i).y] 109)))
  have HF0 := Lib.hid ((FR.refl wb g v W).ext ((Ext.refl W).alloc (.cells #[.int .i64 (nth l i).op, .int .i64 (nth l i).i, .int .i64 (nth l i).e, .int .i64 (nth l i).g, .int .i64 (nth l i).x, .int .i64 (nth l i).y] 109)))
  have HX0 := Lib.hid (NdAt.new W (nth l i) 109)
  obtain ⟨b, off, rfl, hb, n0, n1, n2, n3, n4, n5⟩ := (hr.ext h.ext).get hi
  have HRN := Lib.hid hr
  clear hr hw h hD hux huy hok hrange hnd hadd hkid
  have hfzx0 : ∀ o, (W.alloc (.cells #[.int .i64 (nth l i).op, .int .i64 (nth l i).i, .int .i64 (nth l i).e, .int .i64 (nth l i).g, .int .i64 (nth l i).x, .int .i64 (nth l i).y] 109)).frozen? ⟨W.heap.size, o, none⟩ = false := fun o => by simp
  have hxlt0 : W.heap.size < (W.alloc (.cells #[.int .i64 (nth l i).op, .int .i64 (nth l i).i, .int .i64 (nth l i).e, .int .i64 (nth l i).g, .int .i64 (nth l i).x, .int .i64 (nth l i).y] 109)).heap.size := by simp
  go_enter Tryz.func165, Tryz.ntmps165
  go_wp2_with fail
  refine (r5X_any _ _).mono ?_
  rintro _ _ ⟨rfl, rfl⟩
  rw [HUX.out]
  dsimp only
  generalize W.alloc (.cells #[.int .i64 (nth l i).op, .int .i64 (nth l i).i, .int .i64 (nth l i).e, .int .i64 (nth l i).g, .int .i64 (nth l i).x, .int .i64 (nth l i).y] 109) = W1 at *
  clear c1 c2 n0 n1 n2 n3 n4 n5
  obtain ⟨x0, x1, x2, x3, x4, x5⟩ := HX0.out
  simp only [Nat.zero_add] at x1 x2 x3 x4 x5
  obtain ⟨b', off', hbe, hb', n0, n1, n2, n3, n4, n5⟩ := (HRN.out.ext HR0.out.ext).get hi
  simp only [Option.some.injEq, Addr.mk.injEq] at hbe
  obtain ⟨rfl, rfl, -⟩ := hbe
  rw [HKX.out] at n4
  go_wp2_with fail
  refine (Hihx.out _ _ _ _ HR0.out).mono ?_
  rintro e W2 ⟨v1, D1, rfl, hR, hF⟩
  dsimp only
  have HRa := Lib.hid hR
  have HFa := Lib.hid hF
  have hkx := hF.keep W.heap.size hxlt0 (by omega) (by omega) HB0.out
  have HB1 : Hid (some W.heap.size ≠ v1.ownBlock) := hF.xb hxlt0 HB0.out
  have hxa := HX0.out.keep hkx
  have hfa : ∀ o, W2.frozen? ⟨W.heap.size, o, none⟩ = false := fun o => by
    rw [World.frozen?_of_block hkx]; exact hfzx0 o
  have hxlta : W.heap.size < W2.heap.size := by have := hF.size; omega
  have HXa := Lib.hid hxa
  clear hR hF x0 x1 x2 x3 x4 x5 n0 n1 n2 n3 n4 n5 hkx hfzx0
  obtain ⟨x0, x1, x2, x3, x4, x5⟩ := hxa
  simp only [Nat.zero_add] at x1 x2 x3 x4 x5
  go_wp2_with fail
  refine (r5Y_any _ _).mono ?_
  rintro _ _ ⟨rfl, rfl⟩
  rw [HUY.out]
  dsimp only
  have HR1 : Hid (RS w wb g c l (W2.setCell ⟨W.heap.size, 4, none⟩ (.int .i64 (idx (addT (trAt l kx) L) (trAt l kx) : Int))) (addT (trAt l kx) L) v1 D1) := HRa.out.setBox (by omega) (by omega) (by omega) HB1.out _ _
  have HF1 : Hid (FR wb g v W (W2.setCell ⟨W.heap.size, 4, none⟩ (.int .i64 (idx (addT (trAt l kx) L) (trAt l kx) : Int))) v1) := (HF0.out.trans HFa.out).setNew (Nat.le_refl _) _ _
  have HX1 : Hid (NdAt (W2.setCell ⟨W.heap.size, 4, none⟩ (.int .i64 (idx (addT (trAt l kx) L) (trAt l kx) : Int))) W.heap.size 0 { (nth l i) with x := (idx (addT (trAt l kx) L) (trAt l kx) : Int) }) := HXa.out.setX _
  have hfzx1 : ∀ o, (W2.setCell ⟨W.heap.size, 4, none⟩ (.int .i64 (idx (addT (trAt l kx) L) (trAt l kx) : Int))).frozen? ⟨W.heap.size, o, none⟩ = false := fun o => by rw [World.frozen?_setCell]; exact hfa o
  have hxlt1 : W.heap.size < (W2.setCell ⟨W.heap.size, 4, none⟩ (.int .i64 (idx (addT (trAt l kx) L) (trAt l kx) : Int))).heap.size := by simpa [World.setCell] using hxlta
  generalize (W2.setCell ⟨W.heap.size, 4, none⟩ (.int .i64 (idx (addT (trAt l kx) L) (trAt l kx) : Int))) = V1 at *
  clear x0 x1 x2 x3 x4 x5 HRa HFa HXa hfa hxlta
  obtain ⟨x0, x1, x2, x3, x4, x5⟩ := HX1.out
  simp only [Nat.zero_add] at x1 x2 x3 x4 x5
  have c1 := HR1.out.cd
  have hi0 : (0 : Int) ≤ (i : Int) := by omega
  have hi1 : (i : Int) < (l.length : Int) := by omega
  have hgw : wb ≠ g := by omega
  have hgx : W.heap.size ≠ g := by omega
  have hwx : W.heap.size ≠ wb := by omega
  have HRD := Lib.hid (HR1.out.ext' ((Ext.refl V1).drew))
  have HXD := Lib.hid (HX1.out.ext ((Ext.refl V1).drew))
  have HFD := Lib.hid (HF1.out.ext ((Ext.refl V1).drew))
  have hxD : W.heap.size < V1.drew.heap.size := hxlt1
  clear x0 x1 x2 x3 x4 x5
  generalize hcn : ({ (nth l i) with x := (idx (addT (trAt l kx) L) (trAt l kx) : Int) } : Nd) = cn at *
  obtain ⟨x0, x1, x2, x3, x4, x5⟩ := HX1.out
  simp only [Nat.zero_add] at x1 x2 x3 x4 x5
  have HC4 : Hid (∀ W4 v4, RS w wb g c l W4 (put (trAt l i) (addT (trAt l kx) L)) v4 D1 → FR wb g v1 V1.drew W4 v4 → (W4.cell? ⟨wb, 1, none⟩ = some (.slice (some ⟨g, 0, none⟩) l.length c) ∧ W4.cell? ⟨W.heap.size, 0, none⟩ = some (.int .i64 cn.op) ∧ W4.cell? ⟨W.heap.size, 1, none⟩ = some (.int .i64 cn.i) ∧ W4.cell? ⟨W.heap.size, 2, none⟩ = some (.int .i64 cn.e) ∧ W4.cell? ⟨W.heap.size, 3, none⟩ = some (.int .i64 cn.g) ∧ W4.cell? ⟨W.heap.size, 4, none⟩ = some (.int .i64 cn.x) ∧ W4.cell? ⟨W.heap.size, 5, none⟩ = some (.int .i64 cn.y)) ∧ ∀ u, (W4.setCell ⟨g, i, none⟩ u).cell? ⟨wb, 1, none⟩ = some (.slice (some ⟨g, 0, none⟩) l.length c) ∧ (W4.setCell ⟨g, i, none⟩ u).cell? ⟨W.heap.size, 0, none⟩ = some (.int .i64 cn.op) ∧ (W4.setCell ⟨g, i, none⟩ u).cell? ⟨W.heap.size, 1, none⟩ = some (.int .i64 cn.i) ∧ (W4.setCell ⟨g, i, none⟩ u).cell? ⟨W.heap.size, 2, none⟩ = some (.int .i64 cn.e) ∧ (W4.setCell ⟨g, i, none⟩ u).cell? ⟨W.heap.size, 3, none⟩ = some (.int .i64 cn.g) ∧ (W4.setCell ⟨g, i, none⟩ u).cell? ⟨W.heap.size, 4, none⟩ = some (.int .i64 cn.x) ∧ (W4.setCell ⟨g, i, none⟩ u).cell? ⟨W.heap.size, 5, none⟩ = some (.int .i64 cn.y)) := by
    intro W4 v4 hR hF
    have hx := HXD.out.keep (hF.keep W.heap.size hxD hwx hgx HB1.out)
    obtain ⟨y0, y1, y2, y3, y4, y5⟩ := hx
    simp only [Nat.zero_add] at y1 y2 y3 y4 y5
    refine ⟨⟨hR.cd, y0, y1, y2, y3, y4, y5⟩, fun u => ?_⟩
    refine ⟨?_, ?_, ?_, ?_, ?_, ?_, ?_⟩
    · rw [World.cell?_setCell_other _ _ _ _ (by simp)]; exact hR.cd
    all_goals (rw [World.cell?_setCell_other _ _ _ _ (by simp)]; assumption)
  go_wp2_with fail
  go_region_held3 (fun w' => w'.cell? ⟨wb, 1, none⟩ = some (.slice (some ⟨g, 0, none⟩) l.length c) ∧ w'.cell? ⟨W.heap.size, 0, none⟩ = some (.int .i64 cn.op) ∧ w'.cell? ⟨W.heap.size, 1, none⟩ = some (.int .i64 cn.i) ∧ w'.cell? ⟨W.heap.size, 2, none⟩ = some (.int .i64 cn.e) ∧ w'.cell? ⟨W.heap.size, 3, none⟩ = some (.int .i64 cn.g) ∧ w'.cell? ⟨W.heap.size, 4, none⟩ = some (.int .i64 cn.x) ∧ w'.cell? ⟨W.heap.size, 5, none⟩ = some (.int .i64 cn.y)) (first | go_keep | exact k4 | exact k5 _)
    (first | (go_at_call 190; refine (r5put_any HRD.out hl cn HK.out HOK.out HRG.out HN.out).mono ?_; rintro e W4 ⟨v4, rfl, hR4, hF4⟩; obtain ⟨k4, k5⟩ := HC4.out _ _ hR4 hF4; have c4 := hR4.dn.cell hi; have f4 := hR4.dn.frozen i; have HR4 := Lib.hid hR4; have HF4 := Lib.hid hF4; clear hR4 hF4))
  all_goals
    obtain ⟨z0, -⟩ := k5 (.int .i64 (idx (put (trAt l i) (addT (trAt l kx) L)) (trAt l i) : Int))
    have z1 := World.cell?_setCell_same W4 ⟨g, i, none⟩ (.int .i64 (idx (put (trAt l i) (addT (trAt l kx) L)) (trAt l i) : Int)) c4
    clear k4 k5
    go_wp2
    go_ret
    refine ⟨v4, D1.set i (idx (put (trAt l i) (addT (trAt l kx) L)) (trAt l i) : Int), ?_, ?_, ?_⟩
    · rw [HA.out]; rfl
    · rw [HA.out]; exact (HR4.out.mark hi (put_mem _ _)).1
    · exact (HFD.out.trans HF4.out).trans (HR4.out.mark hi (put_mem _ _)).2
set_option maxRecDepth 20000 in
set_option maxHeartbeats 4000000 in
theorem r5finish_bin {w : World} {wb g c : Nat} {fa : Option Addr} {fc : Nat} {l : List Nd} {W : World} {L : List Fm} {v : Value} {D : List Int} (hr : RN w fa l) (hw : Wf l) (h : RS w wb g c l W L v D) (i : Nat) (hi : i < l.length) (hD : nth D i = -1) (hl : l.length ≤ 1000)
    (hux : (useOf (nth l i).op).1.x = true) (huy : (useOf (nth l i).op).1.y = true) (ihx : FinR w wb g c fa fc l (nth l i).x.toNat) (ihy : FinR w wb g c fa fc l (nth l i).y.toNat) :
    Calls Tryz.prog 165 #[.slice fa l.length fc, .int .i64 (i : Int), .pointer (some ⟨wb, 0, none⟩)] W (FinRPost w wb g c l i W L v D) := by
  have hok : fok (trAt l i) := fok_trAt hw _ i (Nat.lt_succ_self i) hi
  have hrange : trAt l i ∈ (List.range l.length).map (trAt l) := List.mem_map.2 ⟨i, by simpa using hi, rfl⟩
  obtain ⟨hx0, hxl⟩ := hw.x_lt hi hux
  obtain ⟨kx, hkx⟩ := Int.eq_ofNat_of_zero_le hx0
  obtain ⟨hy0, hyl⟩ := hw.y_lt hi huy
  obtain ⟨ky, hky⟩ := Int.eq_ofNat_of_zero_le hy0
  have ht := trAt_bin hw hi huy
  rw [hkx, hky, Int.toNat_natCast, Int.toNat_natCast] at ht
  rw [hkx, Int.toNat_natCast] at ihx hxl
  rw [hky, Int.toNat_natCast] at ihy hyl
  have hnd : ndOf (addT (trAt l ky) (addT (trAt l kx) L)) (trAt l i) = { (nth l i) with x := (idx (addT (trAt l kx) L) (trAt l kx) : Int), y := (idx (addT (trAt l ky) (addT (trAt l kx) L)) (trAt l ky) : Int) } := by
    rw [ht]
    have e1 : idx (addT (trAt l ky) (addT (trAt l kx) L)) (trAt l kx) = idx (addT (trAt l kx) L) (trAt l kx) := by
      obtain ⟨M, hM⟩ := addT_pre (trAt l ky) (addT (trAt l kx) L)
      rw [hM, idx_append (addT_mem _ _)]
    show (⟨_, _, _, _, (idx _ (trAt l kx) : Int), _⟩ : Nd) = _
    rw [e1]
  have hkid : ∀ c, kid c (trAt l i) → c ∈ addT (trAt l ky) (addT (trAt l kx) L) := fun c h => by
    rw [ht] at h
    rcases (show c = trAt l kx ∨ c = trAt l ky from h) with rfl | rfl
    · exact addT_sub (addT_mem _ _)
    · exact addT_mem _ _
  have hadd : addT (trAt l i) L = put (trAt l i) (addT (trAt l ky) (addT (trAt l kx) L)) := by rw [ht]; rfl
  have HKY := Lib.hid hky
  have Hihy := Lib.hid ihy
  clear hky hy0 ihy
  have HKX := Lib.hid hkx
  have Hihx := Lib.hid ihx
  clear hkx hx0 ihx
  have c1 := h.cd
  have c2 := h.dn.cell hi
  rw [hD] at c2
  have HUX := Lib.hid hux
  have HUY := Lib.hid huy
  have HOK := Lib.hid hok
  have HRG := Lib.hid hrange
  have HN := Lib.hid hnd
  have HA := Lib.hid hadd
  have HK := Lib.hid hkid
  clear ht
  have hwbW := h.hi
  have hgW := h.gb
  have hlo := h.lo
  have HB0 : Hid (some W.heap.size ≠ v.ownBlock) := fun e => by have := (h.vb _ e.symm).2; omega
  have HR0 := Lib.hid (h.ext' ((Ext.refl W).alloc (.cells #[.int .i64 (nth l i).op, .int .i64 (nth l i).i, .int .i64 (nth l i).e, .int .i64 (nth l i).g, .int .i64 (nth l i).x, .int .i64 (nth l i).y] 109)))
  have HF0 := Lib.hid ((FR.refl wb g v W).ext ((Ext.refl W).alloc (.cells #[.int .i64 (nth l i).op, .int .i64 (nth l i).i, .int .i64 (nth l i).e, .int .i64 (nth l i).g, .int .i64 (nth l i).x, .int .i64 (nth l i).y] 109)))
  have HX0 := Lib.hid (NdAt.new W (nth l i) 109)
  obtain ⟨b, off, rfl, hb, n0, n1, n2, n3, n4, n5⟩ := (hr.ext h.ext).get hi
  have HRN := Lib.hid hr
  clear hr hw h hD hux huy hok hrange hnd hadd hkid
  have hfzx0 : ∀ o, (W.alloc (.cells #[.int .i64 (nth l i).op, .int .i64 (nth l i).i, .int .i64 (nth l i).e, .int .i64 (nth l i).g, .int .i64 (nth l i).x, .int .i64 (nth l i).y] 109)).frozen? ⟨W.heap.size, o, none⟩ = false := fun o => by simp
  have hxlt0 : W.heap.size < (W.alloc (.cells #[.int .i64 (nth l i).op, .int .i64 (nth l i).i, .int .i64 (nth l i).e, .int .i64 (nth l i).g, .int .i64 (nth l i).x, .int .i64 (nth l i).y] 109)).heap.size := by simp
  go_enter Tryz.func165, Tryz.ntmps165
  go_wp2_with fail
  refine (r5X_any _ _).mono ?_
  rintro _ _ ⟨rfl, rfl⟩
  rw [HUX.out]
  dsimp only
  generalize W.alloc (.cells #[.int .i64 (nth l i).op, .int .i64 (nth l i).i, .int .i64 (nth l i).e, .int .i64 (nth l i).g, .int .i64 (nth l i).x, .int .i64 (nth l i).y] 109) = W1 at *
  clear c1 c2 n0 n1 n2 n3 n4 n5
  obtain ⟨x0, x1, x2, x3, x4, x5⟩ := HX0.out
  simp only [Nat.zero_add] at x1 x2 x3 x4 x5
  obtain ⟨b', off', hbe, hb', n0, n1, n2, n3, n4, n5⟩ := (HRN.out.ext HR0.out.ext).get hi
  simp only [Option.some.injEq, Addr.mk.injEq] at hbe
  obtain ⟨rfl, rfl, -⟩ := hbe
  rw [HKX.out] at n4
  go_wp2_with fail
  refine (Hihx.out _ _ _ _ HR0.out).mono ?_
  rintro e W2 ⟨v1, D1, rfl, hR, hF⟩
  dsimp only
  have HRa := Lib.hid hR
  have HFa := Lib.hid hF
  have hkx := hF.keep W.heap.size hxlt0 (by omega) (by omega) HB0.out
  have HB1 : Hid (some W.heap.size ≠ v1.ownBlock) := hF.xb hxlt0 HB0.out
  have hxa := HX0.out.keep hkx
  have hfa : ∀ o, W2.frozen? ⟨W.heap.size, o, none⟩ = false := fun o => by
    rw [World.frozen?_of_block hkx]; exact hfzx0 o
  have hxlta : W.heap.size < W2.heap.size := by have := hF.size; omega
  have HXa := Lib.hid hxa
  clear hR hF x0 x1 x2 x3 x4 x5 n0 n1 n2 n3 n4 n5 hkx hfzx0
  obtain ⟨x0, x1, x2, x3, x4, x5⟩ := hxa
  simp only [Nat.zero_add] at x1 x2 x3 x4 x5
  go_wp2_with fail
  refine (r5Y_any _ _).mono ?_
  rintro _ _ ⟨rfl, rfl⟩
  rw [HUY.out]
  dsimp only
  have HR1 : Hid (RS w wb g c l (W2.setCell ⟨W.heap.size, 4, none⟩ (.int .i64 (idx (addT (trAt l kx) L) (trAt l kx) : Int))) (addT (trAt l kx) L) v1 D1) := HRa.out.setBox (by omega) (by omega) (by omega) HB1.out _ _
  have HF1 : Hid (FR wb g v W (W2.setCell ⟨W.heap.size, 4, none⟩ (.int .i64 (idx (addT (trAt l kx) L) (trAt l kx) : Int))) v1) := (HF0.out.trans HFa.out).setNew (Nat.le_refl _) _ _
  have HX1 : Hid (NdAt (W2.setCell ⟨W.heap.size, 4, none⟩ (.int .i64 (idx (addT (trAt l kx) L) (trAt l kx) : Int))) W.heap.size 0 { (nth l i) with x := (idx (addT (trAt l kx) L) (trAt l kx) : Int) }) := HXa.out.setX _
  have hfzx1 : ∀ o, (W2.setCell ⟨W.heap.size, 4, none⟩ (.int .i64 (idx (addT (trAt l kx) L) (trAt l kx) : Int))).frozen? ⟨W.heap.size, o, none⟩ = false := fun o => by rw [World.frozen?_setCell]; exact hfa o
  have hxlt1 : W.heap.size < (W2.setCell ⟨W.heap.size, 4, none⟩ (.int .i64 (idx (addT (trAt l kx) L) (trAt l kx) : Int))).heap.size := by simpa [World.setCell] using hxlta
  generalize (W2.setCell ⟨W.heap.size, 4, none⟩ (.int .i64 (idx (addT (trAt l kx) L) (trAt l kx) : Int))) = V1 at *
  clear x0 x1 x2 x3 x4 x5 HRa HFa HXa hfa hxlta
  obtain ⟨x0, x1, x2, x3, x4, x5⟩ := HX1.out
  simp only [Nat.zero_add] at x1 x2 x3 x4 x5
  obtain ⟨b', off', hbe, hb', n0, n1, n2, n3, n4, n5⟩ := (HRN.out.ext HR1.out.ext).get hi
  simp only [Option.some.injEq, Addr.mk.injEq] at hbe
  obtain ⟨rfl, rfl, -⟩ := hbe
  rw [HKY.out] at n5
  go_wp2_with fail
  refine (Hihy.out _ _ _ _ HR1.out).mono ?_
  rintro e W3 ⟨v2, D2, rfl, hR, hF⟩
  dsimp only
  have HRa := Lib.hid hR
  have HFa := Lib.hid hF
  have hkx := hF.keep W.heap.size hxlt1 (by omega) (by omega) HB1.out
  have HB2 : Hid (some W.heap.size ≠ v2.ownBlock) := hF.xb hxlt1 HB1.out
  have hxa := HX1.out.keep hkx
  have hfa : ∀ o, W3.frozen? ⟨W.heap.size, o, none⟩ = false := fun o => by
    rw [World.frozen?_of_block hkx]; exact hfzx1 o
  have hxlta : W.heap.size < W3.heap.size := by have := hF.size; omega
  have HXa := Lib.hid hxa
  clear hR hF x0 x1 x2 x3 x4 x5 n0 n1 n2 n3 n4 n5 hkx hfzx1
  obtain ⟨x0, x1, x2, x3, x4, x5⟩ := hxa
  simp only [Nat.zero_add] at x1 x2 x3 x4 x5
  go_wp2_with fail
  have HR2 : Hid (RS w wb g c l (W3.setCell ⟨W.heap.size, 5, none⟩ (.int .i64 (idx (addT (trAt l ky) (addT (trAt l kx) L)) (trAt l ky) : Int))) (addT (trAt l ky) (addT (trAt l kx) L)) v2 D2) := HRa.out.setBox (by omega) (by omega) (by omega) HB2.out _ _
  have HF2 : Hid (FR wb g v W (W3.setCell ⟨W.heap.size, 5, none⟩ (.int .i64 (idx (addT (trAt l ky) (addT (trAt l kx) L)) (trAt l ky) : Int))) v2) := (HF1.out.trans HFa.out).setNew (Nat.le_refl _) _ _
  have HX2 : Hid (NdAt (W3.setCell ⟨W.heap.size, 5, none⟩ (.int .i64 (idx (addT (trAt l ky) (addT (trAt l kx) L)) (trAt l ky) : Int))) W.heap.size 0 { (nth l i) with x := (idx (addT (trAt l kx) L) (trAt l kx) : Int), y := (idx (addT (trAt l ky) (addT (trAt l kx) L)) (trAt l ky) : Int) }) := HXa.out.setY _
  have hfzx2 : ∀ o, (W3.setCell ⟨W.heap.size, 5, none⟩ (.int .i64 (idx (addT (trAt l ky) (addT (trAt l kx) L)) (trAt l ky) : Int))).frozen? ⟨W.heap.size, o, none⟩ = false := fun o => by rw [World.frozen?_setCell]; exact hfa o
  have hxlt2 : W.heap.size < (W3.setCell ⟨W.heap.size, 5, none⟩ (.int .i64 (idx (addT (trAt l ky) (addT (trAt l kx) L)) (trAt l ky) : Int))).heap.size := by simpa [World.setCell] using hxlta
  generalize (W3.setCell ⟨W.heap.size, 5, none⟩ (.int .i64 (idx (addT (trAt l ky) (addT (trAt l kx) L)) (trAt l ky) : Int))) = V2 at *
  clear x0 x1 x2 x3 x4 x5 HRa HFa HXa hfa hxlta
  obtain ⟨x0, x1, x2, x3, x4, x5⟩ := HX2.out
  simp only [Nat.zero_add] at x1 x2 x3 x4 x5
  have c1 := HR2.out.cd
  have hi0 : (0 : Int) ≤ (i : Int) := by omega
  have hi1 : (i : Int) < (l.length : Int) := by omega
  have hgw : wb ≠ g := by omega
  have hgx : W.heap.size ≠ g := by omega
  have hwx : W.heap.size ≠ wb := by omega
  have HRD := Lib.hid (HR2.out.ext' ((Ext.refl V2).drew))
  have HXD := Lib.hid (HX2.out.ext ((Ext.refl V2).drew))
  have HFD := Lib.hid (HF2.out.ext ((Ext.refl V2).drew))
  have hxD : W.heap.size < V2.drew.heap.size := hxlt2
  clear x0 x1 x2 x3 x4 x5
  generalize hcn : ({ (nth l i) with x := (idx (addT (trAt l kx) L) (trAt l kx) : Int), y := (idx (addT (trAt l ky) (addT (trAt l kx) L)) (trAt l ky) : Int) } : Nd) = cn at *
  obtain ⟨x0, x1, x2, x3, x4, x5⟩ := HX2.out
  simp only [Nat.zero_add] at x1 x2 x3 x4 x5
  have HC4 : Hid (∀ W4 v4, RS w wb g c l W4 (put (trAt l i) (addT (trAt l ky) (addT (trAt l kx) L))) v4 D2 → FR wb g v2 V2.drew W4 v4 → (W4.cell? ⟨wb, 1, none⟩ = some (.slice (some ⟨g, 0, none⟩) l.length c) ∧ W4.cell? ⟨W.heap.size, 0, none⟩ = some (.int .i64 cn.op) ∧ W4.cell? ⟨W.heap.size, 1, none⟩ = some (.int .i64 cn.i) ∧ W4.cell? ⟨W.heap.size, 2, none⟩ = some (.int .i64 cn.e) ∧ W4.cell? ⟨W.heap.size, 3, none⟩ = some (.int .i64 cn.g) ∧ W4.cell? ⟨W.heap.size, 4, none⟩ = some (.int .i64 cn.x) ∧ W4.cell? ⟨W.heap.size, 5, none⟩ = some (.int .i64 cn.y)) ∧ ∀ u, (W4.setCell ⟨g, i, none⟩ u).cell? ⟨wb, 1, none⟩ = some (.slice (some ⟨g, 0, none⟩) l.length c) ∧ (W4.setCell ⟨g, i, none⟩ u).cell? ⟨W.heap.size, 0, none⟩ = some (.int .i64 cn.op) ∧ (W4.setCell ⟨g, i, none⟩ u).cell? ⟨W.heap.size, 1, none⟩ = some (.int .i64 cn.i) ∧ (W4.setCell ⟨g, i, none⟩ u).cell? ⟨W.heap.size, 2, none⟩ = some (.int .i64 cn.e) ∧ (W4.setCell ⟨g, i, none⟩ u).cell? ⟨W.heap.size, 3, none⟩ = some (.int .i64 cn.g) ∧ (W4.setCell ⟨g, i, none⟩ u).cell? ⟨W.heap.size, 4, none⟩ = some (.int .i64 cn.x) ∧ (W4.setCell ⟨g, i, none⟩ u).cell? ⟨W.heap.size, 5, none⟩ = some (.int .i64 cn.y)) := by
    intro W4 v4 hR hF
    have hx := HXD.out.keep (hF.keep W.heap.size hxD hwx hgx HB2.out)
    obtain ⟨y0, y1, y2, y3, y4, y5⟩ := hx
    simp only [Nat.zero_add] at y1 y2 y3 y4 y5
    refine ⟨⟨hR.cd, y0, y1, y2, y3, y4, y5⟩, fun u => ?_⟩
    refine ⟨?_, ?_, ?_, ?_, ?_, ?_, ?_⟩
    · rw [World.cell?_setCell_other _ _ _ _ (by simp)]; exact hR.cd
    all_goals (rw [World.cell?_setCell_other _ _ _ _ (by simp)]; assumption)
  go_wp2_with fail
  go_region_held3 (fun w' => w'.cell? ⟨wb, 1, none⟩ = some (.slice (some ⟨g, 0, none⟩) l.length c) ∧ w'.cell? ⟨W.heap.size, 0, none⟩ = some (.int .i64 cn.op) ∧ w'.cell? ⟨W.heap.size, 1, none⟩ = some (.int .i64 cn.i) ∧ w'.cell? ⟨W.heap.size, 2, none⟩ = some (.int .i64 cn.e) ∧ w'.cell? ⟨W.heap.size, 3, none⟩ = some (.int .i64 cn.g) ∧ w'.cell? ⟨W.heap.size, 4, none⟩ = some (.int .i64 cn.x) ∧ w'.cell? ⟨W.heap.size, 5, none⟩ = some (.int .i64 cn.y)) (first | go_keep | exact k4 | exact k5 _)
    (first | (go_at_call 190; refine (r5put_any HRD.out hl cn HK.out HOK.out HRG.out HN.out).mono ?_; rintro e W4 ⟨v4, rfl, hR4, hF4⟩; obtain ⟨k4, k5⟩ := HC4.out _ _ hR4 hF4; have c4 := hR4.dn.cell hi; have f4 := hR4.dn.frozen i; have HR4 := Lib.hid hR4; have HF4 := Lib.hid hF4; clear hR4 hF4))
  all_goals
    obtain ⟨z0, -⟩ := k5 (.int .i64 (idx (put (trAt l i) (addT (trAt l ky) (addT (trAt l kx) L))) (trAt l i) : Int))
    have z1 := World.cell?_setCell_same W4 ⟨g, i, none⟩ (.int .i64 (idx (put (trAt l i) (addT (trAt l ky) (addT (trAt l kx) L))) (trAt l i) : Int)) c4
    clear k4 k5
    go_wp2
    go_ret
    refine ⟨v4, D2.set i (idx (put (trAt l i) (addT (trAt l ky) (addT (trAt l kx) L))) (trAt l i) : Int), ?_, ?_, ?_⟩
    · rw [HA.out]; rfl
    · rw [HA.out]; exact (HR4.out.mark hi (put_mem _ _)).1
    · exact (HFD.out.trans HF4.out).trans (HR4.out.mark hi (put_mem _ _)).2
/-- What a call of finish does, at any node. -/
theorem r5finish_any {w : World} {wb g c : Nat} {fa : Option Addr} {fc : Nat} {l : List Nd} (hr : RN w fa l) (hw : Wf l) (hl : l.length ≤ 1000) : ∀ n i, i < n → i < l.length → FinR w wb g c fa fc l i
  | 0, _, h, _ => absurd h (Nat.not_lt_zero _)
  | n + 1, i, hn, hi => by
    intro W L v D hc
    by_cases hD : nth D i = -1
    · cases hx : (useOf (nth l i).op).1.x
      · have hy : (useOf (nth l i).op).1.y = false := by
          cases hy : (useOf (nth l i).op).1.y
          · rfl
          · have := useOf_yx (nth l i).op hy
            rw [hx] at this; cases this
        exact r5finish_leaf hr hw hc i hi hD hl hx hy
      · have hxl := (hw.x_lt hi hx).2
        cases hy : (useOf (nth l i).op).1.y
        · exact r5finish_un hr hw hc i hi hD hl hx hy (r5finish_any hr hw hl n _ (by omega) (by omega))
        · have hyl := (hw.y_lt hi hy).2
          exact r5finish_bin hr hw hc i hi hD hl hx hy (r5finish_any hr hw hl n _ (by omega) (by omega)) (r5finish_any hr hw hl n _ (by omega) (by omega))
    · exact r5finish_done hc i hi hD hl
end Wt
