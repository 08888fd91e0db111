/- Walks: wittingref17.Box, Paths, common, Boolean. -/
import Derived.Test.YtbeaagnahldefaaGreatDoorM9Ah
import Derived.Test.YtbeaagnahldefaaGreatDoorM9Aj
import Derived.Test.YtbeaagnahldefaaGreatDoorM9Ag
import Derived.Test.YtbeaagnahldefaaGreatDoorM9Aq
namespace Wt
open Go Go.RowKit Go.Proofs

set_option maxHeartbeats 1000000 in
theorem r17Box_any (a : Option Addr) (r : List (BitVec 64)) (c n : Nat) (s : BitVec 64) (w : World) (hr : RU w a r) (hn : n ≤ r.length) (h64 : n ≤ 64) :
    Calls Tryz.prog 103 #[.slice a r.length c, .int .i64 (n : Int), .int .u64 (un s)] w fun e w' => e = .returned (.int .u64 (un (boxTo r s n))) ∧ w = w' := by
  have hl := hr.len
  go_enter Tryz.func103, Tryz.ntmps103
  go_wp2
  go_loop [7, 8] (fun o i => ∃ k : Nat, k ≤ n ∧ i = .int .i64 k ∧ o = .int .u64 (un (boxTo r s k))) (fun _ i => n - (intOf i).toNat)
  case atStart => exact ⟨0, Nat.zero_le _, rfl, rfl⟩
  case round =>
    obtain ⟨k, hk, rfl, rfl⟩ := hrel
    by_cases hlt : k < n
    · obtain ⟨b, off, rfl, hb, hc⟩ := hr.get (k := k) (by omega)
      by_cases hq : (nth r k &&& ~~~ s) = 0#64
      · have hs : boxTo r s (k + 1) = boxTo r s k ||| 1#64 <<< k := if_pos hq
        have HS := Lib.hid hs
        have hq2 : ((nth r k &&& ~~~ s) == 0#64) = true := by simp [hq]
        clear hq hs
        go_wp2
        go_round
        case rel => exact ⟨k + 1, hlt, by go_num, by rw [HS.out]⟩
        case measure => simp [intOf]; omega
      · have hs : boxTo r s (k + 1) = boxTo r s k := if_neg hq
        have HS := Lib.hid hs
        have hq2 : ((nth r k &&& ~~~ s) == 0#64) = false := by simp [hq]
        clear hq hs
        go_wp2
        go_round
        case rel => exact ⟨k + 1, hlt, by go_num, by rw [HS.out]⟩
        case measure => simp [intOf]; omega
    · obtain rfl : k = n := by omega
      go_wp2
      go_ret
      exact ⟨rfl, rfl⟩
/-- The inner rounds of Paths. -/
def pIn (r : List (BitVec 64)) (c : BitVec 64) : Nat → BitVec 64 → BitVec 64
  | 0, s => s
  | k + 1, s => if bt (pIn r c k s) k then pIn r c k s ||| (nth r k &&& c) else pIn r c k s
theorem pIn_yes {r : List (BitVec 64)} {c : BitVec 64} {q : Nat} {S : BitVec 64} (h : bt (pIn r c q S) q = true) : pIn r c (q + 1) S = pIn r c q S ||| (nth r q &&& c) := by
  show (if bt (pIn r c q S) q then _ else _) = _
  rw [if_pos h]
theorem pIn_no {r : List (BitVec 64)} {c : BitVec 64} {q : Nat} {S : BitVec 64} (h : bt (pIn r c q S) q = false) : pIn r c (q + 1) S = pIn r c q S := by
  show (if bt (pIn r c q S) q then _ else _) = _
  rw [if_neg (by simp [h])]
def pOut (r : List (BitVec 64)) (n : Nat) (c s : BitVec 64) : Nat → BitVec 64
  | 0 => s
  | i + 1 => pIn r c n (pOut r n c s i)
def paths (r : List (BitVec 64)) (n k : Nat) (c : BitVec 64) : BitVec 64 := pOut r n c (nth r k &&& c) n
set_option maxHeartbeats 1000000 in
theorem r17Paths_any (a : Option Addr) (r : List (BitVec 64)) (rc n k : Nat) (c : BitVec 64) (w : World) (hr : RU w a r) (hn : n ≤ r.length) (h64 : n ≤ 64) (hk : k < n) :
    Calls Tryz.prog 134 #[.slice a r.length rc, .int .i64 (n : Int), .int .i64 (k : Int), .int .u64 (un c)] w fun e w' => e = .returned (.int .u64 (un (paths r n k c))) ∧ w = w' := by
  have hl := hr.len
  obtain ⟨b, off, rfl, hb, hc⟩ := hr.get (k := k) (by omega)
  have HR := Lib.hid hr
  clear hr
  go_enter Tryz.func134, Tryz.ntmps134
  go_wp2
  go_loop [9, 10] (fun o i => ∃ j : Nat, j ≤ n ∧ i = .int .i64 j ∧ o = .int .u64 (un (pOut r n c (nth r k &&& c) j))) (fun _ i => n - (intOf i).toNat)
  case atStart => exact ⟨0, Nat.zero_le _, rfl, rfl⟩
  case round =>
    obtain ⟨j, hj, rfl, rfl⟩ := hrel
    by_cases hlt : j < n
    · generalize hS : pOut r n c (nth r k &&& c) j = S
      have HS := Lib.hid hS
      clear hS
      go_wp2
      go_loop [9, 11] (fun o i => ∃ q : Nat, q ≤ n ∧ i = .int .i64 q ∧ o = .int .u64 (un (pIn r c q S))) (fun _ i => n - (intOf i).toNat)
      case atStart => exact ⟨0, Nat.zero_le _, rfl, rfl⟩
      case round =>
        obtain ⟨q, hq, rfl, rfl⟩ := hrel
        by_cases hql : q < n
        · obtain ⟨b', off', hbe, hb', hcq⟩ := HR.out.get (k := q) (by omega)
          simp only [Option.some.injEq, Addr.mk.injEq] at hbe
          obtain ⟨rfl, rfl, -⟩ := hbe
          cases hbt : bt (pIn r c q S) q
          · have hs : pIn r c (q + 1) S = pIn r c q S := pIn_no hbt
            have HP := Lib.hid hs
            have hh : hasW (pIn r c q S) (q : Int) = false := by simpa [hasW] using hbt
            have HH := Lib.hid hh
            clear hs hh hbt
            go_wp2_with (go_at_call 155; refine (r13Has_any _ _ _).mono ?_; rintro _ _ ⟨rfl, rfl⟩; rw [HH.out])
            go_round
            case rel => exact ⟨q + 1, hql, by go_num, by rw [HP.out]⟩
            case measure => simp [intOf]; omega
          · have hs : pIn r c (q + 1) S = pIn r c q S ||| (nth r q &&& c) := pIn_yes hbt
            have HP := Lib.hid hs
            have hh : hasW (pIn r c q S) (q : Int) = true := by simpa [hasW] using hbt
            have HH := Lib.hid hh
            clear hs hh hbt
            go_wp2_with (go_at_call 155; refine (r13Has_any _ _ _).mono ?_; rintro _ _ ⟨rfl, rfl⟩; rw [HH.out])
            go_round
            case rel => exact ⟨q + 1, hql, by go_num, by rw [HP.out]⟩
            case measure => simp [intOf]; omega
        · obtain rfl : q = n := by omega
          go_wp2
          go_round
          case rel => exact ⟨j + 1, hlt, by go_num, by rw [← HS.out]; rfl⟩
          case measure => simp [intOf]; omega
    · obtain rfl : j = n := by omega
      go_wp2
      go_ret
      exact ⟨rfl, rfl⟩
/-- The worlds below k from which all paths through a condition lead to a set. -/
def comTo (r : List (BitVec 64)) (n : Nat) (c s : BitVec 64) : Nat → BitVec 64
  | 0 => 0#64
  | k + 1 => if (paths r n k c &&& ~~~ s) = 0#64 then comTo r n c s k ||| 1#64 <<< k else comTo r n c s k
set_option maxHeartbeats 1000000 in
theorem r17common_any (a : Option Addr) (r : List (BitVec 64)) (rc n : Nat) (c s : BitVec 64) (w : World) (hr : RU w a r) (hn : n ≤ r.length) (h64 : n ≤ 64) :
    Calls Tryz.prog 106 #[.slice a r.length rc, .int .i64 (n : Int), .int .u64 (un c), .int .u64 (un s)] w fun e w' => e = .returned (.int .u64 (un (comTo r n c s n))) ∧ w = w' := by
  have hl := hr.len
  go_enter Tryz.func106, Tryz.ntmps106
  go_wp2
  go_loop [9, 10] (fun o i => ∃ k : Nat, k ≤ n ∧ i = .int .i64 k ∧ o = .int .u64 (un (comTo r n c s k))) (fun _ i => n - (intOf i).toNat)
  case atStart => exact ⟨0, Nat.zero_le _, rfl, rfl⟩
  case round =>
    obtain ⟨k, hk, rfl, rfl⟩ := hrel
    by_cases hlt : k < n
    · by_cases hq : (paths r n k c &&& ~~~ s) = 0#64
      · have hs : comTo r n c s (k + 1) = comTo r n c s k ||| 1#64 <<< k := if_pos hq
        have HS := Lib.hid hs
        have hq2 : ((paths r n k c &&& ~~~ s) == 0#64) = true := by simp [hq]
        clear hq hs
        go_wp2_with (go_at_call 134; refine (r17Paths_any a r rc n k c _ hr hn h64 hlt).mono ?_; rintro _ _ ⟨rfl, rfl⟩)
        go_round
        case rel => exact ⟨k + 1, hlt, by go_num, by rw [HS.out]⟩
        case measure => simp [intOf]; omega
      · have hs : comTo r n c s (k + 1) = comTo r n c s k := if_neg hq
        have HS := Lib.hid hs
        have hq2 : ((paths r n k c &&& ~~~ s) == 0#64) = false := by simp [hq]
        clear hq hs
        go_wp2_with (go_at_call 134; refine (r17Paths_any a r rc n k c _ hr hn h64 hlt).mono ?_; rintro _ _ ⟨rfl, rfl⟩)
        go_round
        case rel => exact ⟨k + 1, hlt, by go_num, by rw [HS.out]⟩
        case measure => simp [intOf]; omega
    · obtain rfl : k = n := by omega
      go_wp2
      go_ret
      exact ⟨rfl, rfl⟩
/-- The set of a propositional node. -/
def boolN (o : Int) (x y all : BitVec 64) : BitVec 64 :=
  if o = 1 then all else if o = 4 then all &&& ~~~ x else if o = 5 then x &&& y else if o = 6 then x ||| y else if o = 7 then (all &&& ~~~ x) ||| y else if o = 8 then all &&& ~~~ (x ^^^ y) else 0#64
set_option maxHeartbeats 1000000 in
theorem r17Boolean_any (o : Int) (x y all : BitVec 64) (w : World) :
    Calls Tryz.prog 102 #[.int .i64 o, .int .u64 (un x), .int .u64 (un y), .int .u64 (un all)] w fun e w' => e = .returned (.int .u64 (un (boolN o x y all))) ∧ w = w' := by
  by_cases h1 : o = 1
  · subst h1; go_enter Tryz.func102, Tryz.ntmps102; go_wp2; go_ret; exact ⟨rfl, rfl⟩
  by_cases h4 : o = 4
  · subst h4; go_enter Tryz.func102, Tryz.ntmps102; go_wp2; go_ret; exact ⟨rfl, rfl⟩
  by_cases h5 : o = 5
  · subst h5; go_enter Tryz.func102, Tryz.ntmps102; go_wp2; go_ret; exact ⟨rfl, rfl⟩
  by_cases h6 : o = 6
  · subst h6; go_enter Tryz.func102, Tryz.ntmps102; go_wp2; go_ret; exact ⟨rfl, rfl⟩
  by_cases h7 : o = 7
  · subst h7; go_enter Tryz.func102, Tryz.ntmps102; go_wp2; go_ret; exact ⟨rfl, rfl⟩
  by_cases h8 : o = 8
  · subst h8; go_enter Tryz.func102, Tryz.ntmps102; go_wp2; go_ret; exact ⟨rfl, rfl⟩
  have hv : boolN o x y all = 0#64 := by simp [boolN, h1, h4, h5, h6, h7, h8]
  have HV := Lib.hid hv
  have e1 : (o == 1) = false := by simp [h1]
  have e4 : (o == 4) = false := by simp [h4]
  have e5 : (o == 5) = false := by simp [h5]
  have e6 : (o == 6) = false := by simp [h6]
  have e7 : (o == 7) = false := by simp [h7]
  have e8 : (o == 8) = false := by simp [h8]
  clear hv h1 h4 h5 h6 h7 h8
  go_enter Tryz.func102, Tryz.ntmps102
  go_wp2
  go_ret
  exact ⟨by rw [HV.out]; rfl, rfl⟩
end Wt

/- Plain laws: common knowledge by paths; boxes; a tree's set is there exactly if its fragments and its agents and facts fit. -/
namespace Wt
open Fm

section
variable {r : List (BitVec 64)} {c s : BitVec 64} {n : Nat}
theorem pIn_sup : ∀ k, Sub s (pIn r c k s)
  | 0 => Sub.refl _
  | k + 1 => by
    rcases h : bt (pIn r c k s) k with _ | _
    · rw [pIn_no h]; exact pIn_sup k
    · rw [pIn_yes h]; exact (pIn_sup k).trans (Sub.orL _ _)
theorem pIn_step (k : Nat) : Sub (pIn r c k s) (pIn r c (k + 1) s) := by
  rcases h : bt (pIn r c k s) k with _ | _
  · rw [pIn_no h]; exact Sub.refl _
  · rw [pIn_yes h]; exact Sub.orL _ _
theorem pIn_mono (j : Nat) : ∀ d, Sub (pIn r c j s) (pIn r c (j + d) s)
  | 0 => Sub.refl _
  | d + 1 => (pIn_mono j d).trans (pIn_step (j + d))
theorem pIn_inv {X : BitVec 64} {m : Nat} (hm : m ≤ 64) (hX : ∀ v, v < m → bt X v = true → Sub (nth r v &&& c) X) (h0 : Sub s X) : ∀ k, k ≤ m → Sub (pIn r c k s) X
  | 0, _ => h0
  | k + 1, hk => by
    have ih := pIn_inv hm hX h0 k (by omega)
    rcases h : bt (pIn r c k s) k with _ | _
    · rw [pIn_no h]; exact ih
    · rw [pIn_yes h]; exact Sub.or ih (hX k (by omega) (ih k (by omega) h))
theorem pOut_inv {X : BitVec 64} (hn : n ≤ 64) (hX : ∀ v, v < n → bt X v = true → Sub (nth r v &&& c) X) (h0 : Sub s X) : ∀ i, Sub (pOut r n c s i) X
  | 0 => h0
  | i + 1 => pIn_inv hn hX (pOut_inv hn hX h0 i) n (Nat.le_refl _)
theorem pOut_sup : ∀ i, Sub s (pOut r n c s i)
  | 0 => Sub.refl _
  | i + 1 => (pOut_sup i).trans (pIn_sup n)
theorem pIn_closed (h : pIn r c n s = s) {v : Nat} (hv : v < n) (hb : bt s v = true) : Sub (nth r v &&& c) s := by
  have h1 : pIn r c v s = s := by
    have := pIn_mono (r := r) (c := c) (s := s) v (n - v)
    rw [show v + (n - v) = n by omega, h] at this
    exact Sub.antisymm this (pIn_sup v)
  have h2 : Sub (pIn r c (v + 1) s) s := by
    have := pIn_mono (r := r) (c := c) (s := s) (v + 1) (n - (v + 1))
    rw [show v + 1 + (n - (v + 1)) = n by omega, h] at this
    exact this
  rw [pIn_yes (by rw [h1]; exact hb), h1] at h2
  exact (Sub.orR _ _).trans h2
theorem pOut_stop : ∀ i, pOut r n c s (i + 1) = pOut r n c s i ∨ i + 1 ≤ pop (pOut r n c s (i + 1))
  | 0 => by
    by_cases h : pOut r n c s 1 = pOut r n c s 0
    · exact .inl h
    · have := pop_lt (pIn_sup (r := r) (c := c) (s := pOut r n c s 0) n) (Ne.symm h)
      exact .inr (by show 0 + 1 ≤ pop (pIn r c n (pOut r n c s 0)); omega)
  | i + 1 => by
    rcases pOut_stop i with h | h
    · exact .inl (by show pIn r c n (pOut r n c s (i + 1)) = _; rw [h]; exact h)
    · by_cases h2 : pOut r n c s (i + 1 + 1) = pOut r n c s (i + 1)
      · exact .inl h2
      · have := pop_lt (pIn_sup (r := r) (c := c) (s := pOut r n c s (i + 1)) n) (Ne.symm h2)
        exact .inr (by show i + 1 + 1 ≤ pop (pIn r c n (pOut r n c s (i + 1))); omega)
theorem pop_mono {s t : BitVec 64} (h : Sub s t) : pop s ≤ pop t := by
  by_cases e : s = t
  · rw [e]; exact Nat.le_refl _
  · exact Nat.le_of_lt (pop_lt h e)
theorem pOut_fix (hn : n ≤ 64) (hrow : ∀ v, v < n → Sub (nth r v) (allW n)) (h0 : Sub s (allW n)) : pIn r c n (pOut r n c s n) = pOut r n c s n := by
  rcases pOut_stop (r := r) (c := c) (s := s) (n := n) n with h | h
  · exact h
  · have h1 : Sub (pOut r n c s (n + 1)) (allW n) := pOut_inv hn (fun v hv _ k hk hb => by
      rw [bt_and, Bool.and_eq_true] at hb
      exact hrow v hv k hk hb.1) h0 (n + 1)
    have h2 := pop_mono h1
    have h3 := pop_allW n
    omega
theorem paths_sup (k : Nat) : Sub (nth r k &&& c) (paths r n k c) := pOut_sup n
theorem paths_inv {X : BitVec 64} (hn : n ≤ 64) {k : Nat} (hX : ∀ v, v < n → bt X v = true → Sub (nth r v &&& c) X) (h0 : Sub (nth r k &&& c) X) : Sub (paths r n k c) X := pOut_inv hn hX h0 n
theorem paths_closed (hn : n ≤ 64) (hrow : ∀ v, v < n → Sub (nth r v) (allW n)) {k v : Nat} (hk : k < n) (hv : v < n) (hb : bt (paths r n k c) v = true) : Sub (nth r v &&& c) (paths r n k c) :=
  pIn_closed (pOut_fix hn hrow fun j hj h => by
    rw [bt_and, Bool.and_eq_true] at h
    exact hrow k hk j hj h.1) hv hb
theorem bt_comTo (m : Nat) {k : Nat} (hk : k < 64) : bt (comTo r n c s m) k = (decide (k < m) && (paths r n k c &&& ~~~ s == 0#64)) := by
  induction m with
  | zero => simp [comTo, bt_zero]
  | succ m ih =>
    by_cases h : (paths r n m c &&& ~~~ s) = 0#64
    · have e : comTo r n c s (m + 1) = comTo r n c s m ||| 1#64 <<< m := if_pos h
      rw [e, bt_or, bt_shl1, ih]
      by_cases hkm : k = m
      · subst hkm; rw [h]; simp [hk]
      · rw [Bool.eq_iff_iff]; simp [hkm]; omega
    · have e : comTo r n c s (m + 1) = comTo r n c s m := if_neg h
      rw [e, ih]
      by_cases hkm : k = m
      · subst hkm; simp [h]
      · rw [Bool.eq_iff_iff]; simp; omega
/-- Common knowledge: all paths through the condition lead to the set. -/
theorem comTo_cmn (hr : r.length = n) (hn : n ≤ 64) (hok : relCheck r = 0) (hrow : ∀ v, v < n → Sub (nth r v) (allW n)) : comTo r n c s n = cmn r n c s := by
  apply Sub.antisymm
  · -- into every round
    have key : ∀ j, Sub (comTo r n c s n) (cmnI r n c s j) := by
      intro j
      induction j with
      | zero =>
        intro k hk hb
        rw [bt_comTo n hk, Bool.and_eq_true, decide_eq_true_eq] at hb
        show bt (allW n) k = true
        rw [bt_allW]; simp [hk, hb.1]
      | succ j ih =>
        intro k hk hb
        have hb2 := hb
        rw [bt_comTo n hk, Bool.and_eq_true, decide_eq_true_eq, beq_iff_eq, andNot_zero] at hb2
        show bt (relBox r _) k = true
        rw [bt_relBox _ _ _ hk]
        simp only [Bool.and_eq_true, decide_eq_true_eq, beq_iff_eq, andNot_zero]
        refine ⟨⟨hok, by omega⟩, fun v hv hbv => ?_⟩
        have hvn : v < n := by
          have := hrow k hb2.1 v hv hbv
          rw [bt_allW] at this; simp at this; exact this.2
        rw [bt_or, bt_and, bt_and, bt_not, bt_allW]
        rcases hc : bt c v with _ | _
        · simp [hv, hvn]
        · have hvp : bt (paths r n k c) v = true := paths_sup k v hv (by rw [bt_and, hbv, hc]; rfl)
          have hvx : bt (comTo r n c s n) v = true := by
            rw [bt_comTo n hv, Bool.and_eq_true, decide_eq_true_eq, beq_iff_eq, andNot_zero]
            refine ⟨hvn, Sub.trans ?_ hb2.2⟩
            exact paths_inv hn (fun u hu hbu => paths_closed hn hrow hb2.1 hu hbu) (paths_closed hn hrow hb2.1 hvn hvp)
          have h1 := hb2.2 v hv hvp
          have h2 := ih v hv hvx
          rw [h1, h2]; simp
    exact key n
  · intro k hk hb
    have hG : cmnF r n c s (cmn r n c s) = cmn r n c s := cmnI_fix r n (by omega) c s
    have step : ∀ v, v < 64 → bt (cmn r n c s) v = true → v < n ∧ Sub (nth r v &&& c) (s &&& cmn r n c s) := by
      intro v hv hbv
      rw [← hG] at hbv
      have h1 : bt (relBox r ((allW n &&& ~~~ c) ||| (s &&& cmn r n c s))) v = true := hbv
      rw [bt_relBox _ _ _ hv] at h1
      simp only [Bool.and_eq_true, decide_eq_true_eq, beq_iff_eq, andNot_zero] at h1
      refine ⟨by omega, fun u hu hbu => ?_⟩
      rw [bt_and, Bool.and_eq_true] at hbu
      have := h1.2 u hu hbu.1
      rw [bt_or, bt_and, bt_not, hbu.2] at this
      simpa using this
    obtain ⟨hkn, h0⟩ := step k hk hb
    rw [bt_comTo n hk, Bool.and_eq_true, decide_eq_true_eq, beq_iff_eq, andNot_zero]
    refine ⟨hkn, Sub.trans (paths_inv (X := s &&& cmn r n c s) hn (fun v hv hbv => ?_) h0) fun v hv hbv => ?_⟩
    · rw [bt_and, Bool.and_eq_true] at hbv
      exact (step v (by omega) hbv.2).2
    · rw [bt_and, Bool.and_eq_true] at hbv
      exact hbv.1
end
end Wt

/- Walks: wittingref05: UsesX, UsesY, agent, group, node, Check. -/
namespace Wt
open Go Go.RowKit Go.Maps Go.Proofs Fm

theorem use_low (op : Int) (h : op < 1 ∨ 21 < op) : useOf op = (⟨false,false,false,false,false,false,0⟩, false) := by
  refine useOf_no op fun h2 => ?_
  rcases useOf_cases op h2 with h | h | h | h | h | h | h | h | h | h | h | h | h | h | h | h | h | h | h | h | h <;> omega
theorem op_cases (op : Int) : (op < 1 ∨ 21 < op) ∨ op = 1 ∨ op = 2 ∨ op = 3 ∨ op = 4 ∨ op = 5 ∨ op = 6 ∨ op = 7 ∨ op = 8 ∨ op = 9 ∨ op = 10 ∨ op = 11 ∨ op = 12 ∨ op = 13 ∨ op = 14 ∨ op = 15 ∨ op = 16 ∨ op = 17 ∨ op = 18 ∨ op = 19 ∨ op = 20 ∨ op = 21 := by omega
theorem r5x_eq (op : Int) : (useOf op).1.x = (decide (4 ≤ op) && decide (op ≤ 21)) := by
  rcases op_cases op with h | h | h | h | h | h | h | h | h | h | h | h | h | h | h | h | h | h | h | h | h | h
  · rw [use_low op h]; simp; omega
  all_goals (subst h; rfl)
theorem r5y_eq (op : Int) : (useOf op).1.y = (decide (5 ≤ op ∧ op ≤ 8) || op == 13 || op == 14 || op == 16 || op == 19 || op == 21) := by
  rcases op_cases op with h | h | h | h | h | h | h | h | h | h | h | h | h | h | h | h | h | h | h | h | h | h
  · rw [use_low op h]; simp; omega
  all_goals (subst h; rfl)
theorem r5a_eq (op : Int) : (useOf op).1.agent = (op == 9 || op == 10 || op == 14 || op == 15) := by
  rcases op_cases op with h | h | h | h | h | h | h | h | h | h | h | h | h | h | h | h | h | h | h | h | h | h
  · rw [use_low op h]; simp; omega
  all_goals (subst h; rfl)
theorem r5g_eq (op : Int) : (useOf op).1.group = (decide (11 ≤ op) && decide (op ≤ 13)) := by
  rcases op_cases op with h | h | h | h | h | h | h | h | h | h | h | h | h | h | h | h | h | h | h | h | h | h
  · rw [use_low op h]; simp; omega
  all_goals (subst h; rfl)
theorem r5f_eq (op : Int) : (useOf op).1.fact = (op == 3) := by
  rcases op_cases op with h | h | h | h | h | h | h | h | h | h | h | h | h | h | h | h | h | h | h | h | h | h
  · rw [use_low op h]; simp; omega
  all_goals (subst h; rfl)
theorem r5e_eq (op : Int) : (useOf op).1.event = (op == 17) := by
  rcases op_cases op with h | h | h | h | h | h | h | h | h | h | h | h | h | h | h | h | h | h | h | h | h | h
  · rw [use_low op h]; simp; omega
  all_goals (subst h; rfl)
theorem r5ok_eq (op : Int) : (useOf op).2 = (decide (1 ≤ op) && decide (op ≤ 21)) := by
  rcases op_cases op with h | h | h | h | h | h | h | h | h | h | h | h | h | h | h | h | h | h | h | h | h | h
  · rw [use_low op h]; simp; omega
  all_goals (subst h; rfl)
set_option maxHeartbeats 1000000 in
theorem r5X_any (op : Int) (w : World) :
    Calls Tryz.prog 63 #[.int .i64 op] w fun e w' => e = .returned (.bool (useOf op).1.x) ∧ w = w' := by
  have H := Lib.hid (r5x_eq op)
  by_cases h1 : 4 ≤ op <;> by_cases h2 : op ≤ 21
  all_goals
    go_enter Tryz.func63, Tryz.ntmps63
    go_wp2
    go_ret
    exact ⟨by rw [H.out]; simp [h1, h2], rfl⟩
set_option maxHeartbeats 1000000 in
theorem r5G_any (op : Int) (w : World) :
    Calls Tryz.prog 132 #[.int .i64 op] w fun e w' => e = .returned (.bool (useOf op).1.group) ∧ w = w' := by
  have H := Lib.hid (r5g_eq op)
  by_cases h1 : 11 ≤ op <;> by_cases h2 : op ≤ 13
  all_goals
    go_enter Tryz.func132, Tryz.ntmps132
    go_wp2
    go_ret
    exact ⟨by rw [H.out]; simp [h1, h2], rfl⟩
set_option maxHeartbeats 1000000 in
theorem r5A_any (op : Int) (w : World) :
    Calls Tryz.prog 131 #[.int .i64 op] w fun e w' => e = .returned (.bool (useOf op).1.agent) ∧ w = w' := by
  by_cases h : op = 9 ∨ op = 10 ∨ op = 14 ∨ op = 15
  · rcases h with rfl | rfl | rfl | rfl
    all_goals
      go_enter Tryz.func131, Tryz.ntmps131
      go_wp2
      go_ret
      exact ⟨rfl, rfl⟩
  · have H := Lib.hid (r5a_eq op)
    have e9 : (op == 9) = false := by simp; omega
    have e10 : (op == 10) = false := by simp; omega
    have e14 : (op == 14) = false := by simp; omega
    have e15 : (op == 15) = false := by simp; omega
    clear h
    go_enter Tryz.func131, Tryz.ntmps131
    go_wp2
    go_ret
    exact ⟨by rw [H.out]; simp [e9, e10, e14, e15], rfl⟩
set_option maxHeartbeats 1000000 in
theorem r5Y_any (op : Int) (w : World) :
    Calls Tryz.prog 64 #[.int .i64 op] w fun e w' => e = .returned (.bool (useOf op).1.y) ∧ w = w' := by
  by_cases h : op = 5 ∨ op = 6 ∨ op = 7 ∨ op = 8 ∨ op = 13 ∨ op = 14 ∨ op = 16 ∨ op = 19 ∨ op = 21
  · rcases h with rfl | rfl | rfl | rfl | rfl | rfl | rfl | rfl | rfl
    all_goals
      go_enter Tryz.func64, Tryz.ntmps64
      go_wp2
      go_ret
      exact ⟨rfl, rfl⟩
  · have H := Lib.hid (r5y_eq op)
    have e13 : (op == 13) = false := by simp; omega
    have e14 : (op == 14) = false := by simp; omega
    have e16 : (op == 16) = false := by simp; omega
    have e19 : (op == 19) = false := by simp; omega
    have e21 : (op == 21) = false := by simp; omega
    have e58 : decide (5 ≤ op ∧ op ≤ 8) = false := by simp; omega
    by_cases h5 : 5 ≤ op
    · have d8 : decide (op ≤ 8) = false := by simp; omega
      clear h
      go_enter Tryz.func64, Tryz.ntmps64
      go_wp2
      go_ret
      exact ⟨by rw [H.out, e58, e13, e14, e16, e19, e21]; rfl, rfl⟩
    · clear h
      go_enter Tryz.func64, Tryz.ntmps64
      go_wp2
      go_ret
      exact ⟨by rw [H.out, e58, e13, e14, e16, e19, e21]; rfl, rfl⟩

set_option maxRecDepth 20000 in
set_option maxHeartbeats 1000000 in
theorem r5node_low (op i ev g x y a : Int) (w : World) (h : op < 1 ∨ 21 < op) :
    Calls Tryz.prog 98 #[.agg #[.int .i64 op, .int .i64 i, .int .i64 ev, .int .i64 g, .int .i64 x, .int .i64 y], .int .i64 a] w fun e w' => e = .returned (.int .i64 (nodeErr ⟨op, i, ev, g, x, y⟩ a)) ∧ Ext w w' := by
  have hn : nodeErr ⟨op, i, ev, g, x, y⟩ a = 10 := nodeErr_no _ _ (by rw [use_low op h])
  have HN := Lib.hid hn
  clear hn
  rcases h with h | h
  · go_enter Tryz.func98, Tryz.ntmps98
    go_wp2
    go_ret
    exact ⟨by rw [HN.out]; rfl, (Ext.refl w).alloc _⟩
  · go_enter Tryz.func98, Tryz.ntmps98
    go_wp2
    go_ret
    exact ⟨by rw [HN.out]; rfl, (Ext.refl w).alloc _⟩
end Wt
