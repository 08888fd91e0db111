/- Walk: boolean.Table. -/
import Derived.Test.YtflnfcmbalhpnaaDoorM4Bg
import Derived.Deep.QuietTactic
import Derived.BigQuiet
import Derived.Test.YtflnfcmbalhpnaaDoorM4Be
import Derived.Test.YtflnfcmbalhpnaaDoorM4Ao
import Derived.Maps.OwnOps
import Derived.Maps.Views
import Derived.Maps.OwnSet
import Derived.Test.YtflnfcmbalhpnaaDoorM4Bd
namespace Wt
open Go Go.RowKit Go.Proofs Fm

theorem cf_table1 (args : Array Value) (W : World) : (callFunc 71 args).run Tryd.prog W = .ok (.enter 71 args) W := by
  simp [callFunc, Tryd.func71, Tryd.f71]
set_option maxHeartbeats 1000000 in
theorem table1_any (v k b1 b2 : Nat) (fa : Option Addr) (fc : Nat) (f : List Nd) (w : World) (hv : v < 9223372036854775808) (h1 : w.cell? ⟨b1, 0, none⟩ = some (.int .i64 (v : Int))) (h2 : w.cell? ⟨b2, 0, none⟩ = some (.slice fa f.length fc)) (hr : RN w fa f) (hk : k < f.length) (hi : 0 ≤ (nth f k).i) :
    Calls Tryd.prog 71 #[.int .i64 (k : Int), .pointer (some ⟨b1, 0, none⟩), .pointer (some ⟨b2, 0, none⟩)] w fun e w' => e = .returned (.bool (v.testBit (nth f k).i.toNat)) ∧ Qu w w' := by
  obtain ⟨b, off, rfl, hb, n0, n1, n2, n3, n4, n5⟩ := hr.get hk
  obtain ⟨I, hI⟩ := Int.eq_ofNat_of_zero_le hi
  rw [hI] at n1 ⊢
  simp only [Int.toNat_natCast]
  have hl := World.block_lt_of_cell? _ _ h1
  have hl2 := World.block_lt_of_cell? _ _ h2
  have hfl := hr.len
  clear hr hi hI n0 n2 n3 n4 n5
  cases hb : v.testBit I
  · have hb0 : b01 v I = 0 := by simp [b01, hb]
    clear hb
    go_enter Tryd.func71, Tryd.ntmps71
    go_wp2_with fail
    go_quiet (fail)
    go_wp2
    go_ret
    exact ⟨rfl, (Qu.refl _).drewN _⟩
  · have hb0 : b01 v I = 1 := by simp [b01, hb]
    clear hb
    go_enter Tryd.func71, Tryd.ntmps71
    go_wp2_with fail
    go_quiet (fail)
    go_wp2
    go_ret
    exact ⟨rfl, (Qu.refl _).drewN _⟩
theorem compact_wfT {f : List Nd} (h : fCheck f = 0) : Wf (fCompact f) ∧ rt (fCompact f) = rt f ∧ 1 ≤ (fCompact f).length := by
  have If := IsF.of h
  have hk := If.fk
  rw [If.compact]
  exact ⟨canon_wf _ hk, trAt_canon _ hk, by rw [canon_length]; exact fsize_pos _⟩
set_option maxRecDepth 20000 in
set_option maxHeartbeats 4000000 in
theorem table_any (fa : Option Addr) (fc : Nat) (f : List Nd) (n : Int) (w : World) (hf : RN w fa f) :
    Calls Tryd.prog 50 #[.slice fa f.length fc, .int .i64 n] w fun e w' => RetP (.int .u64 (un (tabOf f n))) (tabErr f n) e w w' := by
  have HC := Lib.hid (check_any fa fc f w hf)
  have HF := Lib.hid hf
  by_cases h1 : fCheck f = 0
  rotate_left
  · have hn : tabErr f n = fCheck f := by unfold tabErr; rw [if_pos h1]
    have hn2 : tabOf f n = 0#64 := by unfold tabOf; rw [if_neg (by rw [hn]; exact h1)]
    have hq : (fCheck f != 0) = true := by simp [h1]
    have HN := Lib.hid hn
    have HN2 := Lib.hid hn2
    clear hn hn2 h1 hf
    go_enter Tryd.func50, Tryd.ntmps50
    go_wp2_with (go_at_call 36; refine (HC.out).mono ?_; rintro e w1 ⟨rfl, hE1⟩)
    go_ret2
    exact ⟨by rw [HN.out, HN2.out]; rfl, hE1⟩
  have H1 := Lib.hid h1
  by_cases h2 : fFrags f = 0
  rotate_left
  · have hn : tabErr f n = 10 := by unfold tabErr; rw [if_neg (by simp [h1]), if_pos h2]
    have hn2 : tabOf f n = 0#64 := by unfold tabOf; rw [if_neg (by rw [hn]; omega)]
    have hq : ((fFrags f : Int) != 0) = true := by simp [h2]
    have HN := Lib.hid hn
    have HN2 := Lib.hid hn2
    clear hn hn2 h1 h2 hf
    go_enter Tryd.func50, Tryd.ntmps50
    go_wp2_with (first | (go_at_call 36; refine (HC.out).mono ?_; rintro e w1 ⟨rfl, hE1⟩; rw [H1.out]) | (go_at_call 68; refine (frags_any _ _ _ _ (HF.out.ext hE1)).mono ?_; rintro e w2 ⟨rfl, hE2⟩))
    go_ret2
    exact ⟨by rw [HN.out, HN2.out]; rfl, hE1.trans hE2⟩
  have H2 := Lib.hid h2
  have hq2 : ((fFrags f : Int) != 0) = false := by simp [h2]
  by_cases h3 : n < 0
  · have hn : tabErr f n = 2 := by unfold tabErr; rw [if_neg (by simp [h1]), if_neg (by simp [h2]), if_pos (.inl h3)]
    have hn2 : tabOf f n = 0#64 := by unfold tabOf; rw [if_neg (by rw [hn]; omega)]
    have hd : decide (n < 0) = true := decide_eq_true h3
    have HN := Lib.hid hn
    have HN2 := Lib.hid hn2
    cases h6 : decide (6 < n)
    all_goals
      clear hn hn2 h1 h2 h3 hf
      go_enter Tryd.func50, Tryd.ntmps50
      go_wp2_with (first | (go_at_call 36; refine (HC.out).mono ?_; rintro e w1 ⟨rfl, hE1⟩; rw [H1.out]) | (go_at_call 68; refine (frags_any _ _ _ _ (HF.out.ext hE1)).mono ?_; rintro e w2 ⟨rfl, hE2⟩))
      go_ret2
      exact ⟨by rw [HN.out, HN2.out]; rfl, hE1.trans hE2⟩
  obtain ⟨N, rfl⟩ := Int.eq_ofNat_of_zero_le (show 0 ≤ n by omega)
  have hd : decide ((N : Int) < 0) = false := decide_eq_false h3
  by_cases h6 : 6 < N
  · have hn : tabErr f N = 2 := by unfold tabErr; rw [if_neg (by simp [h1]), if_neg (by simp [h2]), if_pos (.inr (.inl (by omega)))]
    have hn2 : tabOf f N = 0#64 := by unfold tabOf; rw [if_neg (by rw [hn]; omega)]
    have hd6 : decide ((6 : Int) < N) = true := decide_eq_true (by omega)
    have HN := Lib.hid hn
    have HN2 := Lib.hid hn2
    clear hn hn2 h1 h2 h3 hf h6
    go_enter Tryd.func50, Tryd.ntmps50
    go_wp2_with (first | (go_at_call 36; refine (HC.out).mono ?_; rintro e w1 ⟨rfl, hE1⟩; rw [H1.out]) | (go_at_call 68; refine (frags_any _ _ _ _ (HF.out.ext hE1)).mono ?_; rintro e w2 ⟨rfl, hE2⟩))
    go_ret2
    exact ⟨by rw [HN.out, HN2.out]; rfl, hE1.trans hE2⟩
  have hd6 : decide ((6 : Int) < N) = false := decide_eq_false (by omega)
  cases h7 : fFits f 0 N
  · have hn : tabErr f N = 2 := by unfold tabErr; rw [if_neg (by simp [h1]), if_neg (by simp [h2]), if_pos (.inr (.inr (by simpa using h7)))]
    have hn2 : tabOf f N = 0#64 := by unfold tabOf; rw [if_neg (by rw [hn]; omega)]
    have HN := Lib.hid hn
    have HN2 := Lib.hid hn2
    have H7 := Lib.hid h7
    clear hn hn2 h1 h2 h3 hf h6 h7
    go_enter Tryd.func50, Tryd.ntmps50
    go_wp2_with (first | (go_at_call 36; refine (HC.out).mono ?_; rintro e w1 ⟨rfl, hE1⟩; rw [H1.out]) | (go_at_call 68; refine (frags_any _ _ _ _ (HF.out.ext hE1)).mono ?_; rintro e w2 ⟨rfl, hE2⟩) | (go_at_call 69; refine (fits_any fa fc f 0 N _ (HF.out.ext (hE1.trans hE2))).mono ?_; rintro e w3 ⟨rfl, hE3⟩; rw [H7.out]))
    go_ret2
    exact ⟨by rw [HN.out, HN2.out]; rfl, (hE1.trans hE2).trans hE3⟩
  · have hn : tabErr f N = 0 := by unfold tabErr; rw [if_neg (by simp [h1]), if_neg (by simp [h2]), if_neg (by rw [Int.toNat_natCast, h7]; simp; omega)]
    have hn2 : tabOf f N = setTo (fun v => pv v.testBit (rt f)) (2 ^ N) := by rw [tab_eq hn]; simp
    obtain ⟨c1, c2, c3⟩ := compact_wfT h1
    have hops := prop_ops h2
    have hcl := (fCompact_ok f).2
    have hN6 : N ≤ 6 := by omega
    have hN63 : N < 63 := by omega
    have hp := pow6 hN6
    have HN := Lib.hid hn
    have HN2 := Lib.hid hn2
    have H7 := Lib.hid h7
    have HW := Lib.hid c1
    have HRT := Lib.hid c2
    have HL1 := Lib.hid c3
    have HOP : Hid (∀ k, k < (fCompact f).length → (nth (fCompact f) k).op ≤ 8) := Lib.hid fun k hk => (hops _ (nth_mem hk)).2
    clear hn hn2 h1 h2 h3 hf h6 h7 c1 c2 c3 hops
    have HCO : Hid (∀ w, RN w fa f → Calls Tryd.prog 37 #[.slice fa f.length fc] w fun e w' => RetN (fCompact f) e w w') := Lib.hid fun w h => compactF_any fa fc f w h
    generalize fCompact f = c at *
    go_enter Tryd.func50, Tryd.ntmps50
    go_wp2_with (first | (go_at_call 36; refine (HC.out).mono ?_; rintro e w1 ⟨rfl, hE1⟩; rw [H1.out]) | (go_at_call 68; refine (frags_any _ _ _ _ (HF.out.ext hE1)).mono ?_; rintro e w2 ⟨rfl, hE2⟩) | (go_at_call 69; refine (fits_any fa fc f 0 N _ (HF.out.ext (hE1.trans hE2))).mono ?_; rintro e w3 ⟨rfl, hE3⟩; rw [H7.out]) | (go_at_call 37; refine (HCO.out _ (HF.out.ext ((hE1.trans hE2).trans hE3))).mono ?_; rintro e w4 ⟨ca, cc, rfl, hrc, hE4⟩))
    have hEE : Ext w (w4.alloc (.cells #[.slice ca c.length cc] 31)) := (((hE1.trans hE2).trans hE3).trans hE4).alloc _
    have hc0 : (w4.alloc (.cells #[.slice ca c.length cc] 31)).cell? ⟨w4.heap.size, 0, none⟩ = some (.slice ca c.length cc) := by simp
    have hrc2 := hrc.ext ((Ext.refl w4).alloc (.cells #[.slice ca c.length cc] 31))
    have HEE := Lib.hid hEE
    have HRC := Lib.hid hrc2
    clear hEE hrc hrc2 hE1 hE2 hE3 hE4
    generalize w4.heap.size = cb at *
    generalize w4.alloc (.cells #[.slice ca c.length cc] 31) = w5 at *
    go_loopw [8, 34] (fun s i wr => ∃ k : Nat, k ≤ 2 ^ N ∧ i = .int .i64 (k : Int) ∧ s = .int .u64 (un (setTo (fun v => pv v.testBit (rt f)) k)) ∧ Ext w5 wr) (fun _ i _ => 2 ^ N - (intOf i).toNat)
    case atStart => exact ⟨0, Nat.zero_le _, rfl, rfl, Ext.refl _⟩
    case round =>
      obtain ⟨k, hk, rfl, rfl, hE⟩ := hrel
      have hk64 : k ≤ 64 := by omega
      by_cases hlt : k < 2 ^ N
      · have hd1 : decide ((k : Int) < p2 N) = true := decide_eq_true (by unfold p2; omega)
        have hE2 := hE.alloc (.cells #[.int .i64 (k : Int)] 3)
        have z1 : (wr.alloc (.cells #[.int .i64 (k : Int)] 3)).cell? ⟨wr.heap.size, 0, none⟩ = some (.int .i64 (k : Int)) := by simp
        have z2 := hE2.cell hc0
        have HE2 := Lib.hid hE2
        have HST : Hid (setTo (fun v => pv v.testBit (rt f)) (k + 1) = if pv k.testBit (rt f) then setTo (fun v => pv v.testBit (rt f)) k ||| 1#64 <<< k else setTo (fun v => pv v.testBit (rt f)) k) := Lib.hid rfl
        have HV : Hid (Calls Tryd.prog 70 #[.slice ca c.length cc, .func (.func 71) #[] #[.pointer (some ⟨wr.heap.size, 0, none⟩), .pointer (some ⟨cb, 0, none⟩)]] (wr.alloc (.cells #[.int .i64 (k : Int)] 3)) fun en w' => en = .returned (.bool (pv k.testBit (rt c))) ∧ Ext (wr.alloc (.cells #[.int .i64 (k : Int)] 3)) w') :=
          Lib.hid (bvalue_any 71 _ _ ca cc c _ (HRC.out.ext hE2) HW.out HL1.out hcl k.testBit HOP.out cf_table1 fun W j hW hj =>
            table1_any k j wr.heap.size cb ca cc c W (by omega) (hW.cell z1) (hW.cell z2) ((HRC.out.ext hE2).ext hW) hj (nd_i HW.out hj))
        rw [HRT.out] at HV
        cases hb : pv k.testBit (rt f)
        · have hs : setTo (fun v => pv v.testBit (rt f)) (k + 1) = setTo (fun v => pv v.testBit (rt f)) k := by rw [HST.out, hb]; simp
          have HS := Lib.hid hs
          rw [hb] at HV
          clear hs HST hb
          go_wp2_with (go_at_call 70; refine HV.out.mono ?_; rintro _ w6 ⟨rfl, hE6⟩)
          go_roundw
          case rel => exact ⟨k + 1, hlt, by go_num, by rw [HS.out], HE2.out.trans hE6⟩
          case measure => simp [intOf]; omega
        · have hs : setTo (fun v => pv v.testBit (rt f)) (k + 1) = setTo (fun v => pv v.testBit (rt f)) k ||| 1#64 <<< k := by rw [HST.out, hb]; simp
          have HS := Lib.hid hs
          rw [hb] at HV
          clear hs HST hb
          go_wp2_with (go_at_call 70; refine HV.out.mono ?_; rintro _ w6 ⟨rfl, hE6⟩; have z3 := hE6.cell z1; have z4 := hE6.size)
          go_roundw
          case rel => exact ⟨k + 1, hlt, by go_num, by rw [HS.out], HE2.out.trans hE6⟩
          case measure => simp [intOf]; omega
      · have hd1 : decide ((k : Int) < p2 N) = false := decide_eq_false (by unfold p2; omega)
        have hkk : 2 ^ N = k := by omega
        rw [hkk] at HN2
        clear hkk hp
        go_wp2
        go_ret2
        exact ⟨by rw [HN.out, HN2.out]; rfl, HEE.out.trans hE⟩
end Wt

/- Walk: observe.cells. -/
namespace Wt
open Go Go.RowKit Go.Maps Go.Proofs Fm

theorem keyT_step (ts : List (BitVec 64)) (v i : Nat) : keyT ts v (i + 1) = keyT ts v i ||| (if bt (nth ts i) v then 2 ^ i else 0) := rfl
theorem or_zero64 (a : Nat) (ha : a < 4294967296) : bits .or .i64 (a : Int) 0 = (a : Int) := by
  have := or_nat a 0 ha (by omega)
  simpa using this
theorem shl_zero64 (yk : IntKind) (n : Nat) : Op.shift .shl .i64 0 yk (n : Int) = pure (.int .i64 0) := by
  have h : ¬ ((n : Int) < 0) := by omega
  have hb : IntKind.i64.bits = 64 := rfl
  simp only [Op.shift, h, if_false, Int.toNat_natCast, hb, Int.zero_mul]
  rfl
theorem bit_val (t : BitVec 64) (v : Nat) : un (t >>> v &&& 1#64) = if bt t v then 1 else 0 := by
  have h1 := bit_eq1 (s := t) v
  have h0 := bit_eq0 (s := t) v
  cases hb : bt t v
  · rw [hb] at h0
    have : t >>> v &&& 1#64 = 0#64 := by simpa using h0
    rw [this]; rfl
  · rw [hb] at h1
    have : t >>> v &&& 1#64 = 1#64 := by simpa using h1
    rw [this]; rfl
theorem cf_cells1 (args : Array Value) (W : World) : (callFunc 72 args).run Tryd.prog W = .ok (.enter 72 args) W := by
  simp [callFunc, Tryd.func72, Tryd.f72]
set_option maxHeartbeats 1000000 in
theorem cells1_any (v b : Nat) (ta : Option Addr) (tc : Nat) (ts : List (BitVec 64)) (w : World) (h1 : w.cell? ⟨b, 0, none⟩ = some (.slice ta ts.length tc)) (hr : RU w ta ts) (h16 : ts.length ≤ 16) :
    Calls Tryd.prog 72 #[.int .i64 (v : Int), .pointer (some ⟨b, 0, none⟩)] w fun e w' => e = .returned (.int .i64 (keyT ts v ts.length : Nat)) ∧ w = w' := by
  have hl := World.block_lt_of_cell? _ _ h1
  have HR := Lib.hid hr
  have hz := fun (n : Nat) => shl_zero64 .i64 n
  clear hr
  go_enter Tryd.func72, Tryd.ntmps72
  go_wp2
  go_loopw [4, 9] (fun s i wr => ∃ k : Nat, k ≤ ts.length ∧ i = .int .i64 (k : Int) ∧ s = .int .i64 (keyT ts v k : Nat) ∧ w = wr) (fun _ i _ => ts.length - (intOf i).toNat)
  case atStart => exact ⟨0, Nat.zero_le _, rfl, rfl, rfl⟩
  case round =>
    obtain ⟨k, hk, rfl, rfl, rfl⟩ := hrel
    by_cases hlt : k < ts.length
    · obtain ⟨b2, off, rfl, hb, hc⟩ := HR.out.get hlt
      have hkl := keyT_lt ts v k
      have h2k : 2 ^ k ≤ 2 ^ 15 := Nat.pow_le_pow_right (by decide) (by omega)
      have hbv := bit_val (nth ts k) v
      have hst := keyT_step ts v k
      cases hb : bt (nth ts k) v
      · rw [hb] at hbv hst
        have ho := or_zero64 (keyT ts v k) (by omega)
        have hst2 : keyT ts v (k + 1) = keyT ts v k := by rw [hst]; simp
        have HST := Lib.hid hst2
        have hbv0 : un (nth ts k >>> v &&& 1#64) = 0 := hbv
        clear hbv hst hst2 hb hkl h2k
        go_wp2
        go_roundw
        case rel => exact ⟨k + 1, hlt, by go_num, by rw [HST.out], trivial⟩
        case measure => simp [intOf]; omega
      · rw [hb] at hbv hst
        have ho : bits .or .i64 (keyT ts v k : Nat) (p2 k) = (keyT ts v (k + 1) : Nat) := by
          rw [hst]; exact or_nat _ _ (by omega) (by omega)
        have hbv0 : un (nth ts k >>> v &&& 1#64) = 1 := hbv
        have hk63 : k < 63 := by omega
        clear hbv hst hb hkl h2k
        go_wp2
        go_roundw
        case rel => exact ⟨k + 1, hlt, by go_num, rfl, trivial⟩
        case measure => simp [intOf]; omega
    · obtain rfl : k = ts.length := by omega
      go_wp2
      go_ret
      exact ⟨rfl, rfl⟩
theorem wf_un (s : BitVec 64) : (Lit.int .u64 (un s)).wf = true := by
  simp only [Lit.wf, Bool.and_eq_true, decide_eq_true_eq]
  exact ⟨un_nonneg s, un_le s⟩
theorem u64_zero (w : World) : (zeroValue 58).run Tryd.prog w = .ok (.int .u64 0) w := by kernel_rfl
/-- A map from numbers to sets, which the call owns. -/
def MapU (w : World) (b n : Nat) (F : Nat → BitVec 64) : Prop :=
  ∃ D : DataW Unit, w.ownsMap Tryd.prog 3 (plainElem Tryd.prog 58) b n D ∧ ∀ k : Nat, k < 65536 → D.atKey (.int .i64 (k : Int)) (.lit (.int .u64 0)) = .lit (.int .u64 (un (F k)))
theorem key_nat {k : Nat} (h : k < 65536) : keyOf Tryd.prog 3 (.int .i64 (k : Int)) = some (.int .i64 (k : Int)) := keyOf_int_mk Tryd.underlying3 (igood_of (by omega))
theorem MapU.made (w : World) : MapU (w.alloc (.map #[] 0)) w.heap.size 0 (fun _ => 0#64) :=
  ⟨.map [], World.ownsMap_made w _ _ _, fun _k _ => rfl⟩
theorem MapU.kept {w w' : World} {b n : Nat} {F : Nat → BitVec 64} {row : Option Nat} (h : MapU w b n F) (hg : w.grownBy w' row) (hne : some b ≠ row) : MapU w' b n F := by
  obtain ⟨D, h1, h2⟩ := h
  exact ⟨D, h1.kept hg hne, h2⟩
theorem MapU.ext {w w' : World} {b n : Nat} {F : Nat → BitVec 64} (h : MapU w b n F) (e : Ext w w') : MapU w' b n F :=
  h.kept (row := none) ⟨e.os, e.tape, e.output, e.size, fun k hk _ => e.block k hk⟩ (by simp)
theorem MapU.lt {w : World} {b n : Nat} {F : Nat → BitVec 64} (h : MapU w b n F) : b < w.heap.size := by
  obtain ⟨D, h1, _⟩ := h
  exact h1.lt
theorem MapU.look {w : World} {b n : Nat} {F : Nat → BitVec 64} (h : MapU w b n F) {k : Nat} (hk : k < 65536) :
    (Instr.lookup 116 (.map (some b)) (.int .i64 (k : Int)) false).run Tryd.prog w = .ok (.int .u64 (un (F k))) w := by
  obtain ⟨D, h1, h2⟩ := h
  obtain ⟨c, hrun, hat, _⟩ := h1.lookup_int int_keyed' Tryd.underlying116 Tryd.underlying58 (u64_zero w) (key_nat hk)
  rw [h2 k hk] at hat
  simp only [DataW.lit.injEq, Lit.int.injEq, true_and] at hat
  rw [hrun, ← hat]
theorem MapU.ins {w : World} {b n : Nat} {F : Nat → BitVec 64} (h : MapU w b n F) (hn : n < 1000) {k : Nat} (hk : k < 65536) (s : BitVec 64) :
    ∃ w', (Instr.mapUpdate 116 (.map (some b)) (.int .i64 (k : Int)) (.int .u64 (un s))).run Tryd.prog w = .ok () w' ∧ MapU w' b (n + 1) (fun x => if x = k then s else F x) ∧ w.grownBy w' (some b) := by
  obtain ⟨D, h1, h2⟩ := h
  obtain ⟨w', hrun, ho, hg⟩ := h1.update int_keyed' Tryd.underlying116 (by unfold maxLen; omega) (key_nat hk) (plainElem_int Tryd.underlying58 (wf_un s))
  refine ⟨w', hrun, ⟨_, ho, fun x hx => ?_⟩, hg⟩
  by_cases e : x = k
  · subst e
    show (D.put _ _).atKey _ _ = .lit (.int .u64 (un (if x = x then s else F x)))
    rw [if_pos rfl]
    exact atKey_put_same h1.isMap (by simp [WideAt.IsKeyLit]) _ _
  · show (D.put _ _).atKey _ _ = .lit (.int .u64 (un (if x = k then s else F x)))
    rw [atKey_put_other (by simp; omega), if_neg e]
    exact h2 x hx
theorem wpList_look1_on {P : Program} (w : World) {ops : Array Oper} {rest : List Oper} {o : Oper} {a : Act} {Q : Exit → Act → World → Prop}
    (hg : o.guard = none) (m x : Operand) (t : TypeId) (hop : o.op = Op.lookup t m x false) (b : Nat) (hm : a.eval m = .map (some b)) (key : Value) (hx : a.eval x = key) (v : Value)
    (hrun : (Instr.lookup t (.map (some b)) key false).run P w = .ok v w) (hK : wpList P ops Q rest (a.put o.dst v) w) : wpList P ops Q (o :: rest) a w := by
  refine wpList_plain hg fun K' hK' => ?_
  unfold Oper.wp
  simp [execOp, hop, hm, hx, hrun, Result.andThen]
  exact hK' _ _ hK
/-- The states so far with a key. -/
def keyS (ts : List (BitVec 64)) (st : List Nat) (k x : Nat) : BitVec 64 := setTo (fun w => keyT ts (nth st w) ts.length == x) k
theorem keyS_step (ts : List (BitVec 64)) (st : List Nat) (k : Nat) : keyS ts st (k + 1) = fun x => if x = keyT ts (nth st k) ts.length then keyS ts st k (keyT ts (nth st k) ts.length) ||| 1#64 <<< k else keyS ts st k x := by
  funext x
  unfold keyS
  show (if (keyT ts (nth st k) ts.length == x) = true then setTo _ k ||| 1#64 <<< k else setTo _ k) = _
  by_cases e : x = keyT ts (nth st k) ts.length
  · subst e; simp
  · rw [if_neg e, if_neg (by simp; exact fun h => e h.symm)]
theorem keyS_cell (ts : List (BitVec 64)) (st : List Nat) {j : Nat} (hj : j < st.length) : keyS ts st st.length (keyT ts (nth st j) ts.length) = nth (cellR st ts) j := by
  unfold cellR
  rw [nth_mapN _ _ hj]
  unfold keyS
  refine setTo_congr fun k _ => ?_
  rw [Bool.eq_iff_iff, beq_iff_eq]
  exact ⟨fun h => (keyT_alike ts _ _).1 h.symm, fun h => ((keyT_alike ts _ _).2 h).symm⟩
theorem keyT_lt16 (ts : List (BitVec 64)) (v : Nat) (h : ts.length ≤ 16) : keyT ts v ts.length < 65536 :=
  Nat.lt_of_lt_of_le (keyT_lt ts v _) (Nat.pow_le_pow_right (by decide : 0 < 2) h)
set_option maxRecDepth 20000 in
set_option maxHeartbeats 4000000 in
theorem cells_any (st : List Nat) (sa : Option Addr) (sc : Nat) (ts : List (BitVec 64)) (ta : Option Addr) (tc : Nat) (w : World) (hs : RI w sa (natI st)) (ht : RU w ta ts) (h16 : ts.length ≤ 16) (h64 : st.length ≤ 64) :
    Calls Tryd.prog 51 #[.slice sa st.length sc, .slice ta ts.length tc] w fun e w' => (∃ v, e = .returned v ∧ OU w' w.heap.size v (cellR st ts)) ∧ Ext w w' := by
  obtain ⟨i0, hi1, hz0, hz1, hz2⟩ := info_parts u64_info
  have hmm := @run_makeMap Tryd.prog
  have hE0 := (Ext.refl w).alloc (.cells #[.slice ta ts.length tc] 25)
  have hc0 : (w.alloc (.cells #[.slice ta ts.length tc] 25)).cell? ⟨w.heap.size, 0, none⟩ = some (.slice ta ts.length tc) := by simp
  have HS := Lib.hid hs
  have HT := Lib.hid ht
  have H16 := Lib.hid h16
  have HKEY : Hid (∀ (W : World) (v : Nat), Ext (w.alloc (.cells #[.slice ta ts.length tc] 25)) W → Calls Tryd.prog 72 #[.int .i64 (v : Int), .pointer (some ⟨w.heap.size, 0, none⟩)] W fun e w' => e = .returned (.int .i64 (keyT ts v ts.length : Nat)) ∧ W = w') :=
    Lib.hid fun W v hW => cells1_any v w.heap.size ta tc ts W (hW.cell hc0) ((ht.ext hE0).ext hW) h16
  have hF : ∀ args W, (callFunc 72 args).run Tryd.prog W = .ok (.enter 72 args) W := cf_cells1
  clear hs ht hE0 hc0 h16
  go_enter Tryd.func51, Tryd.ntmps51
  go_wp2
  have hM0 : MapU ((w.alloc (.cells #[.slice ta ts.length tc] 25)).alloc (.map #[] 0)) (w.heap.size + 1) 0 (keyS ts st 0) := by
    have := MapU.made (w.alloc (.cells #[.slice ta ts.length tc] 25))
    rw [show (w.alloc (.cells #[.slice ta ts.length tc] 25)).heap.size = w.heap.size + 1 by simp] at this
    exact this
  have HM0 := Lib.hid hM0
  have hE1 : Ext (w.alloc (.cells #[.slice ta ts.length tc] 25)) ((w.alloc (.cells #[.slice ta ts.length tc] 25)).alloc (.map #[] 0)) := (Ext.refl _).alloc _
  have HE1 := Lib.hid hE1
  have hEw : Ext w (w.alloc (.cells #[.slice ta ts.length tc] 25)) := (Ext.refl _).alloc _
  have HEW := Lib.hid hEw
  have hsz : (w.alloc (.cells #[.slice ta ts.length tc] 25)).heap.size = w.heap.size + 1 := by simp
  have HSZ := Lib.hid hsz
  clear hM0 hE1 hEw hsz
  generalize (w.alloc (.cells #[.slice ta ts.length tc] 25)).alloc (.map #[] 0) = W1 at *
  generalize w.alloc (.cells #[.slice ta ts.length tc] 25) = WA at *
  go_loopw [16] (fun i wr => ∃ k : Nat, k ≤ st.length ∧ i = .int .i64 (k : Int) ∧ Ext WA wr ∧ MapU wr (w.heap.size + 1) k (keyS ts st k)) (fun i _ => st.length - (intOf i).toNat)
  case atStart => exact ⟨0, Nat.zero_le _, rfl, HE1.out, HM0.out⟩
  case round =>
    obtain ⟨k, hk, rfl, hE, hM⟩ := hrel
    have HE := Lib.hid hE
    have HM := Lib.hid hM
    by_cases hlt : k < st.length
    · obtain ⟨b2, off, rfl, hb2, hc2⟩ := (HS.out.ext (HEW.out.trans hE)).get (k := k) (by rw [natI_len]; exact hlt)
      rw [nth_natI hlt] at hc2
      have HKL := Lib.hid (keyT_lt16 ts (nth st k) H16.out)
      have HST := Lib.hid (keyS_step ts st k)
      have hbl := hM.lt
      clear hE hM
      go_wp2_with fail
      have hlk : (Instr.lookup 116 (.map (some (w.heap.size + 1))) (.int .i64 (keyT ts (nth st k) ts.length : Nat)) false).run Tryd.prog wr.drew = .ok (.int .u64 (un (keyS ts st k (keyT ts (nth st k) ts.length)))) wr.drew := (HM.out.ext (Ext.refl wr).drew).look HKL.out
      refine wp_region_still_tail 8 (by kernel_rfl) (by kernel_rfl) ?_
      simp only [List.take_succ_cons, List.take_zero, List.drop_succ_cons, List.drop_zero]
      change wpStill _ _ (World.drew _) _ _ _
      repeat still_step
      still_call ((HKEY.out _ _ HE.out.drew).mono fun _ _ h => ⟨h.1, h.2.symm⟩)
      repeat still_step
      refine wpStill_nil ?_
      change wpList _ _ _ _ _ (World.drew _)
      go_wp2_with (at_mapUpdate; refine wpList_upd_on _ rfl _ _ _ 116 rfl _ rfl _ rfl _ rfl _ ((HM.out.ext (Ext.refl wr).drew).ins (by omega) HKL.out _) ?_; intro W2 hW2)
      go_roundw
      case rel =>
        refine ⟨k + 1, hlt, by go_num, Below.grown HE.out.drew hW2.2 HE.out.size (fun q hq => ?_), ?_⟩
        · simp at hq; have := HSZ.out; omega
        · rw [HST.out]; exact hW2.1
      case measure => simp [intOf]; omega
    · obtain rfl : k = st.length := by omega
      clear hE hM
      have hEr : Ext w wr := HEW.out.trans HE.out
      have HER := Lib.hid hEr
      clear hEr
      go_wp2_with fail
      go_loopw [9, 32] (fun v i wz => ∃ k : Nat, k ≤ st.length ∧ i = .int .i64 (k : Int) ∧ GLE wr (cellR st ts) k v wz) (fun _ i _ => st.length - (intOf i).toNat)
      case atStart => exact ⟨0, Nat.zero_le _, rfl, Ext.refl _, World.ownsRow_nil _ _ _ _⟩
      case round =>
        rename World => wz
        obtain ⟨k, hk, rfl, hGL⟩ := hrel
        have hGL : GL wr 58 uv ((cellR st ts).take k) u9 wz := hGL
        have HGL := Lib.hid hGL
        have hcl : (cellR st ts).length = st.length := by simp [cellR]
        by_cases hlt : k < st.length
        · have hE2 := HER.out.trans hGL.e
          obtain ⟨b2, off, rfl, hb2, hc2⟩ := (HS.out.ext hE2).get (k := k) (by rw [natI_len]; exact hlt)
          rw [nth_natI hlt] at hc2
          have HKL := Lib.hid (keyT_lt16 ts (nth st k) H16.out)
          have HEA := Lib.hid (HE.out.trans hGL.e)
          have hlk : (Instr.lookup 116 (.map (some (w.heap.size + 1))) (.int .i64 (keyT ts (nth st k) ts.length : Nat)) false).run Tryd.prog wz = .ok (.int .u64 (un (nth (cellR st ts) k))) wz := by
            have := (HM.out.ext hGL.e).look HKL.out
            rw [keyS_cell ts st hlt] at this
            exact this
          have HLK := Lib.hid hlk
          clear hlk
          have hone : (cellR st ts).take (k + 1) = (cellR st ts).take k ++ [nth (cellR st ts) k] := by
            rw [nth_eq _ _ (by rw [hcl]; exact hlt), List.take_add_one, List.getElem?_eq_getElem (by rw [hcl]; exact hlt)]; rfl
          have HONE1 := Lib.hid hone
          have htk : ((cellR st ts).take k).length = k := by rw [List.length_take]; omega
          have hszz : wr.heap.size ≤ wz.heap.size := hGL.e.size
          have HPA : Hid (∀ o, GL wr 58 uv ((cellR st ts).take k) u9 (wz.alloc o)) := Lib.hid fun o => HGL.out.ext' ((Ext.refl wz).alloc o)
          have HONE : Hid (∀ u ∈ [Value.int .u64 (un (nth (cellR st ts) k))], u.oneCell' = true) := Lib.hid fun u hu => by rw [List.mem_singleton.1 hu]; rfl
          clear hGL hE2 hone
          generalize hxk : nth (cellR st ts) k = xk at HLK HONE HONE1
          clear hxk
          go_wp2_with fail
          refine (HKEY.out _ _ HEA.out).mono ?_
          rintro _ _ ⟨rfl, rfl⟩
          go_wp2_with (first | (at_lookup; refine wpList_look1_on _ rfl _ _ 116 rfl _ rfl _ rfl _ HLK.out ?_) | (at_builtin; refine wpList_append_lies _ rfl _ _ 25 rfl wr.heap.size 58 i0 _ 1 8 Tryd.underlying25 hi1 hz0 hz1 hz2 rfl (by decide) u9 ((cellR st ts).take k).length _ rfl (HPA.out _).own ⟨wz.heap.size, 0, none⟩ 1 1 [.int .u64 (un xk)] rfl rfl (cell_one_new _ _ _) HONE.out (by decide) (by unfold maxLen; omega) (by omega) (Nat.le_trans hszz (by simp)) (wz.heap.size + 1) (by simp) ?_; intro gx cap W1 hown hgrow hat hlt2; have hpush := (HPA.out _).push (x := xk) hown hgrow; have HPU := Lib.hid hpush; clear hpush hown hgrow hat))
          go_roundw
          case rel => exact ⟨k + 1, hlt, by go_num, by show GL _ _ _ ((cellR st ts).take (k + 1)) _ _; rw [HONE1.out]; rw [htk] at HPU; exact HPU.out⟩
          case measure => simp [intOf]; omega
        · obtain rfl : k = st.length := by omega
          have hfull : (cellR st ts).take st.length = cellR st ts := List.take_of_length_le (by omega)
          rw [hfull] at hGL
          have HG := Lib.hid hGL
          clear hGL
          go_wp2
          go_ret
          exact ⟨⟨u9, rfl, OU.mono HG.out.own HER.out.size⟩, HER.out.trans HG.out.e⟩
end Wt

/- A model in memory of its own, one cell of a row written; the model after the announcement whether a formula is true. -/
namespace Wt
open Go Go.RowKit Go.Maps Go.Proofs Fm

theorem nth_setS {α : Type} [Inhabited α] {l : List α} {k : Nat} (x : α) (h : k < l.length) : nth (l.set k x) k = x := by
  rw [nth_eq _ _ (by simpa using h)]; simp
theorem nth_setO {α : Type} [Inhabited α] {l : List α} {k j : Nat} (x : α) (h : j ≠ k) : nth (l.set k x) j = nth l j := by
  unfold nth
  rw [List.getD_eq_getElem?_getD, List.getD_eq_getElem?_getD, List.getElem?_set_ne (by omega)]
section
variable {B : Nat} {w : World} {va ra : Option Addr} {vc rc : Nat} {A A' : Mo} {svs : List Value}
/-- Where a row lies. -/
theorem FrM.row (h : FrM B w va ra vc rc A svs) {q : Nat} (hq : q < A.rel.length) : ∃ b a c, ra = some ⟨b, 0, none⟩ ∧ B ≤ b ∧ b < w.heap.size ∧ nth svs q = .slice a (nth A.rel q).length c ∧ w.cell? ⟨b, q, none⟩ = some (.slice a (nth A.rel q).length c) ∧ RU w a (nth A.rel q) := by
  obtain ⟨a, c, hv, hu⟩ := RU_of_OU (h.rw q hq) (h.big.2.2 q hq)
  rcases h.orr.2 with ⟨e, h0⟩ | ⟨g, cap, cur, e, hb, hg, hnc, hcm, hcs, htake⟩
  · have := h.rl; omega
  · simp only [Value.slice.injEq] at e
    obtain ⟨rfl, -, -⟩ := e
    refine ⟨g, a, c, rfl, hb, (Array.getElem?_eq_some_iff.1 hg).1, hv, ?_, hu⟩
    rw [cell_of_row w g _ cur _ (0, 0) hg, ← hv]
    have hl := h.rl
    have h1 : svs[q]? = some (nth svs q) := by rw [nth_eq svs q (by omega)]; simp [show q < svs.length by omega]
    have h2 : (cur.toList.take (svs.length * 1))[q]? = some (nth svs q) := by rw [htake]; exact h1
    rw [List.getElem?_take, if_pos (by omega)] at h2
    simpa using h2
theorem ownRow_set {T sz n g k : Nat} {v u : Value} {xs : List Value} (h : w.ownsRow B T sz v n xs) (hv : v.ownBlock = none ∨ v.ownBlock ≠ some g) : (w.setCell ⟨g, k, none⟩ u).ownsRow B T sz v n xs :=
  h.kept (row := some g) ⟨rfl, rfl, rfl, by simp, fun j _ hj => heap_setCell_other w ⟨g, k, none⟩ j _ (fun e => hj (by simp [e]))⟩ hv
/-- One cell of a row is written. -/
theorem FrM.set (h : FrM B w va ra vc rc A svs) {q k : Nat} (hq : q < A.rel.length) (hk : k < (nth A.rel q).length) (s : BitVec 64) (h1 : A'.val = A.val) (h2 : A'.rel.length = A.rel.length) (h3 : ∀ j, j ≠ q → nth A'.rel j = nth A.rel j) (h4 : nth A'.rel q = (nth A.rel q).set k s) :
    ∃ g c, nth svs q = .slice (some ⟨g, 0, none⟩) (nth A.rel q).length c ∧ B ≤ g ∧ g < w.heap.size ∧ w.frozen? ⟨g, k, none⟩ = false ∧ w.cell? ⟨g, k, none⟩ = some (uv (nth (nth A.rel q) k)) ∧ FrM B (w.setCell ⟨g, k, none⟩ (uv s)) va ra vc rc A' svs := by
  obtain ⟨b, a, c, -, -, -, hv, -, hu⟩ := h.row hq
  have ho := h.rw q hq
  rw [hv] at ho
  obtain ⟨g, rfl, hb, hg, hf, -, hset⟩ := OU.set ho hk s
  obtain ⟨b2, o2, e2, -, hc2⟩ := hu.get hk
  simp only [Option.some.injEq, Addr.mk.injEq] at e2
  obtain ⟨rfl, rfl, -⟩ := e2
  rw [Nat.zero_add] at hc2
  have hob : (nth svs q).ownBlock = some g := by rw [hv]; rfl
  have hap : ∀ j, j < svs.length → j ≠ q → (nth svs j).ownBlock = none ∨ (nth svs j).ownBlock ≠ some g := fun j hj hne => by
    rcases Nat.lt_or_ge j q with hlt | hge
    · rcases h.dj j q hlt (by rw [h.rl]; exact hq) with h5 | h5
      · rw [hob] at h5; cases h5
      · rw [hob] at h5; exact .inr fun e => h5 e.symm
    · rcases h.dj q j (by omega) hj with h5 | h5
      · exact .inl h5
      · rw [hob] at h5; exact .inr h5
  have hwr : (nth A.rel q).length = ((nth A.rel q).set k s).length := by simp
  refine ⟨g, c, hv, hb, hg, hf, hc2, ⟨?_, ?_, by rw [h.rl, h2], fun j hj => ?_, h.dj, by rw [h1]; exact h.dv, by rw [h1]; exact h.big.1, by rw [h2]; exact h.big.2.1, fun j hj => ?_⟩⟩
  · rw [h1]
    refine ownRow_set h.ov ?_
    rcases h.dv q (by rw [h.rl]; exact hq) with h5 | h5
    · rw [hob] at h5; cases h5
    · rw [hob] at h5; exact .inr fun e => h5 e.symm
  · rw [h2]
    refine ownRow_set h.orr ?_
    rcases own_ne h.orr (h.rw q hq) (by decide) with h5 | h5
    · exact .inl h5
    · rw [hob] at h5; exact .inr h5
  · by_cases hjq : j = q
    · subst hjq
      rw [h4, hv]
      have := hset
      unfold OU at this ⊢
      exact this
    · rw [h3 j hjq]
      exact ownRow_set (h.rw j (by omega)) (hap j (by rw [h.rl]; omega) hjq)
  · by_cases hjq : j = q
    · subst hjq; rw [h4, List.length_set]; exact h.big.2.2 j hq
    · rw [h3 j hjq]; exact h.big.2.2 j (by omega)
end
/-- A world's set after the announcement whether s. -/
def whE (s : BitVec 64) (w : Nat) (x : BitVec 64) : BitVec 64 := if bt s w then x &&& s else x &&& ~~~ s
def whP (s : BitVec 64) (r : List (BitVec 64)) (j : Nat) : List (BitVec 64) := (List.range r.length).map fun w => if w < j then whE s w (nth r w) else nth r w
def whR (s : BitVec 64) (R : List (List (BitVec 64))) (a j : Nat) : List (List (BitVec 64)) := (List.range R.length).map fun q => if q < a then whRow s (nth R q) else if q = a then whP s (nth R q) j else nth R q
theorem nth_mapR {β : Type} [Inhabited β] (F : Nat → β) {n k : Nat} (h : k < n) : nth ((List.range n).map F) k = F k := by
  rw [nth_mapN _ _ (by simpa using h), nth_range h]
theorem whP_len (s : BitVec 64) (r : List (BitVec 64)) (j : Nat) : (whP s r j).length = r.length := by simp [whP]
theorem whR_len (s : BitVec 64) (R : List (List (BitVec 64))) (a j : Nat) : (whR s R a j).length = R.length := by simp [whR]
theorem whP_zero (s : BitVec 64) (r : List (BitVec 64)) : whP s r 0 = r := nth_ext (whP_len _ _ _) fun k hk => by
  rw [whP_len] at hk
  unfold whP
  rw [nth_mapR _ hk]; simp
theorem whP_full (s : BitVec 64) (r : List (BitVec 64)) : whP s r r.length = whRow s r := nth_ext (by simp [whP, whRow]) fun k hk => by
  rw [whP_len] at hk
  unfold whP whRow
  rw [nth_mapR _ hk, nth_mapR _ hk, if_pos hk]
  rfl
theorem whP_nth (s : BitVec 64) (r : List (BitVec 64)) {j : Nat} (h : j < r.length) : nth (whP s r j) j = nth r j := by
  unfold whP
  rw [nth_mapR _ h, if_neg (by omega)]
theorem whP_step (s : BitVec 64) (r : List (BitVec 64)) {j : Nat} (h : j < r.length) : whP s r (j + 1) = (whP s r j).set j (whE s j (nth r j)) := nth_ext (by simp [whP]) fun k hk => by
  rw [whP_len] at hk
  by_cases hkj : k = j
  · subst hkj
    rw [nth_setS _ (by rw [whP_len]; exact hk)]
    unfold whP
    rw [nth_mapR _ hk, if_pos (by omega)]
  · rw [nth_setO _ hkj]
    unfold whP
    rw [nth_mapR _ hk, nth_mapR _ hk]
    by_cases hlt : k < j
    · rw [if_pos hlt, if_pos (by omega)]
    · rw [if_neg hlt, if_neg (by omega)]
theorem whR_nth (s : BitVec 64) (R : List (List (BitVec 64))) {a j : Nat} (h : a < R.length) : nth (whR s R a j) a = whP s (nth R a) j := by
  unfold whR
  rw [nth_mapR _ h, if_neg (by omega), if_pos rfl]
theorem whR_other (s : BitVec 64) (R : List (List (BitVec 64))) {a j q : Nat} (h : q ≠ a) : nth (whR s R a (j + 1)) q = nth (whR s R a j) q := by
  by_cases hq : q < R.length
  · unfold whR
    rw [nth_mapR _ hq, nth_mapR _ hq, if_neg h, if_neg h]
  · rw [nth_out (by rw [whR_len]; omega), nth_out (by rw [whR_len]; omega)]
theorem whR_zero (s : BitVec 64) (R : List (List (BitVec 64))) : whR s R 0 0 = R := nth_ext (whR_len _ _ _ _) fun k hk => by
  rw [whR_len] at hk
  unfold whR
  rw [nth_mapR _ hk, if_neg (by omega)]
  by_cases h : k = 0
  · rw [if_pos h, whP_zero]
  · rw [if_neg h]
theorem whR_next (s : BitVec 64) (R : List (List (BitVec 64))) {a : Nat} : whR s R (a + 1) 0 = whR s R a (nth R a).length := nth_ext (by rw [whR_len, whR_len]) fun k hk => by
  rw [whR_len] at hk
  unfold whR
  rw [nth_mapR _ hk, nth_mapR _ hk]
  rcases Nat.lt_trichotomy k a with h | h | h
  · rw [if_pos (by omega), if_pos h]
  · subst h; rw [if_pos (by omega), if_neg (by omega), if_pos rfl, whP_full]
  · rw [if_neg (show ¬ k < a + 1 by omega), if_neg (show ¬ k < a by omega), if_neg (show ¬ k = a by omega)]
    by_cases h2 : k = a + 1
    · rw [if_pos h2, whP_zero]
    · rw [if_neg h2]
theorem whR_full (s : BitVec 64) (R : List (List (BitVec 64))) : whR s R R.length 0 = R.map (whRow s) := nth_ext (by simp [whR]) fun k hk => by
  rw [whR_len] at hk
  unfold whR
  rw [nth_mapR _ hk, if_pos hk, nth_mapN _ _ hk]
/-- The rounds of Whether. -/
structure WhI (W0 : World) (B bo : Nat) (W : Int) (V : List (BitVec 64)) (R : List (List (BitVec 64))) (s : BitVec 64) (va ra : Option Addr) (vc rc : Nat) (svs : List Value) (a j : Nat) (wr : World) : Prop where
  fr : FrM B wr va ra vc rc ⟨W, V, whR s R a j⟩ svs
  out : OutAt wr bo (.int .i64 W) (.slice va V.length vc) (.slice ra R.length rc)
  old : Below B W0 wr
  sz : W0.heap.size ≤ wr.heap.size
section
variable {W0 wr : World} {B bo : Nat} {W : Int} {V : List (BitVec 64)} {R : List (List (BitVec 64))} {s : BitVec 64} {va ra : Option Addr} {vc rc : Nat} {svs : List Value} {a j : Nat}
theorem WhI.row (h : WhI W0 B bo W V R s va ra vc rc svs a j wr) {q : Nat} (hq : q < R.length) : ∃ b, ra = some ⟨b, 0, none⟩ ∧ b < wr.heap.size ∧ wr.cell? ⟨b, q, none⟩ = some (nth svs q) := by
  obtain ⟨b, p, c, h1, _, h2, h3, h4, _⟩ := h.fr.row (q := q) (by rw [whR_len]; exact hq)
  exact ⟨b, h1, h2, by rw [h3]; exact h4⟩
theorem WhI.step (h : WhI W0 B bo W V R s va ra vc rc svs a j wr) (ha : a < R.length) (hj : j < (nth R a).length) (hsv : ∀ q g, q < R.length → (nth svs q).ownBlock = some g → g < bo) :
    ∃ g c, nth svs a = .slice (some ⟨g, 0, none⟩) (nth R a).length c ∧ g < wr.heap.size ∧ wr.frozen? ⟨g, j, none⟩ = false ∧ wr.cell? ⟨g, j, none⟩ = some (.int .u64 (un (nth (nth R a) j))) ∧ WhI W0 B bo W V R s va ra vc rc svs a (j + 1) (wr.setCell ⟨g, j, none⟩ (.int .u64 (un (whE s j (nth (nth R a) j))))) := by
  have e1 : nth (whR s R a j) a = whP s (nth R a) j := whR_nth s R ha
  obtain ⟨g, c, h1, h2, h3, h4, h5, h6⟩ := h.fr.set (A' := ⟨W, V, whR s R a (j + 1)⟩) (q := a) (k := j) (by rw [whR_len]; exact ha) (by rw [e1, whP_len]; exact hj) (whE s j (nth (nth R a) j)) rfl (by rw [whR_len, whR_len]) (fun q hq => whR_other s R hq) (by rw [whR_nth s R ha, e1]; exact whP_step s _ hj)
  have e1 : nth (whR s R a j) a = whP s (nth R a) j := e1
  dsimp only at h1 h5
  rw [e1, whP_len] at h1
  rw [e1, whP_nth s _ hj] at h5
  refine ⟨g, c, h1, h3, h4, h5, h6, h.out.other (fun e => ?_), h.old.setCell h2 _, by simpa using h.sz⟩
  have := hsv a g ha (by rw [h1]; rfl)
  omega
theorem WhI.zero {M : Mo} (hm : FrM B wr va ra vc rc M svs) (ho : OutAt wr bo (.int .i64 M.worlds) (.slice va M.val.length vc) (.slice ra M.rel.length rc)) (hB : Below B W0 wr) (hs : W0.heap.size ≤ wr.heap.size) : WhI W0 B bo M.worlds M.val M.rel s va ra vc rc svs 0 0 wr :=
  ⟨by rw [whR_zero]; exact hm, ho, hB, hs⟩
theorem WhI.next (h : WhI W0 B bo W V R s va ra vc rc svs a (nth R a).length wr) : WhI W0 B bo W V R s va ra vc rc svs (a + 1) 0 wr :=
  ⟨by rw [whR_next]; exact h.fr, h.out, h.old, h.sz⟩
theorem WhI.drew (h : WhI W0 B bo W V R s va ra vc rc svs a j wr) : WhI W0 B bo W V R s va ra vc rc svs a j wr.drew :=
  ⟨h.fr.agree (Agree.ofExt (Ext.refl _).drew), h.out.ext (Ext.refl _).drew, h.old.drew, h.sz⟩
end
end Wt
