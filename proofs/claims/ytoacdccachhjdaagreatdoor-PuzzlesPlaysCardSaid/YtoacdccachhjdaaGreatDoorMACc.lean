/- Walks: math/bits.OnesCount below 64; puzzles.Some, puzzles.Rounds (printed by gen_zs.py). -/
import Derived.Test.YtoacdccachhjdaaGreatDoorMAAt
import Derived.Test.YtoacdccachhjdaaGreatDoorMAAq
namespace Wt
open Go Go.RowKit Go.Maps Go.Proofs Fm

def Ones64Z (v o : Nat) : Prop := ∀ w, Calls Tryz.prog 118 #[.int .u64 (v : Int)] w fun e w' => e = .returned (.int .i64 (o : Int)) ∧ w = w'
theorem of8Z {P : Nat → Prop} (h0 : P 0) (h1 : P 1) (h2 : P 2) (h3 : P 3) (h4 : P 4) (h5 : P 5) (h6 : P 6) (h7 : P 7) (v : Nat) (hv : v < 8) : P v := by
  rcases (show v = 0 ∨ v = 1 ∨ v = 2 ∨ v = 3 ∨ v = 4 ∨ v = 5 ∨ v = 6 ∨ v = 7 by omega) with rfl | rfl | rfl | rfl | rfl | rfl | rfl | rfl <;> assumption
theorem of64Z {P : Nat → Prop} (h : ∀ a, a < 8 → ∀ b, b < 8 → P (8 * a + b)) (v : Nat) (hv : v < 64) : P v := by
  have h1 := h (v / 8) (by omega) (v % 8) (by omega)
  rwa [show 8 * (v / 8) + v % 8 = v by omega] at h1
theorem ones_0Z : Ones64Z 0 (onesN 0) := by
  intro w
  go_enter Tryz.func118, Tryz.ntmps118
  go_wp2
  go_ret
  exact ⟨by kernel_rfl, rfl⟩
theorem ones_1Z : Ones64Z 1 (onesN 1) := by
  intro w
  go_enter Tryz.func118, Tryz.ntmps118
  go_wp2
  go_ret
  exact ⟨by kernel_rfl, rfl⟩
theorem ones_2Z : Ones64Z 2 (onesN 2) := by
  intro w
  go_enter Tryz.func118, Tryz.ntmps118
  go_wp2
  go_ret
  exact ⟨by kernel_rfl, rfl⟩
theorem ones_3Z : Ones64Z 3 (onesN 3) := by
  intro w
  go_enter Tryz.func118, Tryz.ntmps118
  go_wp2
  go_ret
  exact ⟨by kernel_rfl, rfl⟩
theorem ones_4Z : Ones64Z 4 (onesN 4) := by
  intro w
  go_enter Tryz.func118, Tryz.ntmps118
  go_wp2
  go_ret
  exact ⟨by kernel_rfl, rfl⟩
theorem ones_5Z : Ones64Z 5 (onesN 5) := by
  intro w
  go_enter Tryz.func118, Tryz.ntmps118
  go_wp2
  go_ret
  exact ⟨by kernel_rfl, rfl⟩
theorem ones_6Z : Ones64Z 6 (onesN 6) := by
  intro w
  go_enter Tryz.func118, Tryz.ntmps118
  go_wp2
  go_ret
  exact ⟨by kernel_rfl, rfl⟩
theorem ones_7Z : Ones64Z 7 (onesN 7) := by
  intro w
  go_enter Tryz.func118, Tryz.ntmps118
  go_wp2
  go_ret
  exact ⟨by kernel_rfl, rfl⟩
theorem ones_8Z : Ones64Z 8 (onesN 8) := by
  intro w
  go_enter Tryz.func118, Tryz.ntmps118
  go_wp2
  go_ret
  exact ⟨by kernel_rfl, rfl⟩
theorem ones_9Z : Ones64Z 9 (onesN 9) := by
  intro w
  go_enter Tryz.func118, Tryz.ntmps118
  go_wp2
  go_ret
  exact ⟨by kernel_rfl, rfl⟩
theorem ones_10Z : Ones64Z 10 (onesN 10) := by
  intro w
  go_enter Tryz.func118, Tryz.ntmps118
  go_wp2
  go_ret
  exact ⟨by kernel_rfl, rfl⟩
theorem ones_11Z : Ones64Z 11 (onesN 11) := by
  intro w
  go_enter Tryz.func118, Tryz.ntmps118
  go_wp2
  go_ret
  exact ⟨by kernel_rfl, rfl⟩
theorem ones_12Z : Ones64Z 12 (onesN 12) := by
  intro w
  go_enter Tryz.func118, Tryz.ntmps118
  go_wp2
  go_ret
  exact ⟨by kernel_rfl, rfl⟩
theorem ones_13Z : Ones64Z 13 (onesN 13) := by
  intro w
  go_enter Tryz.func118, Tryz.ntmps118
  go_wp2
  go_ret
  exact ⟨by kernel_rfl, rfl⟩
theorem ones_14Z : Ones64Z 14 (onesN 14) := by
  intro w
  go_enter Tryz.func118, Tryz.ntmps118
  go_wp2
  go_ret
  exact ⟨by kernel_rfl, rfl⟩
theorem ones_15Z : Ones64Z 15 (onesN 15) := by
  intro w
  go_enter Tryz.func118, Tryz.ntmps118
  go_wp2
  go_ret
  exact ⟨by kernel_rfl, rfl⟩
theorem ones_16Z : Ones64Z 16 (onesN 16) := by
  intro w
  go_enter Tryz.func118, Tryz.ntmps118
  go_wp2
  go_ret
  exact ⟨by kernel_rfl, rfl⟩
theorem ones_17Z : Ones64Z 17 (onesN 17) := by
  intro w
  go_enter Tryz.func118, Tryz.ntmps118
  go_wp2
  go_ret
  exact ⟨by kernel_rfl, rfl⟩
theorem ones_18Z : Ones64Z 18 (onesN 18) := by
  intro w
  go_enter Tryz.func118, Tryz.ntmps118
  go_wp2
  go_ret
  exact ⟨by kernel_rfl, rfl⟩
theorem ones_19Z : Ones64Z 19 (onesN 19) := by
  intro w
  go_enter Tryz.func118, Tryz.ntmps118
  go_wp2
  go_ret
  exact ⟨by kernel_rfl, rfl⟩
theorem ones_20Z : Ones64Z 20 (onesN 20) := by
  intro w
  go_enter Tryz.func118, Tryz.ntmps118
  go_wp2
  go_ret
  exact ⟨by kernel_rfl, rfl⟩
theorem ones_21Z : Ones64Z 21 (onesN 21) := by
  intro w
  go_enter Tryz.func118, Tryz.ntmps118
  go_wp2
  go_ret
  exact ⟨by kernel_rfl, rfl⟩
theorem ones_22Z : Ones64Z 22 (onesN 22) := by
  intro w
  go_enter Tryz.func118, Tryz.ntmps118
  go_wp2
  go_ret
  exact ⟨by kernel_rfl, rfl⟩
theorem ones_23Z : Ones64Z 23 (onesN 23) := by
  intro w
  go_enter Tryz.func118, Tryz.ntmps118
  go_wp2
  go_ret
  exact ⟨by kernel_rfl, rfl⟩
theorem ones_24Z : Ones64Z 24 (onesN 24) := by
  intro w
  go_enter Tryz.func118, Tryz.ntmps118
  go_wp2
  go_ret
  exact ⟨by kernel_rfl, rfl⟩
theorem ones_25Z : Ones64Z 25 (onesN 25) := by
  intro w
  go_enter Tryz.func118, Tryz.ntmps118
  go_wp2
  go_ret
  exact ⟨by kernel_rfl, rfl⟩
theorem ones_26Z : Ones64Z 26 (onesN 26) := by
  intro w
  go_enter Tryz.func118, Tryz.ntmps118
  go_wp2
  go_ret
  exact ⟨by kernel_rfl, rfl⟩
theorem ones_27Z : Ones64Z 27 (onesN 27) := by
  intro w
  go_enter Tryz.func118, Tryz.ntmps118
  go_wp2
  go_ret
  exact ⟨by kernel_rfl, rfl⟩
theorem ones_28Z : Ones64Z 28 (onesN 28) := by
  intro w
  go_enter Tryz.func118, Tryz.ntmps118
  go_wp2
  go_ret
  exact ⟨by kernel_rfl, rfl⟩
theorem ones_29Z : Ones64Z 29 (onesN 29) := by
  intro w
  go_enter Tryz.func118, Tryz.ntmps118
  go_wp2
  go_ret
  exact ⟨by kernel_rfl, rfl⟩
theorem ones_30Z : Ones64Z 30 (onesN 30) := by
  intro w
  go_enter Tryz.func118, Tryz.ntmps118
  go_wp2
  go_ret
  exact ⟨by kernel_rfl, rfl⟩
theorem ones_31Z : Ones64Z 31 (onesN 31) := by
  intro w
  go_enter Tryz.func118, Tryz.ntmps118
  go_wp2
  go_ret
  exact ⟨by kernel_rfl, rfl⟩
theorem ones_32Z : Ones64Z 32 (onesN 32) := by
  intro w
  go_enter Tryz.func118, Tryz.ntmps118
  go_wp2
  go_ret
  exact ⟨by kernel_rfl, rfl⟩
theorem ones_33Z : Ones64Z 33 (onesN 33) := by
  intro w
  go_enter Tryz.func118, Tryz.ntmps118
  go_wp2
  go_ret
  exact ⟨by kernel_rfl, rfl⟩
theorem ones_34Z : Ones64Z 34 (onesN 34) := by
  intro w
  go_enter Tryz.func118, Tryz.ntmps118
  go_wp2
  go_ret
  exact ⟨by kernel_rfl, rfl⟩
theorem ones_35Z : Ones64Z 35 (onesN 35) := by
  intro w
  go_enter Tryz.func118, Tryz.ntmps118
  go_wp2
  go_ret
  exact ⟨by kernel_rfl, rfl⟩
theorem ones_36Z : Ones64Z 36 (onesN 36) := by
  intro w
  go_enter Tryz.func118, Tryz.ntmps118
  go_wp2
  go_ret
  exact ⟨by kernel_rfl, rfl⟩
theorem ones_37Z : Ones64Z 37 (onesN 37) := by
  intro w
  go_enter Tryz.func118, Tryz.ntmps118
  go_wp2
  go_ret
  exact ⟨by kernel_rfl, rfl⟩
theorem ones_38Z : Ones64Z 38 (onesN 38) := by
  intro w
  go_enter Tryz.func118, Tryz.ntmps118
  go_wp2
  go_ret
  exact ⟨by kernel_rfl, rfl⟩
theorem ones_39Z : Ones64Z 39 (onesN 39) := by
  intro w
  go_enter Tryz.func118, Tryz.ntmps118
  go_wp2
  go_ret
  exact ⟨by kernel_rfl, rfl⟩
theorem ones_40Z : Ones64Z 40 (onesN 40) := by
  intro w
  go_enter Tryz.func118, Tryz.ntmps118
  go_wp2
  go_ret
  exact ⟨by kernel_rfl, rfl⟩
theorem ones_41Z : Ones64Z 41 (onesN 41) := by
  intro w
  go_enter Tryz.func118, Tryz.ntmps118
  go_wp2
  go_ret
  exact ⟨by kernel_rfl, rfl⟩
theorem ones_42Z : Ones64Z 42 (onesN 42) := by
  intro w
  go_enter Tryz.func118, Tryz.ntmps118
  go_wp2
  go_ret
  exact ⟨by kernel_rfl, rfl⟩
theorem ones_43Z : Ones64Z 43 (onesN 43) := by
  intro w
  go_enter Tryz.func118, Tryz.ntmps118
  go_wp2
  go_ret
  exact ⟨by kernel_rfl, rfl⟩
theorem ones_44Z : Ones64Z 44 (onesN 44) := by
  intro w
  go_enter Tryz.func118, Tryz.ntmps118
  go_wp2
  go_ret
  exact ⟨by kernel_rfl, rfl⟩
theorem ones_45Z : Ones64Z 45 (onesN 45) := by
  intro w
  go_enter Tryz.func118, Tryz.ntmps118
  go_wp2
  go_ret
  exact ⟨by kernel_rfl, rfl⟩
theorem ones_46Z : Ones64Z 46 (onesN 46) := by
  intro w
  go_enter Tryz.func118, Tryz.ntmps118
  go_wp2
  go_ret
  exact ⟨by kernel_rfl, rfl⟩
theorem ones_47Z : Ones64Z 47 (onesN 47) := by
  intro w
  go_enter Tryz.func118, Tryz.ntmps118
  go_wp2
  go_ret
  exact ⟨by kernel_rfl, rfl⟩
theorem ones_48Z : Ones64Z 48 (onesN 48) := by
  intro w
  go_enter Tryz.func118, Tryz.ntmps118
  go_wp2
  go_ret
  exact ⟨by kernel_rfl, rfl⟩
theorem ones_49Z : Ones64Z 49 (onesN 49) := by
  intro w
  go_enter Tryz.func118, Tryz.ntmps118
  go_wp2
  go_ret
  exact ⟨by kernel_rfl, rfl⟩
theorem ones_50Z : Ones64Z 50 (onesN 50) := by
  intro w
  go_enter Tryz.func118, Tryz.ntmps118
  go_wp2
  go_ret
  exact ⟨by kernel_rfl, rfl⟩
theorem ones_51Z : Ones64Z 51 (onesN 51) := by
  intro w
  go_enter Tryz.func118, Tryz.ntmps118
  go_wp2
  go_ret
  exact ⟨by kernel_rfl, rfl⟩
theorem ones_52Z : Ones64Z 52 (onesN 52) := by
  intro w
  go_enter Tryz.func118, Tryz.ntmps118
  go_wp2
  go_ret
  exact ⟨by kernel_rfl, rfl⟩
theorem ones_53Z : Ones64Z 53 (onesN 53) := by
  intro w
  go_enter Tryz.func118, Tryz.ntmps118
  go_wp2
  go_ret
  exact ⟨by kernel_rfl, rfl⟩
theorem ones_54Z : Ones64Z 54 (onesN 54) := by
  intro w
  go_enter Tryz.func118, Tryz.ntmps118
  go_wp2
  go_ret
  exact ⟨by kernel_rfl, rfl⟩
theorem ones_55Z : Ones64Z 55 (onesN 55) := by
  intro w
  go_enter Tryz.func118, Tryz.ntmps118
  go_wp2
  go_ret
  exact ⟨by kernel_rfl, rfl⟩
theorem ones_56Z : Ones64Z 56 (onesN 56) := by
  intro w
  go_enter Tryz.func118, Tryz.ntmps118
  go_wp2
  go_ret
  exact ⟨by kernel_rfl, rfl⟩
theorem ones_57Z : Ones64Z 57 (onesN 57) := by
  intro w
  go_enter Tryz.func118, Tryz.ntmps118
  go_wp2
  go_ret
  exact ⟨by kernel_rfl, rfl⟩
theorem ones_58Z : Ones64Z 58 (onesN 58) := by
  intro w
  go_enter Tryz.func118, Tryz.ntmps118
  go_wp2
  go_ret
  exact ⟨by kernel_rfl, rfl⟩
theorem ones_59Z : Ones64Z 59 (onesN 59) := by
  intro w
  go_enter Tryz.func118, Tryz.ntmps118
  go_wp2
  go_ret
  exact ⟨by kernel_rfl, rfl⟩
theorem ones_60Z : Ones64Z 60 (onesN 60) := by
  intro w
  go_enter Tryz.func118, Tryz.ntmps118
  go_wp2
  go_ret
  exact ⟨by kernel_rfl, rfl⟩
theorem ones_61Z : Ones64Z 61 (onesN 61) := by
  intro w
  go_enter Tryz.func118, Tryz.ntmps118
  go_wp2
  go_ret
  exact ⟨by kernel_rfl, rfl⟩
theorem ones_62Z : Ones64Z 62 (onesN 62) := by
  intro w
  go_enter Tryz.func118, Tryz.ntmps118
  go_wp2
  go_ret
  exact ⟨by kernel_rfl, rfl⟩
theorem ones_63Z : Ones64Z 63 (onesN 63) := by
  intro w
  go_enter Tryz.func118, Tryz.ntmps118
  go_wp2
  go_ret
  exact ⟨by kernel_rfl, rfl⟩
theorem ones_r0Z (b : Nat) (hb : b < 8) : Ones64Z (8 * 0 + b) (onesN (8 * 0 + b)) := of8Z (P := fun b => Ones64Z (8 * 0 + b) (onesN (8 * 0 + b))) ones_0Z ones_1Z ones_2Z ones_3Z ones_4Z ones_5Z ones_6Z ones_7Z b hb
theorem ones_r1Z (b : Nat) (hb : b < 8) : Ones64Z (8 * 1 + b) (onesN (8 * 1 + b)) := of8Z (P := fun b => Ones64Z (8 * 1 + b) (onesN (8 * 1 + b))) ones_8Z ones_9Z ones_10Z ones_11Z ones_12Z ones_13Z ones_14Z ones_15Z b hb
theorem ones_r2Z (b : Nat) (hb : b < 8) : Ones64Z (8 * 2 + b) (onesN (8 * 2 + b)) := of8Z (P := fun b => Ones64Z (8 * 2 + b) (onesN (8 * 2 + b))) ones_16Z ones_17Z ones_18Z ones_19Z ones_20Z ones_21Z ones_22Z ones_23Z b hb
theorem ones_r3Z (b : Nat) (hb : b < 8) : Ones64Z (8 * 3 + b) (onesN (8 * 3 + b)) := of8Z (P := fun b => Ones64Z (8 * 3 + b) (onesN (8 * 3 + b))) ones_24Z ones_25Z ones_26Z ones_27Z ones_28Z ones_29Z ones_30Z ones_31Z b hb
theorem ones_r4Z (b : Nat) (hb : b < 8) : Ones64Z (8 * 4 + b) (onesN (8 * 4 + b)) := of8Z (P := fun b => Ones64Z (8 * 4 + b) (onesN (8 * 4 + b))) ones_32Z ones_33Z ones_34Z ones_35Z ones_36Z ones_37Z ones_38Z ones_39Z b hb
theorem ones_r5Z (b : Nat) (hb : b < 8) : Ones64Z (8 * 5 + b) (onesN (8 * 5 + b)) := of8Z (P := fun b => Ones64Z (8 * 5 + b) (onesN (8 * 5 + b))) ones_40Z ones_41Z ones_42Z ones_43Z ones_44Z ones_45Z ones_46Z ones_47Z b hb
theorem ones_r6Z (b : Nat) (hb : b < 8) : Ones64Z (8 * 6 + b) (onesN (8 * 6 + b)) := of8Z (P := fun b => Ones64Z (8 * 6 + b) (onesN (8 * 6 + b))) ones_48Z ones_49Z ones_50Z ones_51Z ones_52Z ones_53Z ones_54Z ones_55Z b hb
theorem ones_r7Z (b : Nat) (hb : b < 8) : Ones64Z (8 * 7 + b) (onesN (8 * 7 + b)) := of8Z (P := fun b => Ones64Z (8 * 7 + b) (onesN (8 * 7 + b))) ones_56Z ones_57Z ones_58Z ones_59Z ones_60Z ones_61Z ones_62Z ones_63Z b hb
theorem ones64Z (v : Nat) (hv : v < 64) : Ones64Z v (onesN v) := of64Z (P := fun v => Ones64Z v (onesN v)) (fun a ha => of8Z (P := fun a => ∀ b, b < 8 → Ones64Z (8 * a + b) (onesN (8 * a + b))) ones_r0Z ones_r1Z ones_r2Z ones_r3Z ones_r4Z ones_r5Z ones_r6Z ones_r7Z a ha) v hv
set_option maxHeartbeats 1000000 in
theorem onesZ_any (v : Nat) (hv : v < 64) (w : World) :
    Calls Tryz.prog 78 #[.int .u64 (v : Int)] w fun e w' => e = .returned (.int .i64 (onesN v : Int)) ∧ w = w' := by
  have H := Lib.hid (ones64Z v hv)
  go_enter Tryz.func78, Tryz.ntmps78
  go_wp2_with (go_at_call 118; refine (H.out _).mono ?_; rintro _ _ ⟨rfl, rfl⟩)
  go_ret
  exact ⟨rfl, rfl⟩
/-- The table of "at least k of n facts". -/
def someP (k : Int) (v : Nat) : Bool := decide (k ≤ (onesN v : Int))
def someT (n : Nat) (k : Int) : BitVec 64 := setTo (someP k) (2 ^ n)
theorem setTo_fullZ (p : Nat → Bool) {n : Nat} (hn : n ≤ 6) : setTo p (2 ^ n) &&& ~~~ fullB n = 0#64 := andNot_zero.2 fun k hk h => by
  rw [bt_setTo p hk] at h
  simp at h
  rw [bt_full hn hk]; simp; exact h.1
theorem setTo_nextZ (p : Nat → Bool) {k : Nat} : setTo p (k + 1) = if p k = true then setTo p k ||| 1#64 <<< k else setTo p k := rfl
def RetSoZ (l : List Nd) (c : Int) (e : Ending) (w w' : World) : Prop := ∃ a cp, e = .returned (.tuple #[.slice a l.length cp, .int .i64 c]) ∧ RN w' a l ∧ Ext w w'
set_option maxRecDepth 20000 in
set_option maxHeartbeats 4000000 in
theorem some_any (n : Nat) (k : Int) (hn : n ≤ 6) (w : World) :
    Calls Tryz.prog 28 #[.int .i64 (n : Int), .int .i64 k] w fun e w' => RetSoZ (decF n (someT n k)) 0 e w w' := by
  have d0 : decide ((n : Int) < 0) = false := decide_eq_false (by omega)
  have d1 : decide ((6 : Int) < (n : Int)) = false := decide_eq_false (by omega)
  have h63 : n < 63 := by omega
  have HFT := Lib.hid (fun W => fromTable_any (someT n k) n hn (setTo_fullZ _ hn) W)
  obtain ⟨q, hq⟩ : ∃ q : Nat, q = 2 ^ n := ⟨_, rfl⟩
  have hp : p2 n = (q : Int) := by rw [hq]; rfl
  have hq64 : q ≤ 64 := by
    have : 2 ^ n ≤ 2 ^ 6 := Nat.pow_le_pow_right (by omega) hn
    omega
  have HT : Hid (someT n k = setTo (someP k) q) := Lib.hid (by rw [hq]; rfl)
  have HST : Hid (∀ v, setTo (someP k) (v + 1) = if someP k v = true then setTo (someP k) v ||| 1#64 <<< v else setTo (someP k) v) := Lib.hid fun v => rfl
  have HPV : Hid (∀ v, someP k v = decide (k ≤ (onesN v : Int))) := Lib.hid fun v => rfl
  have HZ : Hid (setTo (someP k) 0 = 0#64) := Lib.hid rfl
  have HON : Hid (∀ v : Nat, v < 64 → ∀ W, Calls Tryz.prog 78 #[.int .u64 (v : Int)] W fun e w' => e = .returned (.int .i64 (onesN v : Int)) ∧ W = w') := Lib.hid fun v hv W => onesZ_any v hv W
  clear hq
  generalize decF n (someT n k) = DF at *
  rw [HT.out] at HFT
  generalize setTo (someP k) = T at *
  generalize someP k = P at *
  go_enter Tryz.func28, Tryz.ntmps28
  go_wp2_with fail
  go_loopw [6, 16] (fun t i wr => ∃ v : Nat, v ≤ q ∧ i = .int .i64 (v : Int) ∧ t = .int .u64 (un (T v)) ∧ wr = w) (fun _ i _ => q - (RowKit.intOf i).toNat)
  case atStart => exact ⟨0, Nat.zero_le _, rfl, by rw [HZ.out]; rfl, rfl⟩
  case round =>
    obtain ⟨v, hv, rfl, rfl, rfl⟩ := hrel
    by_cases hvq : v < q
    · have hv64 : v < 64 := by omega
      have HO := Lib.hid (HON.out v hv64 wr)
      have HN := Lib.hid (HST.out v)
      have HB := Lib.hid (HPV.out v)
      generalize onesN v = o at *
      generalize T v = X at *
      go_wp2_with fail
      refine HO.out.mono ?_
      rintro _ _ ⟨rfl, rfl⟩
      by_cases hc : k ≤ (o : Int)
      · have d2 : decide (k ≤ (o : Int)) = true := decide_eq_true hc
        have HN2 : Hid (T (v + 1) = X ||| 1#64 <<< v) := Lib.hid (by rw [HN.out, HB.out, d2]; rfl)
        clear hc
        dsimp only
        go_wp2_with fail
        go_roundw
        case rel => exact ⟨v + 1, hvq, by go_num, by rw [HN2.out], trivial⟩
        case measure => simp [RowKit.intOf]; omega
      · have d2 : decide (k ≤ (o : Int)) = false := decide_eq_false hc
        have HN2 : Hid (T (v + 1) = X) := Lib.hid (by rw [HN.out, HB.out, d2]; rfl)
        clear hc
        dsimp only
        go_wp2_with fail
        go_roundw
        case rel => exact ⟨v + 1, hvq, by go_num, by rw [HN2.out], trivial⟩
        case measure => simp [RowKit.intOf]; omega
    · obtain rfl : v = q := by omega
      go_wp2_with fail
      refine (HFT.out _).mono ?_
      rintro _ w2 ⟨a2, c2, rfl, h2, hE2⟩
      dsimp only
      go_wp2_with fail
      go_ret2
      exact ⟨a2, c2, rfl, h2, hE2⟩
set_option maxHeartbeats 1000000 in
theorem some_bad (n k : Int) (hn : n < 0 ∨ 6 < n) (w : World) :
    Calls Tryz.prog 28 #[.int .i64 n, .int .i64 k] w fun e w' => e = .returned (.tuple #[.slice none 0 0, .int .i64 2]) ∧ w = w' := by
  by_cases c : n < 0
  · have d0 : decide (n < 0) = true := decide_eq_true c
    clear c hn
    go_enter Tryz.func28, Tryz.ntmps28
    go_wp2_with fail
    go_ret2
    exact ⟨rfl, rfl⟩
  · have d0 : decide (n < 0) = false := decide_eq_false c
    have d1 : decide ((6 : Int) < n) = true := decide_eq_true (by omega)
    clear c hn
    go_enter Tryz.func28, Tryz.ntmps28
    go_wp2_with fail
    go_ret2
    exact ⟨rfl, rfl⟩
/-! Rounds. -/
def rouE (n m : Int) : Int := if n < 1 ∨ 4 < n then 2 else if m < 0 ∨ 2 ^ n.toNat ≤ m then 1 else if m = 0 then 6 else 0
def rouK (n m : Int) : Int := if rouE n m = 0 then (onesN m.toNat : Int) else 0
set_option maxHeartbeats 2000000 in
theorem rounds_any (n m : Int) (w : World) :
    Calls Tryz.prog 27 #[.int .i64 n, .int .i64 m] w fun e w' => e = .returned (.tuple #[.int .i64 (rouK n m), .int .i64 (rouE n m)]) ∧ w = w' := by
  by_cases c0 : n < 1
  · have d0 : decide (n < 1) = true := decide_eq_true c0
    have HN : Hid (rouE n m = 2) := Lib.hid (if_pos (.inl c0))
    have HK : Hid (rouK n m = 0) := Lib.hid (if_neg (by rw [HN.out]; decide))
    clear c0
    go_enter Tryz.func27, Tryz.ntmps27
    go_wp2_with fail
    go_ret2
    exact ⟨by rw [HN.out, HK.out]; rfl, rfl⟩
  have d0 : decide (n < 1) = false := decide_eq_false c0
  by_cases c1 : 4 < n
  · have d1 : decide ((4 : Int) < n) = true := decide_eq_true c1
    have HN : Hid (rouE n m = 2) := Lib.hid (if_pos (.inr c1))
    have HK : Hid (rouK n m = 0) := Lib.hid (if_neg (by rw [HN.out]; decide))
    clear c0 c1
    go_enter Tryz.func27, Tryz.ntmps27
    go_wp2_with fail
    go_ret2
    exact ⟨by rw [HN.out, HK.out]; rfl, rfl⟩
  have d1 : decide ((4 : Int) < n) = false := decide_eq_false c1
  have hE : rouE n m = if m < 0 ∨ 2 ^ n.toNat ≤ m then 1 else if m = 0 then 6 else 0 := if_neg (by omega)
  obtain ⟨nn, hnn⟩ : ∃ nn : Nat, n = (nn : Int) := ⟨n.toNat, by omega⟩
  subst hnn
  rw [Int.toNat_natCast] at hE
  have h63 : nn < 63 := by omega
  by_cases c2 : m < 0
  · have d2 : decide (m < 0) = true := decide_eq_true c2
    have HN : Hid (rouE (nn : Int) m = 1) := Lib.hid (by rw [hE, if_pos (.inl c2)])
    have HK : Hid (rouK (nn : Int) m = 0) := Lib.hid (if_neg (by rw [HN.out]; decide))
    clear c0 c1 c2 hE
    go_enter Tryz.func27, Tryz.ntmps27
    go_wp2_with fail
    go_ret2
    exact ⟨by rw [HN.out, HK.out]; rfl, rfl⟩
  have d2 : decide (m < 0) = false := decide_eq_false c2
  obtain ⟨q, hq⟩ : ∃ q : Nat, q = 2 ^ nn := ⟨_, rfl⟩
  have hp : p2 nn = (q : Int) := by rw [hq]; rfl
  have hq16 : q ≤ 16 := by
    have : 2 ^ nn ≤ 2 ^ 4 := Nat.pow_le_pow_right (by omega) (by omega)
    omega
  have hE2 : rouE (nn : Int) m = if (q : Int) ≤ m then 1 else if m = 0 then 6 else 0 := by
    have e : ((2 : Int) ^ nn) = (q : Int) := by rw [hq]; simp
    rw [hE, e]
    by_cases h : (q : Int) ≤ m
    · rw [if_pos (.inr h), if_pos h]
    · rw [if_neg (by omega), if_neg h]
  have hq1 : 1 ≤ q := by rw [hq]; exact Nat.one_le_two_pow
  clear hE hq
  by_cases c3 : (q : Int) ≤ m
  · have d3 : decide ((q : Int) ≤ m) = true := decide_eq_true c3
    have HN : Hid (rouE (nn : Int) m = 1) := Lib.hid (by rw [hE2, if_pos c3])
    have HK : Hid (rouK (nn : Int) m = 0) := Lib.hid (if_neg (by rw [HN.out]; decide))
    clear c0 c1 c2 c3 hE2
    go_enter Tryz.func27, Tryz.ntmps27
    go_wp2_with fail
    go_ret2
    exact ⟨by rw [HN.out, HK.out]; rfl, rfl⟩
  have d3 : decide ((q : Int) ≤ m) = false := decide_eq_false c3
  obtain ⟨mm, hmm⟩ : ∃ mm : Nat, m = (mm : Int) := ⟨m.toNat, by omega⟩
  subst hmm
  have hqm : ¬ q ≤ mm := by omega
  by_cases c4 : mm = 0
  · subst c4
    have hq0 : decide (q = 0) = false := decide_eq_false (by omega)
    have HN : Hid (rouE (nn : Int) ((0 : Nat) : Int) = 6) := Lib.hid (by rw [hE2, if_neg c3]; rfl)
    have HK : Hid (rouK (nn : Int) ((0 : Nat) : Int) = 0) := Lib.hid (if_neg (by rw [HN.out]; decide))
    clear c0 c1 c2 c3 hE2
    go_enter Tryz.func27, Tryz.ntmps27
    go_wp2_with fail
    go_ret2
    exact ⟨by rw [HN.out, HK.out]; rfl, rfl⟩
  · have d4 : ((mm : Int) == 0) = false := by rw [beq_eq_false_iff_ne]; omega
    have HN : Hid (rouE (nn : Int) (mm : Int) = 0) := Lib.hid (by rw [hE2, if_neg c3, if_neg (by omega)])
    have HK : Hid (rouK (nn : Int) (mm : Int) = (onesN mm : Int)) := Lib.hid (by unfold rouK; rw [if_pos HN.out, Int.toNat_natCast])
    have HON := Lib.hid (onesZ_any mm (by omega) w)
    have hm64 : mm < 64 := by omega
    clear c0 c1 c2 c3 hE2
    go_enter Tryz.func27, Tryz.ntmps27
    go_wp2_with fail
    refine HON.out.mono ?_
    rintro _ _ ⟨rfl, rfl⟩
    dsimp only
    go_wp2_with fail
    go_ret2
    exact ⟨by rw [HN.out, HK.out]; rfl, rfl⟩
end Wt
