/- Walks: boolean.decide, tableError, FromTable (printed by gen_dec.py). -/
import Derived.Test.YtflnfcmbalhpnaaDoorM4Be
import Derived.Deep.QuietTactic
import Derived.BigQuiet
import Derived.Test.YtflnfcmbalhpnaaDoorM4Bc
import Derived.Test.YtflnfcmbalhpnaaDoorM4Ao
import Derived.Test.YtflnfcmbalhpnaaDoorM4Al
namespace Wt
open Go Go.RowKit Go.Maps Go.Proofs Fm

def decS (n : Nat) (t : BitVec 64) : List Nd := decF (n + 1) t
theorem decS_eq {n : Nat} {t : BitVec 64} (h0 : t ≠ 0#64) (h1 : t ≠ fullB (n + 1)) : decS n t = (if (t &&& fullB n) = (t >>> 2 ^ n) then decF n (t &&& fullB n) else if (t &&& fullB n) = 0#64 ∧ (t >>> 2 ^ n) = fullB n then ccFact (n : Int) else if (t >>> 2 ^ n) = 0#64 ∧ (t &&& fullB n) = fullB n then ccNot (ccFact (n : Int)) else if (t &&& fullB n) = 0#64 then ccAnd (ccFact (n : Int)) (decF n (t >>> 2 ^ n)) else if (t >>> 2 ^ n) = 0#64 then ccAnd (ccNot (ccFact (n : Int))) (decF n (t &&& fullB n)) else if (t &&& fullB n) = fullB n then ccImp (ccFact (n : Int)) (decF n (t >>> 2 ^ n)) else if (t >>> 2 ^ n) = fullB n then ccOr (ccFact (n : Int)) (decF n (t &&& fullB n)) else ccAnd (ccImp (ccFact (n : Int)) (decF n (t >>> 2 ^ n))) (ccOr (ccFact (n : Int)) (decF n (t &&& fullB n)))) := by
  rw [decS, decF, if_neg h0, if_neg h1]
set_option maxHeartbeats 1000000 in
theorem decide_no (n : Nat) (_hn : n ≤ 6) (t : BitVec 64) (h : t = 0#64) (w : World) :
    Calls Tryd.prog 53 #[.int .u64 (un t), .int .i64 (n : Int)] w fun e w' => RetN (decF n t) e w w' := by
  have hq : (t == 0#64) = true := by simp [h]
  rw [decF_no n h]
  clear h
  go_enter Tryd.func53, Tryd.ntmps53
  go_wp2_with (first | fail | (go_at_call 74; refine (cFalse_any _).mono ?_; rintro _ w1 ⟨a1, c1, rfl, h1, hE⟩))
  go_ret
  exact ⟨a1, c1, rfl, h1, hE⟩
set_option maxHeartbeats 1000000 in
theorem decide_all (n : Nat) (hn : n ≤ 6) (t : BitVec 64) (h0 : t ≠ 0#64) (h : t = fullB n) (w : World) :
    Calls Tryd.prog 53 #[.int .u64 (un t), .int .i64 (n : Int)] w fun e w' => RetN (decF n t) e w w' := by
  have hq : (t == 0#64) = false := by simpa using h0
  have HFm := Lib.hid (full_any n hn)
  have hq2 : (t == fullB n) = true := by simp [h]
  rw [decF_all n h0 h]
  clear h h0
  go_enter Tryd.func53, Tryd.ntmps53
  go_wp2_with (first | (go_at_call 73; refine (HFm.out _).mono ?_; rintro _ _ ⟨rfl, rfl⟩) | (go_at_call 33; refine (cTrue_any _).mono ?_; rintro _ w1 ⟨a1, c1, rfl, h1, hE⟩))
  go_ret
  exact ⟨a1, c1, rfl, h1, hE⟩
/-- What the step of decide knows of the smaller one. -/
def DecAt (n : Nat) : Prop := ∀ (t : BitVec 64), t &&& ~~~ fullB n = 0#64 → ∀ w, Calls Tryd.prog 53 #[.int .u64 (un t), .int .i64 (n : Int)] w fun e w' => RetN (decF n t) e w w'
set_option maxHeartbeats 2000000 in
theorem decide_same (n : Nat) (hn : n + 1 ≤ 6) (ih : DecAt n) (t : BitVec 64) (ht : t &&& ~~~ fullB (n + 1) = 0#64) (h0 : t ≠ 0#64) (h1 : t ≠ fullB (n + 1)) (m : Int) (hmm : m = ((n + 1 : Nat) : Int)) (he : (t &&& fullB n) = (t >>> 2 ^ n)) (w : World) :
    Calls Tryd.prog 53 #[.int .u64 (un t), .int .i64 m] w fun e w' => RetN (decS n t) e w w' := by
  have HFm : Hid (∀ w, Calls Tryd.prog 73 #[.int .i64 m] w fun e w' => e = .returned (.int .u64 (un (fullB (n + 1)))) ∧ w = w') := by rw [hmm]; exact Lib.hid fun w => full_any (n + 1) (by omega) w
  have HFn := Lib.hid (full_any n (by omega))
  have HD : Hid (∀ x w, x = (t &&& fullB n) ∨ x = (t >>> 2 ^ n) → Calls Tryd.prog 53 #[.int .u64 (un x), .int .i64 (n : Int)] w fun e w' => RetN (decF n x) e w w') := Lib.hid fun x w hx => ih x (by rcases hx with rfl | rfl; exact low_in n t; exact high_in hn ht) w
  have q0 : (t == 0#64) = false := by simpa using h0
  have q1 : (t == fullB (n + 1)) = false := by simpa using h1
  have h63 : n < 63 := by omega
  have hm : m - 1 = (n : Int) := by omega
  have hm6 : m ≤ 6 := by omega
  have hm0 : 1 ≤ m := by omega
  have q2 : ((t &&& fullB n) == (t >>> 2 ^ n)) = true := by simp [he]
  have HR : Hid (decS n t = decF n (t &&& fullB n)) := Lib.hid (by rw [decS_eq h0 h1, if_pos he])
  clear he
  clear ih ht h0 h1 hmm
  go_enter Tryd.func53, Tryd.ntmps53
  go_wp2_with (go_at_call 73; refine (HFm.out _).mono ?_; rintro _ _ ⟨rfl, rfl⟩)
  go_quiet ((go_at_call 73; exact Calls.quiet_of_same ((HFn.out _).mono fun _ _ h => ⟨h.1, h.2.symm⟩)))
  go_wp2_with (first | (go_at_call 53; refine (HD.out (t &&& fullB n) _ (.inl rfl)).mono ?_; rintro _ wx ⟨xa, xc, rfl, hx, hEx⟩) | (go_at_call 73; refine (HFn.out _).mono ?_; rintro _ _ ⟨rfl, rfl⟩))
  go_ret
  rw [HR.out]; exact ⟨xa, xc, rfl, hx, ((Ext.refl w).drewN _).trans hEx⟩
set_option maxHeartbeats 2000000 in
theorem decide_1 (n : Nat) (hn : n + 1 ≤ 6) (ih : DecAt n) (t : BitVec 64) (ht : t &&& ~~~ fullB (n + 1) = 0#64) (h0 : t ≠ 0#64) (h1 : t ≠ fullB (n + 1)) (m : Int) (hmm : m = ((n + 1 : Nat) : Int)) (he : ¬ ((t &&& fullB n) = (t >>> 2 ^ n))) (l0 : ((t &&& fullB n) = 0#64)) (hF : ((t >>> 2 ^ n) = fullB n)) (w : World) :
    Calls Tryd.prog 53 #[.int .u64 (un t), .int .i64 m] w fun e w' => RetN (decS n t) e w w' := by
  have HFm : Hid (∀ w, Calls Tryd.prog 73 #[.int .i64 m] w fun e w' => e = .returned (.int .u64 (un (fullB (n + 1)))) ∧ w = w') := by rw [hmm]; exact Lib.hid fun w => full_any (n + 1) (by omega) w
  have HFn := Lib.hid (full_any n (by omega))
  have HD : Hid (∀ x w, x = (t &&& fullB n) ∨ x = (t >>> 2 ^ n) → Calls Tryd.prog 53 #[.int .u64 (un x), .int .i64 (n : Int)] w fun e w' => RetN (decF n x) e w w') := Lib.hid fun x w hx => ih x (by rcases hx with rfl | rfl; exact low_in n t; exact high_in hn ht) w
  have q0 : (t == 0#64) = false := by simpa using h0
  have q1 : (t == fullB (n + 1)) = false := by simpa using h1
  have h63 : n < 63 := by omega
  have hm : m - 1 = (n : Int) := by omega
  have hm6 : m ≤ 6 := by omega
  have hm0 : 1 ≤ m := by omega
  have q2 : ((t &&& fullB n) == (t >>> 2 ^ n)) = false := by simpa using he
  have ql0 : ((t &&& fullB n) == 0#64) = true := by simpa using l0
  have qhF : ((t >>> 2 ^ n) == fullB n) = true := by simpa using hF
  have HR : Hid (decS n t = ccFact (n : Int)) := Lib.hid (by rw [decS_eq h0 h1, if_neg he]; simp only [eq_true l0, eq_true hF, and_true, if_true])
  clear he l0 hF
  clear ih ht h0 h1 hmm
  go_enter Tryd.func53, Tryd.ntmps53
  go_wp2_with (go_at_call 73; refine (HFm.out _).mono ?_; rintro _ _ ⟨rfl, rfl⟩)
  go_quiet ((go_at_call 73; exact Calls.quiet_of_same ((HFn.out _).mono fun _ _ h => ⟨h.1, h.2.symm⟩)))
  go_wp2_with (first | (go_at_call 17; refine (cFact_any _ _).mono ?_; rintro _ wp ⟨pa, pc, rfl, hp, hEp⟩) | (go_at_call 73; refine (HFn.out _).mono ?_; rintro _ _ ⟨rfl, rfl⟩))
  go_ret
  rw [HR.out]; exact ⟨pa, pc, rfl, hp, ((Ext.refl w).drewN _).trans hEp⟩
set_option maxHeartbeats 2000000 in
theorem decide_3 (n : Nat) (hn : n + 1 ≤ 6) (ih : DecAt n) (t : BitVec 64) (ht : t &&& ~~~ fullB (n + 1) = 0#64) (h0 : t ≠ 0#64) (h1 : t ≠ fullB (n + 1)) (m : Int) (hmm : m = ((n + 1 : Nat) : Int)) (he : ¬ ((t &&& fullB n) = (t >>> 2 ^ n))) (l0 : ((t &&& fullB n) = 0#64)) (hF : ¬ ((t >>> 2 ^ n) = fullB n)) (hz : ¬ ((t >>> 2 ^ n) = 0#64)) (w : World) :
    Calls Tryd.prog 53 #[.int .u64 (un t), .int .i64 m] w fun e w' => RetN (decS n t) e w w' := by
  have HFm : Hid (∀ w, Calls Tryd.prog 73 #[.int .i64 m] w fun e w' => e = .returned (.int .u64 (un (fullB (n + 1)))) ∧ w = w') := by rw [hmm]; exact Lib.hid fun w => full_any (n + 1) (by omega) w
  have HFn := Lib.hid (full_any n (by omega))
  have HD : Hid (∀ x w, x = (t &&& fullB n) ∨ x = (t >>> 2 ^ n) → Calls Tryd.prog 53 #[.int .u64 (un x), .int .i64 (n : Int)] w fun e w' => RetN (decF n x) e w w') := Lib.hid fun x w hx => ih x (by rcases hx with rfl | rfl; exact low_in n t; exact high_in hn ht) w
  have q0 : (t == 0#64) = false := by simpa using h0
  have q1 : (t == fullB (n + 1)) = false := by simpa using h1
  have h63 : n < 63 := by omega
  have hm : m - 1 = (n : Int) := by omega
  have hm6 : m ≤ 6 := by omega
  have hm0 : 1 ≤ m := by omega
  have q2 : ((t &&& fullB n) == (t >>> 2 ^ n)) = false := by simpa using he
  have ql0 : ((t &&& fullB n) == 0#64) = true := by simpa using l0
  have qhF : ((t >>> 2 ^ n) == fullB n) = false := by simpa using hF
  have qhz : ((t >>> 2 ^ n) == 0#64) = false := by simpa using hz
  have HR : Hid (decS n t = ccAnd (ccFact (n : Int)) (decF n (t >>> 2 ^ n))) := Lib.hid (by rw [decS_eq h0 h1, if_neg he]; simp only [eq_true l0, eq_false hF, eq_false hz, false_and, and_false, if_true, if_false])
  clear he l0 hF hz
  clear ih ht h0 h1 hmm
  go_enter Tryd.func53, Tryd.ntmps53
  go_wp2_with (go_at_call 73; refine (HFm.out _).mono ?_; rintro _ _ ⟨rfl, rfl⟩)
  go_quiet ((go_at_call 73; exact Calls.quiet_of_same ((HFn.out _).mono fun _ _ h => ⟨h.1, h.2.symm⟩)))
  go_wp2_with (first | (go_at_call 17; refine (cFact_any _ _).mono ?_; rintro _ wp ⟨pa, pc, rfl, hp, hEp⟩) | (go_at_call 53; refine (HD.out (t >>> 2 ^ n) _ (.inr rfl)).mono ?_; rintro _ wx ⟨xa, xc, rfl, hx, hEx⟩) | (go_at_call 75; refine (cAnd_any _ _ _ _ _ _ _ (by first | assumption | exact RN.ext (by assumption) (by assumption) | exact RN.ext (Ext.trans (by assumption) (by assumption)) (by assumption)) (by first | assumption | exact RN.ext (by assumption) (by assumption) | exact RN.ext (Ext.trans (by assumption) (by assumption)) (by assumption))).mono ?_; rintro _ wz ⟨za, zc, rfl, hz, hEz⟩) | (go_at_call 73; refine (HFn.out _).mono ?_; rintro _ _ ⟨rfl, rfl⟩))
  go_ret
  rw [HR.out]; exact ⟨za, zc, rfl, hz, ((Ext.refl w).drewN _).trans ((hEp.trans hEx).trans hEz)⟩
set_option maxHeartbeats 2000000 in
theorem decide_2 (n : Nat) (hn : n + 1 ≤ 6) (ih : DecAt n) (t : BitVec 64) (ht : t &&& ~~~ fullB (n + 1) = 0#64) (h0 : t ≠ 0#64) (h1 : t ≠ fullB (n + 1)) (m : Int) (hmm : m = ((n + 1 : Nat) : Int)) (he : ¬ ((t &&& fullB n) = (t >>> 2 ^ n))) (l0 : ¬ ((t &&& fullB n) = 0#64)) (hz : ((t >>> 2 ^ n) = 0#64)) (lF : ((t &&& fullB n) = fullB n)) (w : World) :
    Calls Tryd.prog 53 #[.int .u64 (un t), .int .i64 m] w fun e w' => RetN (decS n t) e w w' := by
  have HFm : Hid (∀ w, Calls Tryd.prog 73 #[.int .i64 m] w fun e w' => e = .returned (.int .u64 (un (fullB (n + 1)))) ∧ w = w') := by rw [hmm]; exact Lib.hid fun w => full_any (n + 1) (by omega) w
  have HFn := Lib.hid (full_any n (by omega))
  have HD : Hid (∀ x w, x = (t &&& fullB n) ∨ x = (t >>> 2 ^ n) → Calls Tryd.prog 53 #[.int .u64 (un x), .int .i64 (n : Int)] w fun e w' => RetN (decF n x) e w w') := Lib.hid fun x w hx => ih x (by rcases hx with rfl | rfl; exact low_in n t; exact high_in hn ht) w
  have q0 : (t == 0#64) = false := by simpa using h0
  have q1 : (t == fullB (n + 1)) = false := by simpa using h1
  have h63 : n < 63 := by omega
  have hm : m - 1 = (n : Int) := by omega
  have hm6 : m ≤ 6 := by omega
  have hm0 : 1 ≤ m := by omega
  have q2 : ((t &&& fullB n) == (t >>> 2 ^ n)) = false := by simpa using he
  have ql0 : ((t &&& fullB n) == 0#64) = false := by simpa using l0
  have qhz : ((t >>> 2 ^ n) == 0#64) = true := by simpa using hz
  have qlF : ((t &&& fullB n) == fullB n) = true := by simpa using lF
  have HR : Hid (decS n t = ccNot (ccFact (n : Int))) := Lib.hid (by rw [decS_eq h0 h1, if_neg he]; simp only [eq_false l0, eq_true hz, eq_true lF, and_true, false_and, if_true, if_false])
  clear he l0 hz lF
  clear ih ht h0 h1 hmm
  go_enter Tryd.func53, Tryd.ntmps53
  go_wp2_with (go_at_call 73; refine (HFm.out _).mono ?_; rintro _ _ ⟨rfl, rfl⟩)
  go_quiet ((go_at_call 73; exact Calls.quiet_of_same ((HFn.out _).mono fun _ _ h => ⟨h.1, h.2.symm⟩)))
  go_wp2_with (first | (go_at_call 17; refine (cFact_any _ _).mono ?_; rintro _ wp ⟨pa, pc, rfl, hp, hEp⟩) | (go_at_call 8; refine (cNot_any _ _ _ _ (by first | assumption | exact RN.ext (by assumption) (by assumption) | exact RN.ext (Ext.trans (by assumption) (by assumption)) (by assumption))).mono ?_; rintro _ wn ⟨na, nc, rfl, hnn, hEn⟩) | (go_at_call 73; refine (HFn.out _).mono ?_; rintro _ _ ⟨rfl, rfl⟩))
  go_ret
  rw [HR.out]; exact ⟨na, nc, rfl, hnn, ((Ext.refl w).drewN _).trans (hEp.trans hEn)⟩
set_option maxHeartbeats 2000000 in
theorem decide_4 (n : Nat) (hn : n + 1 ≤ 6) (ih : DecAt n) (t : BitVec 64) (ht : t &&& ~~~ fullB (n + 1) = 0#64) (h0 : t ≠ 0#64) (h1 : t ≠ fullB (n + 1)) (m : Int) (hmm : m = ((n + 1 : Nat) : Int)) (he : ¬ ((t &&& fullB n) = (t >>> 2 ^ n))) (l0 : ¬ ((t &&& fullB n) = 0#64)) (hz : ((t >>> 2 ^ n) = 0#64)) (lF : ¬ ((t &&& fullB n) = fullB n)) (w : World) :
    Calls Tryd.prog 53 #[.int .u64 (un t), .int .i64 m] w fun e w' => RetN (decS n t) e w w' := by
  have HFm : Hid (∀ w, Calls Tryd.prog 73 #[.int .i64 m] w fun e w' => e = .returned (.int .u64 (un (fullB (n + 1)))) ∧ w = w') := by rw [hmm]; exact Lib.hid fun w => full_any (n + 1) (by omega) w
  have HFn := Lib.hid (full_any n (by omega))
  have HD : Hid (∀ x w, x = (t &&& fullB n) ∨ x = (t >>> 2 ^ n) → Calls Tryd.prog 53 #[.int .u64 (un x), .int .i64 (n : Int)] w fun e w' => RetN (decF n x) e w w') := Lib.hid fun x w hx => ih x (by rcases hx with rfl | rfl; exact low_in n t; exact high_in hn ht) w
  have q0 : (t == 0#64) = false := by simpa using h0
  have q1 : (t == fullB (n + 1)) = false := by simpa using h1
  have h63 : n < 63 := by omega
  have hm : m - 1 = (n : Int) := by omega
  have hm6 : m ≤ 6 := by omega
  have hm0 : 1 ≤ m := by omega
  have q2 : ((t &&& fullB n) == (t >>> 2 ^ n)) = false := by simpa using he
  have ql0 : ((t &&& fullB n) == 0#64) = false := by simpa using l0
  have qhz : ((t >>> 2 ^ n) == 0#64) = true := by simpa using hz
  have qlF : ((t &&& fullB n) == fullB n) = false := by simpa using lF
  have HR : Hid (decS n t = ccAnd (ccNot (ccFact (n : Int))) (decF n (t &&& fullB n))) := Lib.hid (by rw [decS_eq h0 h1, if_neg he]; simp only [eq_false l0, eq_true hz, eq_false lF, false_and, and_false, if_true, if_false])
  clear he l0 hz lF
  clear ih ht h0 h1 hmm
  go_enter Tryd.func53, Tryd.ntmps53
  go_wp2_with (go_at_call 73; refine (HFm.out _).mono ?_; rintro _ _ ⟨rfl, rfl⟩)
  go_quiet ((go_at_call 73; exact Calls.quiet_of_same ((HFn.out _).mono fun _ _ h => ⟨h.1, h.2.symm⟩)))
  go_wp2_with (first | (go_at_call 17; refine (cFact_any _ _).mono ?_; rintro _ wp ⟨pa, pc, rfl, hp, hEp⟩) | (go_at_call 8; refine (cNot_any _ _ _ _ (by first | assumption | exact RN.ext (by assumption) (by assumption) | exact RN.ext (Ext.trans (by assumption) (by assumption)) (by assumption))).mono ?_; rintro _ wn ⟨na, nc, rfl, hnn, hEn⟩) | (go_at_call 53; refine (HD.out (t &&& fullB n) _ (.inl rfl)).mono ?_; rintro _ wx ⟨xa, xc, rfl, hx, hEx⟩) | (go_at_call 75; refine (cAnd_any _ _ _ _ _ _ _ (by first | assumption | exact RN.ext (by assumption) (by assumption) | exact RN.ext (Ext.trans (by assumption) (by assumption)) (by assumption)) (by first | assumption | exact RN.ext (by assumption) (by assumption) | exact RN.ext (Ext.trans (by assumption) (by assumption)) (by assumption))).mono ?_; rintro _ wz ⟨za, zc, rfl, hz, hEz⟩) | (go_at_call 73; refine (HFn.out _).mono ?_; rintro _ _ ⟨rfl, rfl⟩))
  go_ret
  rw [HR.out]; exact ⟨za, zc, rfl, hz, ((Ext.refl w).drewN _).trans (((hEp.trans hEn).trans hEx).trans hEz)⟩
set_option maxHeartbeats 2000000 in
theorem decide_5 (n : Nat) (hn : n + 1 ≤ 6) (ih : DecAt n) (t : BitVec 64) (ht : t &&& ~~~ fullB (n + 1) = 0#64) (h0 : t ≠ 0#64) (h1 : t ≠ fullB (n + 1)) (m : Int) (hmm : m = ((n + 1 : Nat) : Int)) (he : ¬ ((t &&& fullB n) = (t >>> 2 ^ n))) (l0 : ¬ ((t &&& fullB n) = 0#64)) (hz : ¬ ((t >>> 2 ^ n) = 0#64)) (lF : ((t &&& fullB n) = fullB n)) (w : World) :
    Calls Tryd.prog 53 #[.int .u64 (un t), .int .i64 m] w fun e w' => RetN (decS n t) e w w' := by
  have HFm : Hid (∀ w, Calls Tryd.prog 73 #[.int .i64 m] w fun e w' => e = .returned (.int .u64 (un (fullB (n + 1)))) ∧ w = w') := by rw [hmm]; exact Lib.hid fun w => full_any (n + 1) (by omega) w
  have HFn := Lib.hid (full_any n (by omega))
  have HD : Hid (∀ x w, x = (t &&& fullB n) ∨ x = (t >>> 2 ^ n) → Calls Tryd.prog 53 #[.int .u64 (un x), .int .i64 (n : Int)] w fun e w' => RetN (decF n x) e w w') := Lib.hid fun x w hx => ih x (by rcases hx with rfl | rfl; exact low_in n t; exact high_in hn ht) w
  have q0 : (t == 0#64) = false := by simpa using h0
  have q1 : (t == fullB (n + 1)) = false := by simpa using h1
  have h63 : n < 63 := by omega
  have hm : m - 1 = (n : Int) := by omega
  have hm6 : m ≤ 6 := by omega
  have hm0 : 1 ≤ m := by omega
  have q2 : ((t &&& fullB n) == (t >>> 2 ^ n)) = false := by simpa using he
  have ql0 : ((t &&& fullB n) == 0#64) = false := by simpa using l0
  have qhz : ((t >>> 2 ^ n) == 0#64) = false := by simpa using hz
  have qlF : ((t &&& fullB n) == fullB n) = true := by simpa using lF
  have HR : Hid (decS n t = ccImp (ccFact (n : Int)) (decF n (t >>> 2 ^ n))) := Lib.hid (by rw [decS_eq h0 h1, if_neg he]; simp only [eq_false l0, eq_false hz, eq_true lF, and_true, false_and, if_true, if_false])
  clear he l0 hz lF
  clear ih ht h0 h1 hmm
  go_enter Tryd.func53, Tryd.ntmps53
  go_wp2_with (go_at_call 73; refine (HFm.out _).mono ?_; rintro _ _ ⟨rfl, rfl⟩)
  go_quiet ((go_at_call 73; exact Calls.quiet_of_same ((HFn.out _).mono fun _ _ h => ⟨h.1, h.2.symm⟩)))
  go_wp2_with (first | (go_at_call 17; refine (cFact_any _ _).mono ?_; rintro _ wp ⟨pa, pc, rfl, hp, hEp⟩) | (go_at_call 53; refine (HD.out (t >>> 2 ^ n) _ (.inr rfl)).mono ?_; rintro _ wx ⟨xa, xc, rfl, hx, hEx⟩) | (go_at_call 76; refine (cImp_any _ _ _ _ _ _ _ (by first | assumption | exact RN.ext (by assumption) (by assumption) | exact RN.ext (Ext.trans (by assumption) (by assumption)) (by assumption)) (by first | assumption | exact RN.ext (by assumption) (by assumption) | exact RN.ext (Ext.trans (by assumption) (by assumption)) (by assumption))).mono ?_; rintro _ wz ⟨za, zc, rfl, hz, hEz⟩) | (go_at_call 73; refine (HFn.out _).mono ?_; rintro _ _ ⟨rfl, rfl⟩))
  go_ret
  rw [HR.out]; exact ⟨za, zc, rfl, hz, ((Ext.refl w).drewN _).trans ((hEp.trans hEx).trans hEz)⟩
set_option maxHeartbeats 2000000 in
theorem decide_6 (n : Nat) (hn : n + 1 ≤ 6) (ih : DecAt n) (t : BitVec 64) (ht : t &&& ~~~ fullB (n + 1) = 0#64) (h0 : t ≠ 0#64) (h1 : t ≠ fullB (n + 1)) (m : Int) (hmm : m = ((n + 1 : Nat) : Int)) (he : ¬ ((t &&& fullB n) = (t >>> 2 ^ n))) (l0 : ¬ ((t &&& fullB n) = 0#64)) (hz : ¬ ((t >>> 2 ^ n) = 0#64)) (lF : ¬ ((t &&& fullB n) = fullB n)) (hF : ((t >>> 2 ^ n) = fullB n)) (w : World) :
    Calls Tryd.prog 53 #[.int .u64 (un t), .int .i64 m] w fun e w' => RetN (decS n t) e w w' := by
  have HFm : Hid (∀ w, Calls Tryd.prog 73 #[.int .i64 m] w fun e w' => e = .returned (.int .u64 (un (fullB (n + 1)))) ∧ w = w') := by rw [hmm]; exact Lib.hid fun w => full_any (n + 1) (by omega) w
  have HFn := Lib.hid (full_any n (by omega))
  have HD : Hid (∀ x w, x = (t &&& fullB n) ∨ x = (t >>> 2 ^ n) → Calls Tryd.prog 53 #[.int .u64 (un x), .int .i64 (n : Int)] w fun e w' => RetN (decF n x) e w w') := Lib.hid fun x w hx => ih x (by rcases hx with rfl | rfl; exact low_in n t; exact high_in hn ht) w
  have q0 : (t == 0#64) = false := by simpa using h0
  have q1 : (t == fullB (n + 1)) = false := by simpa using h1
  have h63 : n < 63 := by omega
  have hm : m - 1 = (n : Int) := by omega
  have hm6 : m ≤ 6 := by omega
  have hm0 : 1 ≤ m := by omega
  have q2 : ((t &&& fullB n) == (t >>> 2 ^ n)) = false := by simpa using he
  have ql0 : ((t &&& fullB n) == 0#64) = false := by simpa using l0
  have qhz : ((t >>> 2 ^ n) == 0#64) = false := by simpa using hz
  have qlF : ((t &&& fullB n) == fullB n) = false := by simpa using lF
  have qhF : ((t >>> 2 ^ n) == fullB n) = true := by simpa using hF
  have HR : Hid (decS n t = ccOr (ccFact (n : Int)) (decF n (t &&& fullB n))) := Lib.hid (by rw [decS_eq h0 h1, if_neg he]; simp only [eq_false l0, eq_false hz, eq_false lF, eq_true hF, and_true, and_false, if_true, if_false])
  clear he l0 hz lF hF
  clear ih ht h0 h1 hmm
  go_enter Tryd.func53, Tryd.ntmps53
  go_wp2_with (go_at_call 73; refine (HFm.out _).mono ?_; rintro _ _ ⟨rfl, rfl⟩)
  go_quiet ((go_at_call 73; exact Calls.quiet_of_same ((HFn.out _).mono fun _ _ h => ⟨h.1, h.2.symm⟩)))
  go_wp2_with (first | (go_at_call 17; refine (cFact_any _ _).mono ?_; rintro _ wp ⟨pa, pc, rfl, hp, hEp⟩) | (go_at_call 53; refine (HD.out (t &&& fullB n) _ (.inl rfl)).mono ?_; rintro _ wx ⟨xa, xc, rfl, hx, hEx⟩) | (go_at_call 77; refine (cOr_any _ _ _ _ _ _ _ (by first | assumption | exact RN.ext (by assumption) (by assumption) | exact RN.ext (Ext.trans (by assumption) (by assumption)) (by assumption)) (by first | assumption | exact RN.ext (by assumption) (by assumption) | exact RN.ext (Ext.trans (by assumption) (by assumption)) (by assumption))).mono ?_; rintro _ wz ⟨za, zc, rfl, hz, hEz⟩) | (go_at_call 73; refine (HFn.out _).mono ?_; rintro _ _ ⟨rfl, rfl⟩))
  go_ret
  rw [HR.out]; exact ⟨za, zc, rfl, hz, ((Ext.refl w).drewN _).trans ((hEp.trans hEx).trans hEz)⟩
set_option maxHeartbeats 2000000 in
theorem decide_7 (n : Nat) (hn : n + 1 ≤ 6) (ih : DecAt n) (t : BitVec 64) (ht : t &&& ~~~ fullB (n + 1) = 0#64) (h0 : t ≠ 0#64) (h1 : t ≠ fullB (n + 1)) (m : Int) (hmm : m = ((n + 1 : Nat) : Int)) (he : ¬ ((t &&& fullB n) = (t >>> 2 ^ n))) (l0 : ¬ ((t &&& fullB n) = 0#64)) (hz : ¬ ((t >>> 2 ^ n) = 0#64)) (lF : ¬ ((t &&& fullB n) = fullB n)) (hF : ¬ ((t >>> 2 ^ n) = fullB n)) (w : World) :
    Calls Tryd.prog 53 #[.int .u64 (un t), .int .i64 m] w fun e w' => RetN (decS n t) e w w' := by
  have HFm : Hid (∀ w, Calls Tryd.prog 73 #[.int .i64 m] w fun e w' => e = .returned (.int .u64 (un (fullB (n + 1)))) ∧ w = w') := by rw [hmm]; exact Lib.hid fun w => full_any (n + 1) (by omega) w
  have HFn := Lib.hid (full_any n (by omega))
  have HD : Hid (∀ x w, x = (t &&& fullB n) ∨ x = (t >>> 2 ^ n) → Calls Tryd.prog 53 #[.int .u64 (un x), .int .i64 (n : Int)] w fun e w' => RetN (decF n x) e w w') := Lib.hid fun x w hx => ih x (by rcases hx with rfl | rfl; exact low_in n t; exact high_in hn ht) w
  have q0 : (t == 0#64) = false := by simpa using h0
  have q1 : (t == fullB (n + 1)) = false := by simpa using h1
  have h63 : n < 63 := by omega
  have hm : m - 1 = (n : Int) := by omega
  have hm6 : m ≤ 6 := by omega
  have hm0 : 1 ≤ m := by omega
  have q2 : ((t &&& fullB n) == (t >>> 2 ^ n)) = false := by simpa using he
  have ql0 : ((t &&& fullB n) == 0#64) = false := by simpa using l0
  have qhz : ((t >>> 2 ^ n) == 0#64) = false := by simpa using hz
  have qlF : ((t &&& fullB n) == fullB n) = false := by simpa using lF
  have qhF : ((t >>> 2 ^ n) == fullB n) = false := by simpa using hF
  have HR : Hid (decS n t = ccAnd (ccImp (ccFact (n : Int)) (decF n (t >>> 2 ^ n))) (ccOr (ccFact (n : Int)) (decF n (t &&& fullB n)))) := Lib.hid (by rw [decS_eq h0 h1, if_neg he]; simp only [eq_false l0, eq_false hz, eq_false lF, eq_false hF, and_false, if_false])
  clear he l0 hz lF hF
  clear ih ht h0 h1 hmm
  go_enter Tryd.func53, Tryd.ntmps53
  go_wp2_with (go_at_call 73; refine (HFm.out _).mono ?_; rintro _ _ ⟨rfl, rfl⟩)
  go_quiet ((go_at_call 73; exact Calls.quiet_of_same ((HFn.out _).mono fun _ _ h => ⟨h.1, h.2.symm⟩)))
  go_wp2_with (first | (go_at_call 17; refine (cFact_any _ _).mono ?_; rintro _ wp ⟨pa, pc, rfl, hp, hEp⟩) | (go_at_call 73; refine (HFn.out _).mono ?_; rintro _ _ ⟨rfl, rfl⟩) | fail)
  refine (HD.out (t >>> 2 ^ n) _ (.inr rfl)).mono ?_
  rintro _ w2 ⟨a2, c2, rfl, h2, hE2⟩
  dsimp only
  go_wp2_with fail
  refine (cImp_any _ _ _ _ _ _ _ (hp.ext hE2) h2).mono ?_
  rintro _ w3 ⟨a3, c3, rfl, h3, hE3⟩
  dsimp only
  go_wp2_with fail
  refine (HD.out (t &&& fullB n) _ (.inl rfl)).mono ?_
  rintro _ w4 ⟨a4, c4, rfl, h4, hE4⟩
  dsimp only
  go_wp2_with fail
  refine (cOr_any _ _ _ _ _ _ _ (hp.ext (hE2.trans (hE3.trans hE4))) h4).mono ?_
  rintro _ w5 ⟨a5, c5, rfl, h5, hE5⟩
  dsimp only
  go_wp2_with fail
  refine (cAnd_any _ _ _ _ _ _ _ (h3.ext (hE4.trans hE5)) h5).mono ?_
  rintro _ w6 ⟨a6, c6, rfl, h6, hE6⟩
  dsimp only
  go_wp2_with fail
  go_ret
  rw [HR.out]
  exact ⟨a6, c6, rfl, h6, ((Ext.refl w).drewN _).trans (hEp.trans (hE2.trans (hE3.trans (hE4.trans (hE5.trans hE6)))))⟩
theorem decide_at : ∀ n, n ≤ 6 → DecAt n
  | 0, _ => fun t ht w => by
    by_cases h : t = 0#64
    · exact decide_no 0 (by decide) t h w
    · exact decide_all 0 (by decide) t h (tab_zero ht h) w
  | n + 1, hn => fun t ht w => by
    have ih := decide_at n (by omega)
    by_cases h0 : t = 0#64
    · exact decide_no (n + 1) hn t h0 w
    by_cases h1 : t = fullB (n + 1)
    · exact decide_all (n + 1) hn t h0 h1 w
    by_cases he : (t &&& fullB n) = (t >>> 2 ^ n)
    · exact decide_same n hn ih t ht h0 h1 _ rfl he w
    by_cases l0 : (t &&& fullB n) = 0#64
    · have hh : ¬ ((t >>> 2 ^ n) = 0#64) := fun h => he (l0.trans h.symm)
      by_cases hF : (t >>> 2 ^ n) = fullB n
      · exact decide_1 n hn ih t ht h0 h1 _ rfl he l0 hF w
      · exact decide_3 n hn ih t ht h0 h1 _ rfl he l0 hF hh w
    by_cases hh : (t >>> 2 ^ n) = 0#64
    · by_cases lF : (t &&& fullB n) = fullB n
      · exact decide_2 n hn ih t ht h0 h1 _ rfl he l0 hh lF w
      · exact decide_4 n hn ih t ht h0 h1 _ rfl he l0 hh lF w
    by_cases lF : (t &&& fullB n) = fullB n
    · exact decide_5 n hn ih t ht h0 h1 _ rfl he l0 hh lF w
    by_cases hF : (t >>> 2 ^ n) = fullB n
    · exact decide_6 n hn ih t ht h0 h1 _ rfl he l0 hh lF hF w
    · exact decide_7 n hn ih t ht h0 h1 _ rfl he l0 hh lF hF w
set_option maxHeartbeats 1000000 in
/-- A table that fits makes a formula. -/
theorem tableError_any (t : BitVec 64) (n : Nat) (hn : n ≤ 6) (ht : t &&& ~~~ fullB n = 0#64) (w : World) :
    Calls Tryd.prog 52 #[.int .u64 (un t), .int .i64 (n : Int)] w fun e w' => e = .returned (.int .i64 0) ∧ w = w' := by
  have HFn := Lib.hid (full_any n hn)
  have hq : (t &&& ~~~ fullB n != 0#64) = false := by simp [ht]
  have h6 : decide ((6 : Int) < (n : Int)) = false := decide_eq_false (by omega)
  have h0 : decide ((n : Int) < 0) = false := decide_eq_false (by omega)
  clear ht
  go_enter Tryd.func52, Tryd.ntmps52
  go_wp2_with (first | (go_at_call 73; refine (HFn.out _).mono ?_; rintro _ _ ⟨rfl, rfl⟩) | fail)
  go_ret
  exact ⟨rfl, rfl⟩
set_option maxHeartbeats 1000000 in
theorem fromTable_any (t : BitVec 64) (n : Nat) (hn : n ≤ 6) (ht : t &&& ~~~ fullB n = 0#64) (w : World) :
    Calls Tryd.prog 34 #[.int .u64 (un t), .int .i64 (n : Int)] w fun e w' => ∃ a c, e = .returned (.tuple #[.slice a (decF n t).length c, .int .i64 0]) ∧ RN w' a (decF n t) ∧ Ext w w' := by
  have HT := Lib.hid (tableError_any t n hn ht)
  have HD := Lib.hid (decide_at n hn t ht)
  clear ht
  go_enter Tryd.func34, Tryd.ntmps34
  go_wp2_with (first | (go_at_call 52; refine (HT.out _).mono ?_; rintro _ _ ⟨rfl, rfl⟩) | (go_at_call 53; refine (HD.out _).mono ?_; rintro _ w1 ⟨a1, c1, rfl, h1, hE⟩))
  go_ret2
  exact ⟨a1, c1, rfl, h1, hE⟩
end Wt

/- Lists of lists of formulas, in memory. -/
namespace Wt
open Go Go.RowKit Go.Maps Go.Proofs Fm

structure RNNN (w : World) (a : Option Addr) (L : List (List (List Nd))) : Prop where
  len : L.length ≤ 140737488355328
  get : ∀ k, k < L.length → ∃ b off a' c', a = some ⟨b, off, none⟩ ∧ b < w.heap.size ∧ w.cell? ⟨b, off + k, none⟩ = some (.slice a' (nth L k).length c') ∧ RNN w a' (nth L k)
theorem RNNN.ext {w w' : World} {a : Option Addr} {L : List (List (List Nd))} (h : RNNN w a L) (e : Ext w w') : RNNN w' a L :=
  ⟨h.len, fun k hk => by
    obtain ⟨b, off, a', c', h1, h2, h3, h4⟩ := h.get k hk
    exact ⟨b, off, a', c', h1, Nat.lt_of_lt_of_le h2 e.size, e.cell h3, h4.ext e⟩⟩
theorem RNNN.nil (w : World) (a : Option Addr) : RNNN w a [] := ⟨by simp, fun _ hk => absurd hk (by simp)⟩
theorem RNNN.one (w : World) (fa : Option Addr) (fc : Nat) (f : List (List Nd)) (T : Nat) (h : RNN w fa f) : RNNN (w.alloc (.cells #[.slice fa f.length fc] T)) (some ⟨w.heap.size, 0, none⟩) [f] :=
  ⟨by simp, fun k hk => by
    obtain rfl : k = 0 := by simp at hk; omega
    exact ⟨w.heap.size, 0, fa, fc, rfl, by simp, by simp [nth], h.ext ((Ext.refl w).alloc _)⟩⟩
theorem RNNN.two (w : World) (fa ga : Option Addr) (fc gc : Nat) (f g : List (List Nd)) (T : Nat) (h : RNN w fa f) (h2 : RNN w ga g) : RNNN (w.alloc (.cells #[.slice fa f.length fc, .slice ga g.length gc] T)) (some ⟨w.heap.size, 0, none⟩) [f, g] :=
  ⟨by simp, fun k hk => by
    rcases (show k = 0 ∨ k = 1 by simp at hk; omega) with rfl | rfl
    · exact ⟨w.heap.size, 0, fa, fc, rfl, by simp, by simp [nth], h.ext ((Ext.refl w).alloc _)⟩
    · exact ⟨w.heap.size, 0, ga, gc, rfl, by simp, by simp [nth], h2.ext ((Ext.refl w).alloc _)⟩⟩
end Wt

/- Walks: boolean.isPropositional, combine, value. -/
namespace Wt
open Go Go.RowKit Go.Proofs Fm

set_option maxHeartbeats 1000000 in
theorem isProp_any (o : Int) (w : World) : Calls Tryd.prog 91 #[.int .i64 o] w fun e w' => e = .returned (.bool (decide (o ≤ 8))) ∧ w = w' := by
  go_enter Tryd.func91, Tryd.ntmps91
  go_wp2
  go_ret
  exact ⟨rfl, rfl⟩
/-- The value of an operator but a fact. -/
def cmbN (o : Int) (x y : Bool) : Bool := pvN (fun _ => false) o 0 x y
theorem pvN_cmb (e : Nat → Bool) {o : Int} (i : Int) (x y : Bool) (h : o ≠ 3) : pvN e o i x y = cmbN o x y := by
  unfold cmbN pvN; rw [if_neg h, if_neg h]
theorem pvN_fact (e : Nat → Bool) (i : Int) (x y : Bool) : pvN e 3 i x y = e i.toNat := by unfold pvN; simp
set_option maxHeartbeats 1000000 in
theorem combine_any (o : Int) (x y : Bool) (w : World) (h3 : o ≠ 3) : Calls Tryd.prog 92 #[.int .i64 o, .bool x, .bool y] w fun e w' => e = .returned (.bool (cmbN o x y)) ∧ w = w' := by
  have H := Lib.hid h3
  clear h3
  go_enter Tryd.func92, Tryd.ntmps92
  go_wp2
  all_goals
    have h3 := H.out
    simp only [beq_iff_eq, beq_eq_false_iff_ne] at *
    go_ret
    refine ⟨?_, rfl⟩
    congr 2
    simp [cmbN, pvN, *]
/-- What a round of value keeps. -/
def ValAt (W0 wr : World) (e : Nat → Bool) (f : List Nd) (g k : Nat) : Prop := Ext W0 wr ∧ OG wr W0.heap.size 4 Value.bool g f.length f.length (doneL f.length k (fun j => pv e (trAt f j)) false)
theorem ValAt.mono {W0 wr w2 : World} {e : Nat → Bool} {f : List Nd} {g k : Nat} (h : ValAt W0 wr e f g k) (x : Ext wr w2) : ValAt W0 w2 e f g k := ⟨h.1.trans x, h.2.ext x⟩
theorem ValAt.put {W0 wr : World} {e : Nat → Bool} {f : List Nd} {g k : Nat} (h : ValAt W0 wr e f g k) (hk : k < f.length) {b : Bool} (hb : pv e (trAt f k) = b) : ValAt W0 (wr.setCell ⟨g, k, none⟩ (.bool b)) e f g (k + 1) := by
  subst hb
  refine ⟨h.1.setCell h.2.base_le _, ?_⟩
  rw [← doneL_set _ _ _ _ hk]
  exact h.2.set k _
set_option maxRecDepth 20000 in
set_option maxHeartbeats 4000000 in
theorem bvalue_any (F : Nat) (c d : Value) (fa : Option Addr) (fc : Nat) (f : List Nd) (w : World) (hr : RN w fa f) (hw : Wf f) (h1 : 1 ≤ f.length) (h200 : f.length ≤ 200) (e : Nat → Bool) (hop : ∀ k, k < f.length → (nth f k).op ≤ 8)
    (hF : ∀ args W, (callFunc F args).run Tryd.prog W = .ok (.enter F args) W)
    (hp : ∀ W k, Ext w W → k < f.length → Calls Tryd.prog F #[.int .i64 (k : Int), c, d] W fun en w' => en = .returned (.bool (e (nth f k).i.toNat)) ∧ Qu W w') :
    Calls Tryd.prog 70 #[.slice fa f.length fc, .func (.func F) #[] #[c, d]] w fun en w' => en = .returned (.bool (pv e (rt f))) ∧ Ext w w' := by
  have mk2 := fun (w : World) => run_make_row' (P := Tryd.prog) 106 4 (.bool false) 1 Tryd.underlying106 bool_info rfl .i64 .i64 f.length (by omega) (by omega) w
  have HP := Lib.hid hp
  have HR := Lib.hid hr
  have HW := Lib.hid hw
  have HOP := Lib.hid hop
  have hfl := hr.len
  have H1 := Lib.hid h1
  have hS0 : ValAt w (w.alloc (.cells (madeCells #[.bool false] f.length) 4)) e f w.heap.size 0 := by
    refine ⟨(Ext.refl w).alloc _, ?_⟩
    rw [doneL_zero]
    exact OG.made (enc := Value.bool) w f.length false (Nat.le_refl _) hfl
  have HS0 := Lib.hid hS0
  clear hp hr hw hop hS0 h1 h200
  go_enter Tryd.func70, Tryd.ntmps70
  go_wp2
  generalize w.heap.size = g at HS0 ⊢
  generalize w.alloc (.cells (madeCells #[.bool false] f.length) 4) = wl at HS0 ⊢
  go_loopw [13] (fun i wr => ∃ k : Nat, k ≤ f.length ∧ i = .int .i64 k ∧ ValAt w wr e f g k) (fun i _ => f.length - (intOf i).toNat)
  case atStart => exact ⟨0, Nat.zero_le _, rfl, HS0.out⟩
  case round =>
    obtain ⟨k, hk, rfl, hs⟩ := hrel
    have HS := Lib.hid hs
    clear HS0
    by_cases hlt : k < f.length
    · obtain ⟨b, off, rfl, hb, n0, n1, n2, n3, n4, n5⟩ := (HR.out.ext hs.1).get hlt
      obtain ⟨X, hX, hXl, hXk⟩ := nd_x HW.out hlt
      obtain ⟨Y, hY, hYl, hYk⟩ := nd_y HW.out hlt
      rw [hX] at n4
      rw [hY] at n5
      have bx := hs.2.cell hXl
      have by1 := hs.2.cell hYl
      have bl := hs.2.lt
      have bf := hs.2.frozen k
      have bc := hs.2.cell hlt
      have hpv : ∀ x y : Bool, (4 ≤ (nth f k).op → x = pv e (trAt f (nth f k).x.toNat)) → (5 ≤ (nth f k).op → y = pv e (trAt f (nth f k).y.toNat)) → pv e (trAt f k) = pvN e (nth f k).op (nth f k).i x y := fun x y hx hy => pv_node e HW.out hlt (HOP.out k hlt) x y hx hy
      have h8 := HOP.out k hlt
      have hd8 : decide ((nth f k).op ≤ 8) = true := decide_eq_true h8
      have h4k := fun h => hXk h
      have h5k : 5 ≤ (nth f k).op → Y < k := fun h => hYk (.inl ⟨h, h8⟩)
      rw [hX, hY, Int.toNat_natCast, Int.toNat_natCast] at hpv
      generalize hBX : nth (doneL f.length k (fun j => pv e (trAt f j)) false) X = sx at bx
      generalize hBY : nth (doneL f.length k (fun j => pv e (trAt f j)) false) Y = sy at by1
      have hv : pv e (trAt f k) = pvN e (nth f k).op (nth f k).i sx sy := hpv sx sy
        (fun h => by rw [← hBX, doneL_nth _ _ _ _ hXl, if_pos (h4k h)])
        (fun h => by rw [← hBY, doneL_nth _ _ _ _ hYl, if_pos (h5k h)])
      have HP2 : Hid (∀ W, Ext w W → Calls Tryd.prog F #[.int .i64 (k : Int), c, d] W fun en w' => en = .returned (.bool (e (nth f k).i.toNat)) ∧ Qu W w') := Lib.hid fun W hW => HP.out W k hW hlt
      clear hBX hBY hX hXk hY hYk hpv h4k h5k h8
      generalize (nth f k).op = op at n0 hv hd8
      generalize (nth f k).i = ni at n1 hv HP2
      generalize (nth f k).e = ne at n2
      generalize (nth f k).g = ng at n3
      by_cases h3 : op = 3
      · subst h3
        have hv2 : pv e (trAt f k) = e ni.toNat := by rw [hv, pvN_fact]
        have HV := Lib.hid hv2
        clear hv hv2
        go_upto_region 6 with (go_at_call 91; refine (isProp_any _ _).mono ?_; rintro _ _ ⟨rfl, rfl⟩)
        go_wp2_with fail
        refine (HP2.out _ (HS.out.1.alloc _)).mono ?_
        rintro _ w2 ⟨rfl, hq⟩
        have hs2 := HS.out.mono (((Ext.refl wr).alloc _).trans hq.ext)
        have zf := hs2.2.frozen k
        have zc := hs2.2.cell hlt
        have zl := hs2.2.lt
        have HS2 := Lib.hid hs2
        clear hs hs2 HS hq n0 n1 n2 n3 n4 n5 bx by1 bl bf bc
        go_wp2
        go_roundw
        case rel => exact ⟨k + 1, hlt, by go_num, HS2.out.put hlt HV.out⟩
        case measure => simp [intOf]; omega
      · have hd3 : (op == 3) = false := by simp [h3]
        have hv2 : pv e (trAt f k) = cmbN op sx sy := by rw [hv, pvN_cmb e ni sx sy h3]
        have HV := Lib.hid hv2
        have H3 := Lib.hid h3
        clear hv hv2 h3
        go_upto_region 7 with (go_at_call 91; refine (isProp_any _ _).mono ?_; rintro _ _ ⟨rfl, rfl⟩)
        have hs3 := HS.out.mono ((Ext.refl wr).alloc (.cells #[.int .i64 op, .int .i64 ni, .int .i64 ne, .int .i64 ng, .int .i64 (X : Int), .int .i64 (Y : Int)] 57))
        have z0 : (wr.alloc (.cells #[.int .i64 op, .int .i64 ni, .int .i64 ne, .int .i64 ng, .int .i64 (X : Int), .int .i64 (Y : Int)] 57)).cell? ⟨wr.heap.size, 0, none⟩ = some (.int .i64 op) := by simp
        have z4 : (wr.alloc (.cells #[.int .i64 op, .int .i64 ni, .int .i64 ne, .int .i64 ng, .int .i64 (X : Int), .int .i64 (Y : Int)] 57)).cell? ⟨wr.heap.size, 4, none⟩ = some (.int .i64 (X : Int)) := by simp
        have z5 : (wr.alloc (.cells #[.int .i64 op, .int .i64 ni, .int .i64 ne, .int .i64 ng, .int .i64 (X : Int), .int .i64 (Y : Int)] 57)).cell? ⟨wr.heap.size, 5, none⟩ = some (.int .i64 (Y : Int)) := by simp
        have zx := ((Ext.refl wr).alloc (.cells #[.int .i64 op, .int .i64 ni, .int .i64 ne, .int .i64 ng, .int .i64 (X : Int), .int .i64 (Y : Int)] 57)).cell bx
        have zy := ((Ext.refl wr).alloc (.cells #[.int .i64 op, .int .i64 ni, .int .i64 ne, .int .i64 ng, .int .i64 (X : Int), .int .i64 (Y : Int)] 57)).cell by1
        have HS3 := Lib.hid hs3
        have zf := hs3.2.frozen k
        have zc := hs3.2.cell hlt
        have zl := hs3.2.lt
        clear hs hs3 HS n0 n1 n2 n3 n4 n5 bx by1 bl bf bc
        generalize wr.heap.size = nb at *
        generalize wr.alloc (.cells #[.int .i64 op, .int .i64 ni, .int .i64 ne, .int .i64 ng, .int .i64 (X : Int), .int .i64 (Y : Int)] 57) = wl2 at *
        refine wp_region_still_tail 16 (by kernel_rfl) (by kernel_rfl) ?_
        simp only [List.take_succ_cons, List.take_zero, List.drop_succ_cons, List.drop_zero]
        repeat still_step
        still_call ((combine_any _ _ _ _ H3.out).mono fun _ _ h => ⟨h.1, h.2.symm⟩)
        repeat still_step
        refine wpStill_nil ?_
        have zf2 : wl2.drew.frozen? ⟨g, k, none⟩ = false := zf
        have zc2 : wl2.drew.cell? ⟨g, k, none⟩ = some (.bool (nth (doneL f.length k (fun j => pv e (trAt f j)) false) k)) := zc
        have HS4 := Lib.hid (HS3.out.mono (Ext.refl wl2).drew)
        change wpList _ _ _ _ _ wl2.drew
        generalize wl2.drew = wd at HS4 zf2 zc2 ⊢
        clear zf zc zx zy z0 z4 z5
        go_wp2
        go_roundw
        case rel => exact ⟨k + 1, hlt, by go_num, HS4.out.put hlt HV.out⟩
        case measure => simp [intOf]; omega
    · obtain rfl : k = f.length := by omega
      have hs2 := HS.out.2
      rw [doneL_all] at hs2
      have h1 := H1.out
      have hc := hs2.cell (k := f.length - 1) (by omega)
      have e1 : (f.length : Int) - 1 = ((f.length - 1 : Nat) : Int) := by omega
      have e2 : nth ((List.range f.length).map fun j => pv e (trAt f j)) (f.length - 1) = pv e (rt f) := by
        rw [nth_mapN _ _ (by simp; omega), nth_range (by omega)]; rfl
      rw [e2] at hc
      have hlm : f.length - 1 < f.length := by omega
      have bl := hs2.lt
      clear hs2 hs
      go_wp2
      go_ret
      exact ⟨rfl, HS.out.1⟩
end Wt
