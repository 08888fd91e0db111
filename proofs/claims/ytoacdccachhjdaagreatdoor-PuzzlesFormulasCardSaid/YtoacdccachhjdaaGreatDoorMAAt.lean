/- Walks: formula's constructors (printed by gen_bldb.py). -/
import Derived.Test.YtoacdccachhjdaaGreatDoorMAAs
import Derived.Test.YtoacdccachhjdaaGreatDoorMAAq
import Derived.Deep.QuietTactic
import Derived.BigQuiet
namespace Wt
open Go Go.RowKit Go.Maps Go.Proofs Fm

theorem RNN.one (w : World) (fa : Option Addr) (fc : Nat) (f : List Nd) (T : Nat) (h : RN w fa f) : RNN (w.alloc (.cells #[.slice fa f.length fc] T)) (some ⟨w.heap.size, 0, none⟩) [f] :=
  ⟨by simp, fun k hk => by
    obtain rfl : k = 0 := by simp at hk; omega
    exact ⟨w.heap.size, 0, fa, fc, rfl, by simp, by simp [nth], h.ext ((Ext.refl w).alloc _)⟩⟩
theorem RNN.two (w : World) (fa ga : Option Addr) (fc gc : Nat) (f g : List Nd) (T : Nat) (h : RN w fa f) (h2 : RN w ga g) : RNN (w.alloc (.cells #[.slice fa f.length fc, .slice ga g.length gc] T)) (some ⟨w.heap.size, 0, none⟩) [f, g] :=
  ⟨by simp, fun k hk => by
    rcases (show k = 0 ∨ k = 1 by simp at hk; omega) with rfl | rfl
    · exact ⟨w.heap.size, 0, fa, fc, rfl, by simp, by simp [nth], h.ext ((Ext.refl w).alloc _)⟩
    · exact ⟨w.heap.size, 0, ga, gc, rfl, by simp, by simp [nth], h2.ext ((Ext.refl w).alloc _)⟩⟩
set_option maxHeartbeats 1000000 in
theorem cTrue_any (w : World) :
    Calls Tryz.prog 122 #[] w fun e w' => RetN (fB ⟨1, 0, 0, 0, 0, 0⟩ []) e w w' := by
  have H := Lib.hid (build_any ⟨1, 0, 0, 0, 0, 0⟩ none 0 [] w (RNN.nil _ _) (by decide))
  go_enter Tryz.func122, Tryz.ntmps122
  go_wp2_with (go_at_call 82; go_loud (refine H.out.mono ?_; rintro e w1 ⟨a1, c1, rfl, h1, hE⟩))
  go_ret
  exact ⟨a1, c1, rfl, h1, hE⟩
set_option maxHeartbeats 1000000 in
theorem cFalse_any (w : World) :
    Calls Tryz.prog 158 #[] w fun e w' => RetN (fB ⟨2, 0, 0, 0, 0, 0⟩ []) e w w' := by
  have H := Lib.hid (build_any ⟨2, 0, 0, 0, 0, 0⟩ none 0 [] w (RNN.nil _ _) (by decide))
  go_enter Tryz.func158, Tryz.ntmps158
  go_wp2_with (go_at_call 82; go_loud (refine H.out.mono ?_; rintro e w1 ⟨a1, c1, rfl, h1, hE⟩))
  go_ret
  exact ⟨a1, c1, rfl, h1, hE⟩
set_option maxHeartbeats 1000000 in
theorem cFact_any (a : Int) (w : World) :
    Calls Tryz.prog 31 #[.int .i64 a] w fun e w' => RetN (fB ⟨3, a, 0, 0, 0, 0⟩ []) e w w' := by
  have H := Lib.hid (build_any ⟨3, a, 0, 0, 0, 0⟩ none 0 [] w (RNN.nil _ _) (by decide))
  go_enter Tryz.func31, Tryz.ntmps31
  go_wp2_with (go_at_call 82; go_loud (refine H.out.mono ?_; rintro e w1 ⟨a1, c1, rfl, h1, hE⟩))
  go_ret
  exact ⟨a1, c1, rfl, h1, hE⟩
set_option maxHeartbeats 1000000 in
theorem cNot_any (fa : Option Addr) (fc : Nat) (f : List Nd) (w : World) (hf : RN w fa f) :
    Calls Tryz.prog 32 #[.slice fa f.length fc] w fun e w' => RetN (fB ⟨4, 0, 0, 0, 0, 0⟩ [f]) e w w' := by
  have H := Lib.hid (build_any ⟨4, 0, 0, 0, 0, 0⟩ (some ⟨w.heap.size, 0, none⟩) 1 [f] _ (RNN.one w fa fc f 44 hf) (by simp))
  go_enter Tryz.func32, Tryz.ntmps32
  go_wp2_with (go_at_call 82; go_loud (refine H.out.mono ?_; rintro e w1 ⟨a1, c1, rfl, h1, hE⟩))
  go_ret
  exact ⟨a1, c1, rfl, h1, ((Ext.refl w).alloc _).trans hE⟩
set_option maxHeartbeats 1000000 in
theorem cAnd_any (fa : Option Addr) (fc : Nat) (f : List Nd) (ga : Option Addr) (gc : Nat) (g : List Nd) (w : World) (hf : RN w fa f) (hg : RN w ga g) :
    Calls Tryz.prog 35 #[.slice fa f.length fc, .slice ga g.length gc] w fun e w' => RetN (fB ⟨5, 0, 0, 0, 0, 0⟩ [f, g]) e w w' := by
  have H := Lib.hid (build_any ⟨5, 0, 0, 0, 0, 0⟩ (some ⟨w.heap.size, 0, none⟩) 2 [f, g] _ (RNN.two w fa ga fc gc f g 44 hf hg) (by simp))
  go_enter Tryz.func35, Tryz.ntmps35
  go_wp2_with (go_at_call 82; go_loud (refine H.out.mono ?_; rintro e w1 ⟨a1, c1, rfl, h1, hE⟩))
  go_ret
  exact ⟨a1, c1, rfl, h1, ((Ext.refl w).alloc _).trans hE⟩
set_option maxHeartbeats 1000000 in
theorem cOr_any (fa : Option Addr) (fc : Nat) (f : List Nd) (ga : Option Addr) (gc : Nat) (g : List Nd) (w : World) (hf : RN w fa f) (hg : RN w ga g) :
    Calls Tryz.prog 81 #[.slice fa f.length fc, .slice ga g.length gc] w fun e w' => RetN (fB ⟨6, 0, 0, 0, 0, 0⟩ [f, g]) e w w' := by
  have H := Lib.hid (build_any ⟨6, 0, 0, 0, 0, 0⟩ (some ⟨w.heap.size, 0, none⟩) 2 [f, g] _ (RNN.two w fa ga fc gc f g 44 hf hg) (by simp))
  go_enter Tryz.func81, Tryz.ntmps81
  go_wp2_with (go_at_call 82; go_loud (refine H.out.mono ?_; rintro e w1 ⟨a1, c1, rfl, h1, hE⟩))
  go_ret
  exact ⟨a1, c1, rfl, h1, ((Ext.refl w).alloc _).trans hE⟩
set_option maxHeartbeats 1000000 in
theorem cImp_any (fa : Option Addr) (fc : Nat) (f : List Nd) (ga : Option Addr) (gc : Nat) (g : List Nd) (w : World) (hf : RN w fa f) (hg : RN w ga g) :
    Calls Tryz.prog 159 #[.slice fa f.length fc, .slice ga g.length gc] w fun e w' => RetN (fB ⟨7, 0, 0, 0, 0, 0⟩ [f, g]) e w w' := by
  have H := Lib.hid (build_any ⟨7, 0, 0, 0, 0, 0⟩ (some ⟨w.heap.size, 0, none⟩) 2 [f, g] _ (RNN.two w fa ga fc gc f g 44 hf hg) (by simp))
  go_enter Tryz.func159, Tryz.ntmps159
  go_wp2_with (go_at_call 82; go_loud (refine H.out.mono ?_; rintro e w1 ⟨a1, c1, rfl, h1, hE⟩))
  go_ret
  exact ⟨a1, c1, rfl, h1, ((Ext.refl w).alloc _).trans hE⟩
set_option maxHeartbeats 1000000 in
theorem cKnow_any (a : Int) (fa : Option Addr) (fc : Nat) (f : List Nd) (w : World) (hf : RN w fa f) :
    Calls Tryz.prog 36 #[.int .i64 a, .slice fa f.length fc] w fun e w' => RetN (fB ⟨9, a, 0, 0, 0, 0⟩ [f]) e w w' := by
  have H := Lib.hid (build_any ⟨9, a, 0, 0, 0, 0⟩ (some ⟨w.heap.size, 0, none⟩) 1 [f] _ (RNN.one w fa fc f 44 hf) (by simp))
  go_enter Tryz.func36, Tryz.ntmps36
  go_wp2_with (go_at_call 82; go_loud (refine H.out.mono ?_; rintro e w1 ⟨a1, c1, rfl, h1, hE⟩))
  go_ret
  exact ⟨a1, c1, rfl, h1, ((Ext.refl w).alloc _).trans hE⟩
set_option maxHeartbeats 1000000 in
/-- The formula of a fact lies in memory of its own. -/
theorem cFact_fresh (a : Int) (w : World) :
    Calls Tryz.prog 31 #[.int .i64 a] w fun e w' => RetNF (fB ⟨3, a, 0, 0, 0, 0⟩ []) e w w' := by
  have H := Lib.hid (build_fresh ⟨3, a, 0, 0, 0, 0⟩ none 0 [] w (RNN.nil _ _) (by decide))
  go_enter Tryz.func31, Tryz.ntmps31
  go_wp2_with (go_at_call 82; go_loud (refine H.out.mono ?_; rintro e w1 ⟨a1, c1, rfl, h1, hfr, hE⟩))
  go_ret
  exact ⟨a1, c1, rfl, h1, hfr, hE⟩
end Wt

/- Walks: boolean.full, tableError, decide, FromTable. -/
namespace Wt
open Go Go.RowKit Go.Maps Go.Proofs Fm

theorem un_pow (n : Nat) (h : n < 63) : un (1#64 <<< n) = ((2 ^ n : Nat) : Int) := by
  have h2 : 2 ^ n < 2 ^ 64 := Nat.pow_lt_pow_right (by omega) (by omega)
  unfold un
  rw [BitVec.toNat_shiftLeft, Nat.shiftLeft_eq]
  simp only [BitVec.toNat_ofNat]
  rw [show (1 : Nat) % 2 ^ 64 = 1 from rfl, Nat.one_mul, Nat.mod_eq_of_lt h2]
theorem shift_shr_un (s : BitVec 64) (yk : IntKind) (n : Nat) (h : n < 63) : Op.shift .shr .u64 (un s) yk (un (1#64 <<< n)) = pure (.int .u64 (un (s >>> 2 ^ n))) := by
  rw [un_pow n h]; exact shift_shr_bv s yk (2 ^ n)
theorem shift_shl_un (yk : IntKind) (n : Nat) (h : n < 63) : Op.shift .shl .u64 1 yk (un (1#64 <<< n)) = pure (.int .u64 (un (1#64 <<< 2 ^ n))) := by
  rw [un_pow n h]; exact shift_shl_bv 1#64 yk (2 ^ n)
attribute [go_sem ↓] shift_shr_un shift_shl_un
theorem full_any (n : Nat) (h : n ≤ 6) (w : World) :
    Calls Tryz.prog 157 #[.int .i64 (n : Int)] w fun e w' => e = .returned (.int .u64 (un (fullB n))) ∧ w = w' := by
  by_cases h6 : n = 6
  · subst h6
    go_enter Tryz.func157, Tryz.ntmps157
    go_wp2
    go_ret
    exact ⟨rfl, rfl⟩
  · have h63 : n < 63 := by omega
    have hq : ((n : Int) == 6) = false := by simp; omega
    have HF : Hid (fullB n = 1#64 <<< 2 ^ n - 1#64) := Lib.hid (if_neg h6)
    clear h6
    go_enter Tryz.func157, Tryz.ntmps157
    go_wp2
    go_ret
    exact ⟨by rw [HF.out]; rfl, rfl⟩
theorem bt_fullB : ∀ n : _root_.Fin 7, ∀ k : _root_.Fin 64, bt (fullB n.val) k.val = decide (k.val < 2 ^ n.val) := by decide +kernel
theorem bt_full {n k : Nat} (hn : n ≤ 6) (hk : k < 64) : bt (fullB n) k = decide (k < 2 ^ n) := bt_fullB ⟨n, by omega⟩ ⟨k, hk⟩
theorem low_in (n : Nat) (t : BitVec 64) : (t &&& fullB n) &&& ~~~ fullB n = 0#64 := andNot_zero.2 fun k _ h => by
  rw [bt_and] at h; simp at h; exact h.2
theorem high_in {n : Nat} (hn : n + 1 ≤ 6) {t : BitVec 64} (h : t &&& ~~~ fullB (n + 1) = 0#64) : (t >>> 2 ^ n) &&& ~~~ fullB n = 0#64 := andNot_zero.2 fun k hk h2 => by
  have h3 : bt t (2 ^ n + k) = true := by
    unfold bt at h2 ⊢; rw [BitVec.getLsbD_ushiftRight] at h2; exact h2
  by_cases h4 : 2 ^ n + k < 64
  · have h5 := andNot_zero.1 h _ h4 h3
    rw [bt_full hn h4] at h5
    rw [bt_full (by omega) hk]
    have h6 := of_decide_eq_true h5
    rw [Nat.pow_succ] at h6
    exact decide_eq_true (by omega)
  · unfold bt at h3
    rw [BitVec.getLsbD_of_ge _ _ (by omega)] at h3; cases h3
/-- The cases of decide. -/
theorem decF_no (n : Nat) {t : BitVec 64} (h : t = 0#64) : decF n t = ccFalse := by cases n <;> simp [decF, h]
theorem decF_all (n : Nat) {t : BitVec 64} (h : t ≠ 0#64) (h2 : t = fullB n) : decF n t = ccTrue := by
  cases n with
  | zero => simp [decF, h]
  | succ n => unfold decF; rw [if_neg h, if_pos h2]
theorem tab_zero {t : BitVec 64} (h : t &&& ~~~ fullB 0 = 0#64) (h0 : t ≠ 0#64) : t = fullB 0 := by
  have e : fullB 0 = 1#64 <<< 0 := by decide
  rw [e] at h ⊢
  have hs := andNot_zero.1 h
  have hb : bt t 0 = true := by
    cases h1 : bt t 0
    · refine absurd (bt_ext fun k hk => ?_) h0
      rw [bt_zero]
      cases h2 : bt t k
      · rfl
      · have := hs k hk h2
        rw [bt_shl1] at this
        simp at this
        obtain rfl : k = 0 := this.2
        rw [h1] at h2; cases h2
    · rfl
  refine bt_ext fun k hk => ?_
  rw [bt_shl1]
  by_cases e : k = 0
  · subst e; rw [hb]; simp
  · cases h2 : bt t k
    · simp [e]
    · have := hs k hk h2
      rw [bt_shl1] at this; simp [e] at this
end Wt

/- Walks: boolean.decide, tableError, FromTable (printed by gen_dec.py). -/
namespace Wt
open Go Go.RowKit Go.Maps Go.Proofs Fm

def decS (n : Nat) (t : BitVec 64) : List Nd := decF (n + 1) t
theorem decS_eq {n : Nat} {t : BitVec 64} (h0 : t ≠ 0#64) (h1 : t ≠ fullB (n + 1)) : decS n t = (if (t &&& fullB n) = (t >>> 2 ^ n) then decF n (t &&& fullB n) else if (t &&& fullB n) = 0#64 ∧ (t >>> 2 ^ n) = fullB n then ccFact (n : Int) else if (t >>> 2 ^ n) = 0#64 ∧ (t &&& fullB n) = fullB n then ccNot (ccFact (n : Int)) else if (t &&& fullB n) = 0#64 then ccAnd (ccFact (n : Int)) (decF n (t >>> 2 ^ n)) else if (t >>> 2 ^ n) = 0#64 then ccAnd (ccNot (ccFact (n : Int))) (decF n (t &&& fullB n)) else if (t &&& fullB n) = fullB n then ccImp (ccFact (n : Int)) (decF n (t >>> 2 ^ n)) else if (t >>> 2 ^ n) = fullB n then ccOr (ccFact (n : Int)) (decF n (t &&& fullB n)) else ccAnd (ccImp (ccFact (n : Int)) (decF n (t >>> 2 ^ n))) (ccOr (ccFact (n : Int)) (decF n (t &&& fullB n)))) := by
  rw [decS, decF, if_neg h0, if_neg h1]
set_option maxHeartbeats 1000000 in
theorem decide_no (n : Nat) (_hn : n ≤ 6) (t : BitVec 64) (h : t = 0#64) (w : World) :
    Calls Tryz.prog 120 #[.int .u64 (un t), .int .i64 (n : Int)] w fun e w' => RetN (decF n t) e w w' := by
  have hq : (t == 0#64) = true := by simp [h]
  rw [decF_no n h]
  clear h
  go_enter Tryz.func120, Tryz.ntmps120
  go_wp2_with (first | fail | (go_at_call 158; refine (cFalse_any _).mono ?_; rintro _ w1 ⟨a1, c1, rfl, h1, hE⟩))
  go_ret
  exact ⟨a1, c1, rfl, h1, hE⟩
set_option maxHeartbeats 1000000 in
theorem decide_all (n : Nat) (hn : n ≤ 6) (t : BitVec 64) (h0 : t ≠ 0#64) (h : t = fullB n) (w : World) :
    Calls Tryz.prog 120 #[.int .u64 (un t), .int .i64 (n : Int)] w fun e w' => RetN (decF n t) e w w' := by
  have hq : (t == 0#64) = false := by simpa using h0
  have HFm := Lib.hid (full_any n hn)
  have hq2 : (t == fullB n) = true := by simp [h]
  rw [decF_all n h0 h]
  clear h h0
  go_enter Tryz.func120, Tryz.ntmps120
  go_wp2_with (first | (go_at_call 157; refine (HFm.out _).mono ?_; rintro _ _ ⟨rfl, rfl⟩) | (go_at_call 122; refine (cTrue_any _).mono ?_; rintro _ w1 ⟨a1, c1, rfl, h1, hE⟩))
  go_ret
  exact ⟨a1, c1, rfl, h1, hE⟩
/-- What the step of decide knows of the smaller one. -/
def DecAt (n : Nat) : Prop := ∀ (t : BitVec 64), t &&& ~~~ fullB n = 0#64 → ∀ w, Calls Tryz.prog 120 #[.int .u64 (un t), .int .i64 (n : Int)] w fun e w' => RetN (decF n t) e w w'
set_option maxHeartbeats 2000000 in
theorem decide_same (n : Nat) (hn : n + 1 ≤ 6) (ih : DecAt n) (t : BitVec 64) (ht : t &&& ~~~ fullB (n + 1) = 0#64) (h0 : t ≠ 0#64) (h1 : t ≠ fullB (n + 1)) (m : Int) (hmm : m = ((n + 1 : Nat) : Int)) (he : (t &&& fullB n) = (t >>> 2 ^ n)) (w : World) :
    Calls Tryz.prog 120 #[.int .u64 (un t), .int .i64 m] w fun e w' => RetN (decS n t) e w w' := by
  have HFm : Hid (∀ w, Calls Tryz.prog 157 #[.int .i64 m] w fun e w' => e = .returned (.int .u64 (un (fullB (n + 1)))) ∧ w = w') := by rw [hmm]; exact Lib.hid fun w => full_any (n + 1) (by omega) w
  have HFn := Lib.hid (full_any n (by omega))
  have HD : Hid (∀ x w, x = (t &&& fullB n) ∨ x = (t >>> 2 ^ n) → Calls Tryz.prog 120 #[.int .u64 (un x), .int .i64 (n : Int)] w fun e w' => RetN (decF n x) e w w') := Lib.hid fun x w hx => ih x (by rcases hx with rfl | rfl; exact low_in n t; exact high_in hn ht) w
  have q0 : (t == 0#64) = false := by simpa using h0
  have q1 : (t == fullB (n + 1)) = false := by simpa using h1
  have h63 : n < 63 := by omega
  have hm : m - 1 = (n : Int) := by omega
  have hm6 : m ≤ 6 := by omega
  have hm0 : 1 ≤ m := by omega
  have q2 : ((t &&& fullB n) == (t >>> 2 ^ n)) = true := by simp [he]
  have HR : Hid (decS n t = decF n (t &&& fullB n)) := Lib.hid (by rw [decS_eq h0 h1, if_pos he])
  clear he
  clear ih ht h0 h1 hmm
  go_enter Tryz.func120, Tryz.ntmps120
  go_wp2_with (go_at_call 157; refine (HFm.out _).mono ?_; rintro _ _ ⟨rfl, rfl⟩)
  go_quiet ((go_at_call 157; exact Calls.quiet_of_same ((HFn.out _).mono fun _ _ h => ⟨h.1, h.2.symm⟩)))
  go_wp2_with (first | (go_at_call 120; refine (HD.out (t &&& fullB n) _ (.inl rfl)).mono ?_; rintro _ wx ⟨xa, xc, rfl, hx, hEx⟩) | (go_at_call 157; refine (HFn.out _).mono ?_; rintro _ _ ⟨rfl, rfl⟩))
  go_ret
  rw [HR.out]; exact ⟨xa, xc, rfl, hx, ((Ext.refl w).drewN _).trans hEx⟩
set_option maxHeartbeats 2000000 in
theorem decide_1 (n : Nat) (hn : n + 1 ≤ 6) (ih : DecAt n) (t : BitVec 64) (ht : t &&& ~~~ fullB (n + 1) = 0#64) (h0 : t ≠ 0#64) (h1 : t ≠ fullB (n + 1)) (m : Int) (hmm : m = ((n + 1 : Nat) : Int)) (he : ¬ ((t &&& fullB n) = (t >>> 2 ^ n))) (l0 : ((t &&& fullB n) = 0#64)) (hF : ((t >>> 2 ^ n) = fullB n)) (w : World) :
    Calls Tryz.prog 120 #[.int .u64 (un t), .int .i64 m] w fun e w' => RetN (decS n t) e w w' := by
  have HFm : Hid (∀ w, Calls Tryz.prog 157 #[.int .i64 m] w fun e w' => e = .returned (.int .u64 (un (fullB (n + 1)))) ∧ w = w') := by rw [hmm]; exact Lib.hid fun w => full_any (n + 1) (by omega) w
  have HFn := Lib.hid (full_any n (by omega))
  have HD : Hid (∀ x w, x = (t &&& fullB n) ∨ x = (t >>> 2 ^ n) → Calls Tryz.prog 120 #[.int .u64 (un x), .int .i64 (n : Int)] w fun e w' => RetN (decF n x) e w w') := Lib.hid fun x w hx => ih x (by rcases hx with rfl | rfl; exact low_in n t; exact high_in hn ht) w
  have q0 : (t == 0#64) = false := by simpa using h0
  have q1 : (t == fullB (n + 1)) = false := by simpa using h1
  have h63 : n < 63 := by omega
  have hm : m - 1 = (n : Int) := by omega
  have hm6 : m ≤ 6 := by omega
  have hm0 : 1 ≤ m := by omega
  have q2 : ((t &&& fullB n) == (t >>> 2 ^ n)) = false := by simpa using he
  have ql0 : ((t &&& fullB n) == 0#64) = true := by simpa using l0
  have qhF : ((t >>> 2 ^ n) == fullB n) = true := by simpa using hF
  have HR : Hid (decS n t = ccFact (n : Int)) := Lib.hid (by rw [decS_eq h0 h1, if_neg he]; simp only [eq_true l0, eq_true hF, and_true, if_true])
  clear he l0 hF
  clear ih ht h0 h1 hmm
  go_enter Tryz.func120, Tryz.ntmps120
  go_wp2_with (go_at_call 157; refine (HFm.out _).mono ?_; rintro _ _ ⟨rfl, rfl⟩)
  go_quiet ((go_at_call 157; exact Calls.quiet_of_same ((HFn.out _).mono fun _ _ h => ⟨h.1, h.2.symm⟩)))
  go_wp2_with (first | (go_at_call 31; refine (cFact_any _ _).mono ?_; rintro _ wp ⟨pa, pc, rfl, hp, hEp⟩) | (go_at_call 157; refine (HFn.out _).mono ?_; rintro _ _ ⟨rfl, rfl⟩))
  go_ret
  rw [HR.out]; exact ⟨pa, pc, rfl, hp, ((Ext.refl w).drewN _).trans hEp⟩
set_option maxHeartbeats 2000000 in
theorem decide_3 (n : Nat) (hn : n + 1 ≤ 6) (ih : DecAt n) (t : BitVec 64) (ht : t &&& ~~~ fullB (n + 1) = 0#64) (h0 : t ≠ 0#64) (h1 : t ≠ fullB (n + 1)) (m : Int) (hmm : m = ((n + 1 : Nat) : Int)) (he : ¬ ((t &&& fullB n) = (t >>> 2 ^ n))) (l0 : ((t &&& fullB n) = 0#64)) (hF : ¬ ((t >>> 2 ^ n) = fullB n)) (hz : ¬ ((t >>> 2 ^ n) = 0#64)) (w : World) :
    Calls Tryz.prog 120 #[.int .u64 (un t), .int .i64 m] w fun e w' => RetN (decS n t) e w w' := by
  have HFm : Hid (∀ w, Calls Tryz.prog 157 #[.int .i64 m] w fun e w' => e = .returned (.int .u64 (un (fullB (n + 1)))) ∧ w = w') := by rw [hmm]; exact Lib.hid fun w => full_any (n + 1) (by omega) w
  have HFn := Lib.hid (full_any n (by omega))
  have HD : Hid (∀ x w, x = (t &&& fullB n) ∨ x = (t >>> 2 ^ n) → Calls Tryz.prog 120 #[.int .u64 (un x), .int .i64 (n : Int)] w fun e w' => RetN (decF n x) e w w') := Lib.hid fun x w hx => ih x (by rcases hx with rfl | rfl; exact low_in n t; exact high_in hn ht) w
  have q0 : (t == 0#64) = false := by simpa using h0
  have q1 : (t == fullB (n + 1)) = false := by simpa using h1
  have h63 : n < 63 := by omega
  have hm : m - 1 = (n : Int) := by omega
  have hm6 : m ≤ 6 := by omega
  have hm0 : 1 ≤ m := by omega
  have q2 : ((t &&& fullB n) == (t >>> 2 ^ n)) = false := by simpa using he
  have ql0 : ((t &&& fullB n) == 0#64) = true := by simpa using l0
  have qhF : ((t >>> 2 ^ n) == fullB n) = false := by simpa using hF
  have qhz : ((t >>> 2 ^ n) == 0#64) = false := by simpa using hz
  have HR : Hid (decS n t = ccAnd (ccFact (n : Int)) (decF n (t >>> 2 ^ n))) := Lib.hid (by rw [decS_eq h0 h1, if_neg he]; simp only [eq_true l0, eq_false hF, eq_false hz, false_and, and_false, if_true, if_false])
  clear he l0 hF hz
  clear ih ht h0 h1 hmm
  go_enter Tryz.func120, Tryz.ntmps120
  go_wp2_with (go_at_call 157; refine (HFm.out _).mono ?_; rintro _ _ ⟨rfl, rfl⟩)
  go_quiet ((go_at_call 157; exact Calls.quiet_of_same ((HFn.out _).mono fun _ _ h => ⟨h.1, h.2.symm⟩)))
  go_wp2_with (first | (go_at_call 31; refine (cFact_any _ _).mono ?_; rintro _ wp ⟨pa, pc, rfl, hp, hEp⟩) | (go_at_call 120; refine (HD.out (t >>> 2 ^ n) _ (.inr rfl)).mono ?_; rintro _ wx ⟨xa, xc, rfl, hx, hEx⟩) | (go_at_call 35; refine (cAnd_any _ _ _ _ _ _ _ (by first | assumption | exact RN.ext (by assumption) (by assumption) | exact RN.ext (Ext.trans (by assumption) (by assumption)) (by assumption)) (by first | assumption | exact RN.ext (by assumption) (by assumption) | exact RN.ext (Ext.trans (by assumption) (by assumption)) (by assumption))).mono ?_; rintro _ wz ⟨za, zc, rfl, hz, hEz⟩) | (go_at_call 157; refine (HFn.out _).mono ?_; rintro _ _ ⟨rfl, rfl⟩))
  go_ret
  rw [HR.out]; exact ⟨za, zc, rfl, hz, ((Ext.refl w).drewN _).trans ((hEp.trans hEx).trans hEz)⟩
set_option maxHeartbeats 2000000 in
theorem decide_2 (n : Nat) (hn : n + 1 ≤ 6) (ih : DecAt n) (t : BitVec 64) (ht : t &&& ~~~ fullB (n + 1) = 0#64) (h0 : t ≠ 0#64) (h1 : t ≠ fullB (n + 1)) (m : Int) (hmm : m = ((n + 1 : Nat) : Int)) (he : ¬ ((t &&& fullB n) = (t >>> 2 ^ n))) (l0 : ¬ ((t &&& fullB n) = 0#64)) (hz : ((t >>> 2 ^ n) = 0#64)) (lF : ((t &&& fullB n) = fullB n)) (w : World) :
    Calls Tryz.prog 120 #[.int .u64 (un t), .int .i64 m] w fun e w' => RetN (decS n t) e w w' := by
  have HFm : Hid (∀ w, Calls Tryz.prog 157 #[.int .i64 m] w fun e w' => e = .returned (.int .u64 (un (fullB (n + 1)))) ∧ w = w') := by rw [hmm]; exact Lib.hid fun w => full_any (n + 1) (by omega) w
  have HFn := Lib.hid (full_any n (by omega))
  have HD : Hid (∀ x w, x = (t &&& fullB n) ∨ x = (t >>> 2 ^ n) → Calls Tryz.prog 120 #[.int .u64 (un x), .int .i64 (n : Int)] w fun e w' => RetN (decF n x) e w w') := Lib.hid fun x w hx => ih x (by rcases hx with rfl | rfl; exact low_in n t; exact high_in hn ht) w
  have q0 : (t == 0#64) = false := by simpa using h0
  have q1 : (t == fullB (n + 1)) = false := by simpa using h1
  have h63 : n < 63 := by omega
  have hm : m - 1 = (n : Int) := by omega
  have hm6 : m ≤ 6 := by omega
  have hm0 : 1 ≤ m := by omega
  have q2 : ((t &&& fullB n) == (t >>> 2 ^ n)) = false := by simpa using he
  have ql0 : ((t &&& fullB n) == 0#64) = false := by simpa using l0
  have qhz : ((t >>> 2 ^ n) == 0#64) = true := by simpa using hz
  have qlF : ((t &&& fullB n) == fullB n) = true := by simpa using lF
  have HR : Hid (decS n t = ccNot (ccFact (n : Int))) := Lib.hid (by rw [decS_eq h0 h1, if_neg he]; simp only [eq_false l0, eq_true hz, eq_true lF, and_true, false_and, if_true, if_false])
  clear he l0 hz lF
  clear ih ht h0 h1 hmm
  go_enter Tryz.func120, Tryz.ntmps120
  go_wp2_with (go_at_call 157; refine (HFm.out _).mono ?_; rintro _ _ ⟨rfl, rfl⟩)
  go_quiet ((go_at_call 157; exact Calls.quiet_of_same ((HFn.out _).mono fun _ _ h => ⟨h.1, h.2.symm⟩)))
  go_wp2_with (first | (go_at_call 31; refine (cFact_any _ _).mono ?_; rintro _ wp ⟨pa, pc, rfl, hp, hEp⟩) | (go_at_call 32; refine (cNot_any _ _ _ _ (by first | assumption | exact RN.ext (by assumption) (by assumption) | exact RN.ext (Ext.trans (by assumption) (by assumption)) (by assumption))).mono ?_; rintro _ wn ⟨na, nc, rfl, hnn, hEn⟩) | (go_at_call 157; refine (HFn.out _).mono ?_; rintro _ _ ⟨rfl, rfl⟩))
  go_ret
  rw [HR.out]; exact ⟨na, nc, rfl, hnn, ((Ext.refl w).drewN _).trans (hEp.trans hEn)⟩
set_option maxHeartbeats 2000000 in
theorem decide_4 (n : Nat) (hn : n + 1 ≤ 6) (ih : DecAt n) (t : BitVec 64) (ht : t &&& ~~~ fullB (n + 1) = 0#64) (h0 : t ≠ 0#64) (h1 : t ≠ fullB (n + 1)) (m : Int) (hmm : m = ((n + 1 : Nat) : Int)) (he : ¬ ((t &&& fullB n) = (t >>> 2 ^ n))) (l0 : ¬ ((t &&& fullB n) = 0#64)) (hz : ((t >>> 2 ^ n) = 0#64)) (lF : ¬ ((t &&& fullB n) = fullB n)) (w : World) :
    Calls Tryz.prog 120 #[.int .u64 (un t), .int .i64 m] w fun e w' => RetN (decS n t) e w w' := by
  have HFm : Hid (∀ w, Calls Tryz.prog 157 #[.int .i64 m] w fun e w' => e = .returned (.int .u64 (un (fullB (n + 1)))) ∧ w = w') := by rw [hmm]; exact Lib.hid fun w => full_any (n + 1) (by omega) w
  have HFn := Lib.hid (full_any n (by omega))
  have HD : Hid (∀ x w, x = (t &&& fullB n) ∨ x = (t >>> 2 ^ n) → Calls Tryz.prog 120 #[.int .u64 (un x), .int .i64 (n : Int)] w fun e w' => RetN (decF n x) e w w') := Lib.hid fun x w hx => ih x (by rcases hx with rfl | rfl; exact low_in n t; exact high_in hn ht) w
  have q0 : (t == 0#64) = false := by simpa using h0
  have q1 : (t == fullB (n + 1)) = false := by simpa using h1
  have h63 : n < 63 := by omega
  have hm : m - 1 = (n : Int) := by omega
  have hm6 : m ≤ 6 := by omega
  have hm0 : 1 ≤ m := by omega
  have q2 : ((t &&& fullB n) == (t >>> 2 ^ n)) = false := by simpa using he
  have ql0 : ((t &&& fullB n) == 0#64) = false := by simpa using l0
  have qhz : ((t >>> 2 ^ n) == 0#64) = true := by simpa using hz
  have qlF : ((t &&& fullB n) == fullB n) = false := by simpa using lF
  have HR : Hid (decS n t = ccAnd (ccNot (ccFact (n : Int))) (decF n (t &&& fullB n))) := Lib.hid (by rw [decS_eq h0 h1, if_neg he]; simp only [eq_false l0, eq_true hz, eq_false lF, false_and, and_false, if_true, if_false])
  clear he l0 hz lF
  clear ih ht h0 h1 hmm
  go_enter Tryz.func120, Tryz.ntmps120
  go_wp2_with (go_at_call 157; refine (HFm.out _).mono ?_; rintro _ _ ⟨rfl, rfl⟩)
  go_quiet ((go_at_call 157; exact Calls.quiet_of_same ((HFn.out _).mono fun _ _ h => ⟨h.1, h.2.symm⟩)))
  go_wp2_with (first | (go_at_call 31; refine (cFact_any _ _).mono ?_; rintro _ wp ⟨pa, pc, rfl, hp, hEp⟩) | (go_at_call 32; refine (cNot_any _ _ _ _ (by first | assumption | exact RN.ext (by assumption) (by assumption) | exact RN.ext (Ext.trans (by assumption) (by assumption)) (by assumption))).mono ?_; rintro _ wn ⟨na, nc, rfl, hnn, hEn⟩) | (go_at_call 120; refine (HD.out (t &&& fullB n) _ (.inl rfl)).mono ?_; rintro _ wx ⟨xa, xc, rfl, hx, hEx⟩) | (go_at_call 35; refine (cAnd_any _ _ _ _ _ _ _ (by first | assumption | exact RN.ext (by assumption) (by assumption) | exact RN.ext (Ext.trans (by assumption) (by assumption)) (by assumption)) (by first | assumption | exact RN.ext (by assumption) (by assumption) | exact RN.ext (Ext.trans (by assumption) (by assumption)) (by assumption))).mono ?_; rintro _ wz ⟨za, zc, rfl, hz, hEz⟩) | (go_at_call 157; refine (HFn.out _).mono ?_; rintro _ _ ⟨rfl, rfl⟩))
  go_ret
  rw [HR.out]; exact ⟨za, zc, rfl, hz, ((Ext.refl w).drewN _).trans (((hEp.trans hEn).trans hEx).trans hEz)⟩
set_option maxHeartbeats 2000000 in
theorem decide_5 (n : Nat) (hn : n + 1 ≤ 6) (ih : DecAt n) (t : BitVec 64) (ht : t &&& ~~~ fullB (n + 1) = 0#64) (h0 : t ≠ 0#64) (h1 : t ≠ fullB (n + 1)) (m : Int) (hmm : m = ((n + 1 : Nat) : Int)) (he : ¬ ((t &&& fullB n) = (t >>> 2 ^ n))) (l0 : ¬ ((t &&& fullB n) = 0#64)) (hz : ¬ ((t >>> 2 ^ n) = 0#64)) (lF : ((t &&& fullB n) = fullB n)) (w : World) :
    Calls Tryz.prog 120 #[.int .u64 (un t), .int .i64 m] w fun e w' => RetN (decS n t) e w w' := by
  have HFm : Hid (∀ w, Calls Tryz.prog 157 #[.int .i64 m] w fun e w' => e = .returned (.int .u64 (un (fullB (n + 1)))) ∧ w = w') := by rw [hmm]; exact Lib.hid fun w => full_any (n + 1) (by omega) w
  have HFn := Lib.hid (full_any n (by omega))
  have HD : Hid (∀ x w, x = (t &&& fullB n) ∨ x = (t >>> 2 ^ n) → Calls Tryz.prog 120 #[.int .u64 (un x), .int .i64 (n : Int)] w fun e w' => RetN (decF n x) e w w') := Lib.hid fun x w hx => ih x (by rcases hx with rfl | rfl; exact low_in n t; exact high_in hn ht) w
  have q0 : (t == 0#64) = false := by simpa using h0
  have q1 : (t == fullB (n + 1)) = false := by simpa using h1
  have h63 : n < 63 := by omega
  have hm : m - 1 = (n : Int) := by omega
  have hm6 : m ≤ 6 := by omega
  have hm0 : 1 ≤ m := by omega
  have q2 : ((t &&& fullB n) == (t >>> 2 ^ n)) = false := by simpa using he
  have ql0 : ((t &&& fullB n) == 0#64) = false := by simpa using l0
  have qhz : ((t >>> 2 ^ n) == 0#64) = false := by simpa using hz
  have qlF : ((t &&& fullB n) == fullB n) = true := by simpa using lF
  have HR : Hid (decS n t = ccImp (ccFact (n : Int)) (decF n (t >>> 2 ^ n))) := Lib.hid (by rw [decS_eq h0 h1, if_neg he]; simp only [eq_false l0, eq_false hz, eq_true lF, and_true, false_and, if_true, if_false])
  clear he l0 hz lF
  clear ih ht h0 h1 hmm
  go_enter Tryz.func120, Tryz.ntmps120
  go_wp2_with (go_at_call 157; refine (HFm.out _).mono ?_; rintro _ _ ⟨rfl, rfl⟩)
  go_quiet ((go_at_call 157; exact Calls.quiet_of_same ((HFn.out _).mono fun _ _ h => ⟨h.1, h.2.symm⟩)))
  go_wp2_with (first | (go_at_call 31; refine (cFact_any _ _).mono ?_; rintro _ wp ⟨pa, pc, rfl, hp, hEp⟩) | (go_at_call 120; refine (HD.out (t >>> 2 ^ n) _ (.inr rfl)).mono ?_; rintro _ wx ⟨xa, xc, rfl, hx, hEx⟩) | (go_at_call 159; refine (cImp_any _ _ _ _ _ _ _ (by first | assumption | exact RN.ext (by assumption) (by assumption) | exact RN.ext (Ext.trans (by assumption) (by assumption)) (by assumption)) (by first | assumption | exact RN.ext (by assumption) (by assumption) | exact RN.ext (Ext.trans (by assumption) (by assumption)) (by assumption))).mono ?_; rintro _ wz ⟨za, zc, rfl, hz, hEz⟩) | (go_at_call 157; refine (HFn.out _).mono ?_; rintro _ _ ⟨rfl, rfl⟩))
  go_ret
  rw [HR.out]; exact ⟨za, zc, rfl, hz, ((Ext.refl w).drewN _).trans ((hEp.trans hEx).trans hEz)⟩
set_option maxHeartbeats 2000000 in
theorem decide_6 (n : Nat) (hn : n + 1 ≤ 6) (ih : DecAt n) (t : BitVec 64) (ht : t &&& ~~~ fullB (n + 1) = 0#64) (h0 : t ≠ 0#64) (h1 : t ≠ fullB (n + 1)) (m : Int) (hmm : m = ((n + 1 : Nat) : Int)) (he : ¬ ((t &&& fullB n) = (t >>> 2 ^ n))) (l0 : ¬ ((t &&& fullB n) = 0#64)) (hz : ¬ ((t >>> 2 ^ n) = 0#64)) (lF : ¬ ((t &&& fullB n) = fullB n)) (hF : ((t >>> 2 ^ n) = fullB n)) (w : World) :
    Calls Tryz.prog 120 #[.int .u64 (un t), .int .i64 m] w fun e w' => RetN (decS n t) e w w' := by
  have HFm : Hid (∀ w, Calls Tryz.prog 157 #[.int .i64 m] w fun e w' => e = .returned (.int .u64 (un (fullB (n + 1)))) ∧ w = w') := by rw [hmm]; exact Lib.hid fun w => full_any (n + 1) (by omega) w
  have HFn := Lib.hid (full_any n (by omega))
  have HD : Hid (∀ x w, x = (t &&& fullB n) ∨ x = (t >>> 2 ^ n) → Calls Tryz.prog 120 #[.int .u64 (un x), .int .i64 (n : Int)] w fun e w' => RetN (decF n x) e w w') := Lib.hid fun x w hx => ih x (by rcases hx with rfl | rfl; exact low_in n t; exact high_in hn ht) w
  have q0 : (t == 0#64) = false := by simpa using h0
  have q1 : (t == fullB (n + 1)) = false := by simpa using h1
  have h63 : n < 63 := by omega
  have hm : m - 1 = (n : Int) := by omega
  have hm6 : m ≤ 6 := by omega
  have hm0 : 1 ≤ m := by omega
  have q2 : ((t &&& fullB n) == (t >>> 2 ^ n)) = false := by simpa using he
  have ql0 : ((t &&& fullB n) == 0#64) = false := by simpa using l0
  have qhz : ((t >>> 2 ^ n) == 0#64) = false := by simpa using hz
  have qlF : ((t &&& fullB n) == fullB n) = false := by simpa using lF
  have qhF : ((t >>> 2 ^ n) == fullB n) = true := by simpa using hF
  have HR : Hid (decS n t = ccOr (ccFact (n : Int)) (decF n (t &&& fullB n))) := Lib.hid (by rw [decS_eq h0 h1, if_neg he]; simp only [eq_false l0, eq_false hz, eq_false lF, eq_true hF, and_true, and_false, if_true, if_false])
  clear he l0 hz lF hF
  clear ih ht h0 h1 hmm
  go_enter Tryz.func120, Tryz.ntmps120
  go_wp2_with (go_at_call 157; refine (HFm.out _).mono ?_; rintro _ _ ⟨rfl, rfl⟩)
  go_quiet ((go_at_call 157; exact Calls.quiet_of_same ((HFn.out _).mono fun _ _ h => ⟨h.1, h.2.symm⟩)))
  go_wp2_with (first | (go_at_call 31; refine (cFact_any _ _).mono ?_; rintro _ wp ⟨pa, pc, rfl, hp, hEp⟩) | (go_at_call 120; refine (HD.out (t &&& fullB n) _ (.inl rfl)).mono ?_; rintro _ wx ⟨xa, xc, rfl, hx, hEx⟩) | (go_at_call 81; refine (cOr_any _ _ _ _ _ _ _ (by first | assumption | exact RN.ext (by assumption) (by assumption) | exact RN.ext (Ext.trans (by assumption) (by assumption)) (by assumption)) (by first | assumption | exact RN.ext (by assumption) (by assumption) | exact RN.ext (Ext.trans (by assumption) (by assumption)) (by assumption))).mono ?_; rintro _ wz ⟨za, zc, rfl, hz, hEz⟩) | (go_at_call 157; refine (HFn.out _).mono ?_; rintro _ _ ⟨rfl, rfl⟩))
  go_ret
  rw [HR.out]; exact ⟨za, zc, rfl, hz, ((Ext.refl w).drewN _).trans ((hEp.trans hEx).trans hEz)⟩
set_option maxHeartbeats 2000000 in
theorem decide_7 (n : Nat) (hn : n + 1 ≤ 6) (ih : DecAt n) (t : BitVec 64) (ht : t &&& ~~~ fullB (n + 1) = 0#64) (h0 : t ≠ 0#64) (h1 : t ≠ fullB (n + 1)) (m : Int) (hmm : m = ((n + 1 : Nat) : Int)) (he : ¬ ((t &&& fullB n) = (t >>> 2 ^ n))) (l0 : ¬ ((t &&& fullB n) = 0#64)) (hz : ¬ ((t >>> 2 ^ n) = 0#64)) (lF : ¬ ((t &&& fullB n) = fullB n)) (hF : ¬ ((t >>> 2 ^ n) = fullB n)) (w : World) :
    Calls Tryz.prog 120 #[.int .u64 (un t), .int .i64 m] w fun e w' => RetN (decS n t) e w w' := by
  have HFm : Hid (∀ w, Calls Tryz.prog 157 #[.int .i64 m] w fun e w' => e = .returned (.int .u64 (un (fullB (n + 1)))) ∧ w = w') := by rw [hmm]; exact Lib.hid fun w => full_any (n + 1) (by omega) w
  have HFn := Lib.hid (full_any n (by omega))
  have HD : Hid (∀ x w, x = (t &&& fullB n) ∨ x = (t >>> 2 ^ n) → Calls Tryz.prog 120 #[.int .u64 (un x), .int .i64 (n : Int)] w fun e w' => RetN (decF n x) e w w') := Lib.hid fun x w hx => ih x (by rcases hx with rfl | rfl; exact low_in n t; exact high_in hn ht) w
  have q0 : (t == 0#64) = false := by simpa using h0
  have q1 : (t == fullB (n + 1)) = false := by simpa using h1
  have h63 : n < 63 := by omega
  have hm : m - 1 = (n : Int) := by omega
  have hm6 : m ≤ 6 := by omega
  have hm0 : 1 ≤ m := by omega
  have q2 : ((t &&& fullB n) == (t >>> 2 ^ n)) = false := by simpa using he
  have ql0 : ((t &&& fullB n) == 0#64) = false := by simpa using l0
  have qhz : ((t >>> 2 ^ n) == 0#64) = false := by simpa using hz
  have qlF : ((t &&& fullB n) == fullB n) = false := by simpa using lF
  have qhF : ((t >>> 2 ^ n) == fullB n) = false := by simpa using hF
  have HR : Hid (decS n t = ccAnd (ccImp (ccFact (n : Int)) (decF n (t >>> 2 ^ n))) (ccOr (ccFact (n : Int)) (decF n (t &&& fullB n)))) := Lib.hid (by rw [decS_eq h0 h1, if_neg he]; simp only [eq_false l0, eq_false hz, eq_false lF, eq_false hF, and_false, if_false])
  clear he l0 hz lF hF
  clear ih ht h0 h1 hmm
  go_enter Tryz.func120, Tryz.ntmps120
  go_wp2_with (go_at_call 157; refine (HFm.out _).mono ?_; rintro _ _ ⟨rfl, rfl⟩)
  go_quiet ((go_at_call 157; exact Calls.quiet_of_same ((HFn.out _).mono fun _ _ h => ⟨h.1, h.2.symm⟩)))
  go_wp2_with (first | (go_at_call 31; refine (cFact_any _ _).mono ?_; rintro _ wp ⟨pa, pc, rfl, hp, hEp⟩) | (go_at_call 157; refine (HFn.out _).mono ?_; rintro _ _ ⟨rfl, rfl⟩) | fail)
  refine (HD.out (t >>> 2 ^ n) _ (.inr rfl)).mono ?_
  rintro _ w2 ⟨a2, c2, rfl, h2, hE2⟩
  dsimp only
  go_wp2_with fail
  refine (cImp_any _ _ _ _ _ _ _ (hp.ext hE2) h2).mono ?_
  rintro _ w3 ⟨a3, c3, rfl, h3, hE3⟩
  dsimp only
  go_wp2_with fail
  refine (HD.out (t &&& fullB n) _ (.inl rfl)).mono ?_
  rintro _ w4 ⟨a4, c4, rfl, h4, hE4⟩
  dsimp only
  go_wp2_with fail
  refine (cOr_any _ _ _ _ _ _ _ (hp.ext (hE2.trans (hE3.trans hE4))) h4).mono ?_
  rintro _ w5 ⟨a5, c5, rfl, h5, hE5⟩
  dsimp only
  go_wp2_with fail
  refine (cAnd_any _ _ _ _ _ _ _ (h3.ext (hE4.trans hE5)) h5).mono ?_
  rintro _ w6 ⟨a6, c6, rfl, h6, hE6⟩
  dsimp only
  go_wp2_with fail
  go_ret
  rw [HR.out]
  exact ⟨a6, c6, rfl, h6, ((Ext.refl w).drewN _).trans (hEp.trans (hE2.trans (hE3.trans (hE4.trans (hE5.trans hE6)))))⟩
theorem decide_at : ∀ n, n ≤ 6 → DecAt n
  | 0, _ => fun t ht w => by
    by_cases h : t = 0#64
    · exact decide_no 0 (by decide) t h w
    · exact decide_all 0 (by decide) t h (tab_zero ht h) w
  | n + 1, hn => fun t ht w => by
    have ih := decide_at n (by omega)
    by_cases h0 : t = 0#64
    · exact decide_no (n + 1) hn t h0 w
    by_cases h1 : t = fullB (n + 1)
    · exact decide_all (n + 1) hn t h0 h1 w
    by_cases he : (t &&& fullB n) = (t >>> 2 ^ n)
    · exact decide_same n hn ih t ht h0 h1 _ rfl he w
    by_cases l0 : (t &&& fullB n) = 0#64
    · have hh : ¬ ((t >>> 2 ^ n) = 0#64) := fun h => he (l0.trans h.symm)
      by_cases hF : (t >>> 2 ^ n) = fullB n
      · exact decide_1 n hn ih t ht h0 h1 _ rfl he l0 hF w
      · exact decide_3 n hn ih t ht h0 h1 _ rfl he l0 hF hh w
    by_cases hh : (t >>> 2 ^ n) = 0#64
    · by_cases lF : (t &&& fullB n) = fullB n
      · exact decide_2 n hn ih t ht h0 h1 _ rfl he l0 hh lF w
      · exact decide_4 n hn ih t ht h0 h1 _ rfl he l0 hh lF w
    by_cases lF : (t &&& fullB n) = fullB n
    · exact decide_5 n hn ih t ht h0 h1 _ rfl he l0 hh lF w
    by_cases hF : (t >>> 2 ^ n) = fullB n
    · exact decide_6 n hn ih t ht h0 h1 _ rfl he l0 hh lF hF w
    · exact decide_7 n hn ih t ht h0 h1 _ rfl he l0 hh lF hF w
set_option maxHeartbeats 1000000 in
/-- A table that fits makes a formula. -/
theorem tableError_any (t : BitVec 64) (n : Nat) (hn : n ≤ 6) (ht : t &&& ~~~ fullB n = 0#64) (w : World) :
    Calls Tryz.prog 119 #[.int .u64 (un t), .int .i64 (n : Int)] w fun e w' => e = .returned (.int .i64 0) ∧ w = w' := by
  have HFn := Lib.hid (full_any n hn)
  have hq : (t &&& ~~~ fullB n != 0#64) = false := by simp [ht]
  have h6 : decide ((6 : Int) < (n : Int)) = false := decide_eq_false (by omega)
  have h0 : decide ((n : Int) < 0) = false := decide_eq_false (by omega)
  clear ht
  go_enter Tryz.func119, Tryz.ntmps119
  go_wp2_with (first | (go_at_call 157; refine (HFn.out _).mono ?_; rintro _ _ ⟨rfl, rfl⟩) | fail)
  go_ret
  exact ⟨rfl, rfl⟩
set_option maxHeartbeats 1000000 in
theorem fromTable_any (t : BitVec 64) (n : Nat) (hn : n ≤ 6) (ht : t &&& ~~~ fullB n = 0#64) (w : World) :
    Calls Tryz.prog 79 #[.int .u64 (un t), .int .i64 (n : Int)] w fun e w' => ∃ a c, e = .returned (.tuple #[.slice a (decF n t).length c, .int .i64 0]) ∧ RN w' a (decF n t) ∧ Ext w w' := by
  have HT := Lib.hid (tableError_any t n hn ht)
  have HD := Lib.hid (decide_at n hn t ht)
  clear ht
  go_enter Tryz.func79, Tryz.ntmps79
  go_wp2_with (first | (go_at_call 119; refine (HT.out _).mono ?_; rintro _ _ ⟨rfl, rfl⟩) | (go_at_call 120; refine (HD.out _).mono ?_; rintro _ w1 ⟨a1, c1, rfl, h1, hE⟩))
  go_ret2
  exact ⟨a1, c1, rfl, h1, hE⟩
end Wt
