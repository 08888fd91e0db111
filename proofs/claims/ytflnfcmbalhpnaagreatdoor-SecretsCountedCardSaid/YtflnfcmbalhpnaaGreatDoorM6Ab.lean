/- Walks: Votes of the program and of the reference at all inputs; Tally, Passes at inputs that are not permitted (printed by gen_s4d.py). -/
import Derived.Test.YtflnfcmbalhpnaaGreatDoorM5Af
import Derived.Test.YtflnfcmbalhpnaaGreatDoorM4Bm
import Derived.Test.YtflnfcmbalhpnaaGreatDoorM6Aa
import Derived.Test.YtflnfcmbalhpnaaGreatDoorM5Ab
namespace Wt
open Go Go.RowKit Go.Maps Go.Proofs Fm

theorem RetX.zero {w w' : World} (x : Value) (h : Ext w w') : RetX ⟨0, [], []⟩ x (.returned (.tuple #[.agg #[.int .i64 0, .slice none 0 0, .slice none 0 0], x])) w w' :=
  ⟨none, none, 0, 0, rfl, fun _ _ => ⟨RU.nil _ _, RR.nil _ _⟩, h⟩
set_option maxRecDepth 20000 in
set_option maxHeartbeats 4000000 in
theorem r44votes_any (n : Nat) (hn : 2 ≤ n ∧ n ≤ 4) (w : World) :
    Calls Tryz.prog 42 #[.int .i64 (n : Int)] w fun e w' => RetX (votesM n) (.int .i64 0) e w w' := by
  have hE0 : Ext w (w.alloc (.cells #[.int .i64 0, .slice none 0 0, .slice none 0 0] 25)) := (Ext.refl w).alloc _
  have hO0 := OutAt.new w (.int .i64 0) (.slice none 0 0) (.slice none 0 0) 25
  have hb1 : btw (n : Int) 2 4 = true := btw_yes (by omega)
  have HOK : Hid (obErr (n : Int) ccTrue (seenTo n) = 0) := Lib.hid (votes_ok hn)
  have HVM : Hid (votesM n = obM (n : Int) ccTrue (seenTo n)) := Lib.hid rfl
  have HE0 := Lib.hid hE0
  have HO0 := Lib.hid hO0
  have HSL := Lib.hid seenTo_len
  have HSS := Lib.hid seenTo_step
  have hn4 := hn.2
  obtain ⟨i0, hi1, hz0, hz1, hz2⟩ := info_parts ssn_info
  go_enter Tryz.func42, Tryz.ntmps42
  generalize hW0 : w.alloc (.cells #[.int .i64 0, .slice none 0 0, .slice none 0 0] 25) = W0 at *
  have hlt0 : w.heap.size < W0.heap.size := hO0.lt
  have HLT0 := Lib.hid hlt0
  clear hE0 hO0
  go_wp2_with (go_at_call 54; refine (r44in_any _ _ _ _).mono ?_; rintro _ _ ⟨rfl, rfl⟩)
  go_loopw [4, 5] (fun v i wr => ∃ k : Nat, k ≤ n ∧ i = .int .i64 (k : Int) ∧ Hid (SKV W0 (seenTo k) v wr)) (fun _ i _ => n - (intOf i).toNat)
  case atStart => exact ⟨0, Nat.zero_le _, rfl, Lib.hid ⟨_, SK.nil W0⟩⟩
  case round =>
    obtain ⟨k, hk, rfl, HSK⟩ := hrel
    obtain ⟨svs, hsk⟩ := HSK.out
    by_cases hlt : k < n
    · have hl1 : (ccFact (k : Int)).length = 1 := len_fact ⟨k, by omega⟩
      have hsz0 : W0.heap.size ≤ wr.heap.size := hsk.e.size
      have hsl : svs.length = k := by rw [hsk.len, HSL.out]
      have HF := Lib.hid (r5Fact_any k (by omega) wr)
      have HPA : Hid (∀ W2, Ext wr W2 → SK W0 (seenTo k) svs u4 W2) := Lib.hid fun W2 e => hsk.ext' e
      have HGB : Hid (∀ q, u4.ownBlock = some q → q < wr.heap.size) := Lib.hid fun q hq => (hsk.own.lt q hq).2
      have HSTEP := Lib.hid (HSS.out k)
      have HL1 := Lib.hid hl1
      have HONE : Hid (∀ (a : Option Addr) (x y : Nat), ∀ u ∈ [Value.slice a x y], u.oneCell' = true) := Lib.hid fun a x y u hu => by
        rw [List.mem_singleton.1 hu]; rfl
      generalize ccFact (k : Int) = F at *
      generalize seenTo k = L at *
      have HF0 : Hid (0 < F.length) := Lib.hid (by rw [hl1]; decide)
      clear hsk hl1
      go_wp2_with (first | (go_at_call 55; refine (HF.out).mono ?_; rintro _ w2 ⟨fa, fc, rfl, hr2, hfr2, hE2⟩; have HPU0 := Lib.hid (fun T o => Stay.one1 (fc := fc) HGB.out hE2 hr2 hfr2 HF0.out T o); have HE2 := Lib.hid hE2; have hsz2 : W0.heap.size ≤ w2.heap.size := Nat.le_trans hsz0 hE2.size; clear hr2 hfr2 hE2) | (at_builtin; refine wpList_append_lies _ rfl _ _ 65 rfl W0.heap.size 68 i0 _ 1 24 Tryz.underlying65 hi1 hz0 hz1 hz2 rfl (by decide) u4 svs.length svs rfl ((HPA.out _ ((HE2.out.alloc _).alloc _)).own) ⟨w2.heap.size + 1, 0, none⟩ 1 1 [.slice (some ⟨w2.heap.size, 0, none⟩) 1 1] rfl rfl (cell_one_new1 _ _ _ _) (HONE.out _ _ _) (by decide) (by unfold maxLen; omega) (by omega) (Nat.le_trans hsz2 (by simp; omega)) _ rfl ?_; intro gx cap W1 hown hgrow hat hlt2; have hpush := (HPA.out _ ((HE2.out.alloc _).alloc _)).push (l := [F]) (c := 1) (HPU0.out _ _) hown hgrow hat; have HPU := Lib.hid hpush; clear hpush hown hgrow hat))
      go_roundw
      case rel => exact ⟨k + 1, hlt, by go_num, Lib.hid ⟨_, by rw [HSTEP.out]; rw [hsl] at HPU; exact HPU.out⟩⟩
      case measure => simp [intOf]; omega
    · obtain rfl : k = n := by omega
      obtain ⟨sa, sc, hv, hrn⟩ := hsk.rnnn (by rw [HSL.out]; omega)
      have HSE := Lib.hid hsk.e
      have HRN := Lib.hid hrn
      have HB := Lib.hid (fun W fa fc (hf : RN W fa ccTrue) (hs : RNNN W sa (seenTo k)) => r22buildR_any (k : Int) fa fc ccTrue sa sc (seenTo k) W hf hs)
      rw [HOK.out, ← HVM.out] at HB
      have HSLk := Lib.hid (HSL.out k)
      generalize seenTo k = L at *
      generalize natI (obS (k : Int) ccTrue L) = stl at *
      generalize hvm : votesM k = A at *
      have HVA := Lib.hid hvm
      subst hv
      clear hsk hrn hvm
      have HTR : Hid (∀ w, Calls Tryz.prog 76 #[] w fun e w' => RetN ccTrue e w w') := Lib.hid fun w => r5True_any w
      generalize ccTrue = TR at *
      have HHO : Hid (∀ w', Ext W0 w' → OutAt w' w.heap.size (.int .i64 0) (.slice none 0 0) (.slice none 0 0)) := Lib.hid fun w' e => HO0.out.ext e
      clear HOK HVM hW0
      go_wp2_with (first | (go_at_call 76; refine (HTR.out _).mono ?_; rintro _ w3 ⟨ta, tc, rfl, hr3, hE3⟩; have HR3 := Lib.hid hr3; have HE3 := Lib.hid hE3; clear hr3 hE3) | (go_at_call 57; refine (HB.out _ ta tc HR3.out (HRN.out.ext HE3.out)).mono ?_; rintro _ w5 ⟨va, ra, la, vc, rc, lc, rfl, hk5, hE5⟩; have HK5 := Lib.hid hk5; have HE5 := Lib.hid hE5; have HO5 := Lib.hid (HHO.out _ (HSE.out.trans (HE3.out.trans hE5))); obtain ⟨r0, r1, r2, rf⟩ := HO5.out; have f0 := rf 0; have f1 := rf 1; have f2 := rf 2; have hl5 := HO5.out.lt; clear hk5 hE5 rf))
      have hs3 := (HE0.out.trans (HSE.out.trans HE3.out)).size
      have hst := stored3a HO5.out ((HE0.out.trans (HSE.out.trans HE3.out)).trans HE5.out) (Nat.le_refl _) (B := w3.heap.size) (Nat.lt_of_lt_of_le HLT0.out (HSE.out.trans HE3.out).size) (.int .i64 A.worlds) (.slice va A.val.length vc) (.slice ra A.rel.length rc) (.cells #[.int .i64 A.worlds, .slice va A.val.length vc, .slice ra A.rel.length rc] 25)
      generalize (((w5.setCell ⟨w.heap.size, 0, none⟩ (.int .i64 A.worlds)).setCell ⟨w.heap.size, 1, none⟩ (.slice va A.val.length vc)).setCell ⟨w.heap.size, 2, none⟩ (.slice ra A.rel.length rc)).alloc (.cells #[.int .i64 A.worlds, .slice va A.val.length vc, .slice ra A.rel.length rc] 25) = W2 at *
      obtain ⟨hEx, ⟨d0, d1, d2, -⟩, hag, hsw⟩ := hst
      refine bodyPost_ret (v := .tuple #[.agg #[.int .i64 A.worlds, .slice va A.val.length vc, .slice ra A.rel.length rc], .int .i64 0]) ?_ rfl ?_
      · rw [results_cell_w rfl]
        go_simp
      · rw [HVA.out]
        exact ⟨va, ra, vc, rc, rfl, fun w'' ha => (HK5.out w'' (agree_up hag ha hs3 hsw)).1, hEx⟩
set_option maxRecDepth 20000 in
set_option maxHeartbeats 2000000 in
theorem votesNo_any (n : Int) (hb : btw n 2 4 = false) (w : World) :
    Calls Tryz.prog 75 #[.int .i64 n] w fun e w' => RetX ⟨0, [], []⟩ (.bool false) e w w' := by
  have hE0 : Ext w (w.alloc (.cells #[.int .i64 0, .slice none 0 0, .slice none 0 0] 25)) := (Ext.refl w).alloc _
  have hO0 := OutAt.new w (.int .i64 0) (.slice none 0 0) (.slice none 0 0) 25
  have HE0 := Lib.hid hE0
  have HO0 := Lib.hid hO0
  clear hE0 hO0
  go_enter Tryz.func75, Tryz.ntmps75
  go_wp2_with (first | (go_at_call 48; refine (between_any _ _ _ _).mono ?_; rintro _ _ ⟨rfl, rfl⟩) | fail)
  obtain ⟨d0, d1, d2, -⟩ := HO0.out
  refine bodyPost_ret (v := .tuple #[.agg #[.int .i64 0, .slice none 0 0, .slice none 0 0], .bool false]) ?_ rfl ?_
  · rw [results_cell_w rfl]
    go_simp
  · exact RetX.zero _ HE0.out
set_option maxRecDepth 20000 in
set_option maxHeartbeats 2000000 in
theorem r44votesNo_any (n : Int) (hb : btw n 2 4 = false) (w : World) :
    Calls Tryz.prog 42 #[.int .i64 n] w fun e w' => RetX ⟨0, [], []⟩ (.int .i64 2) e w w' := by
  have hE0 : Ext w (w.alloc (.cells #[.int .i64 0, .slice none 0 0, .slice none 0 0] 25)) := (Ext.refl w).alloc _
  have hO0 := OutAt.new w (.int .i64 0) (.slice none 0 0) (.slice none 0 0) 25
  have HE0 := Lib.hid hE0
  have HO0 := Lib.hid hO0
  clear hE0 hO0
  go_enter Tryz.func42, Tryz.ntmps42
  go_wp2_with (first | (go_at_call 54; refine (r44in_any _ _ _ _).mono ?_; rintro _ _ ⟨rfl, rfl⟩) | fail)
  obtain ⟨d0, d1, d2, -⟩ := HO0.out
  refine bodyPost_ret (v := .tuple #[.agg #[.int .i64 0, .slice none 0 0, .slice none 0 0], .int .i64 2]) ?_ rfl ?_
  · rw [results_cell_w rfl]
    go_simp
  · exact RetX.zero _ HE0.out
set_option maxRecDepth 20000 in
set_option maxHeartbeats 2000000 in
theorem votesENo_any (n : Int) (hb : btw n 2 4 = false) (w : World) :
    Calls Tryz.prog 41 #[.int .i64 n] w fun e w' => RetX ⟨0, [], []⟩ (.int .i64 2) e w w' := by
  have hE0 : Ext w (w.alloc (.cells #[.int .i64 0, .slice none 0 0, .slice none 0 0] 25)) := (Ext.refl w).alloc _
  have HO0 := Lib.hid (OutAt.new w (.int .i64 0) (.slice none 0 0) (.slice none 0 0) 25)
  have HV := Lib.hid (votesNo_any n hb)
  have HE0 := Lib.hid hE0
  clear hE0
  go_enter Tryz.func41, Tryz.ntmps41
  go_wp2_with fail
  generalize w.alloc (.cells #[.int .i64 0, .slice none 0 0, .slice none 0 0] 25) = W0 at *
  refine (HV.out _).mono ?_
  rintro _ w5 ⟨va, ra, vc, rc, rfl, hk5, hE5⟩
  have HE5 := Lib.hid hE5
  have HO5 := Lib.hid (HO0.out.ext hE5)
  obtain ⟨r0, r1, r2, rf⟩ := HO5.out
  have f0 := rf 0
  have f1 := rf 1
  have f2 := rf 2
  have hl5 := HO5.out.lt
  have HL0 := Lib.hid HO0.out.lt
  clear hk5 hE5 rf
  dsimp only
  go_wp2_with fail
  have hst := stored3a HO5.out (HE0.out.trans HE5.out) (Nat.le_refl _) (B := W0.heap.size) HL0.out (.int .i64 0) (.slice none 0 0) (.slice none 0 0) (.cells #[.int .i64 0, .slice va 0 vc, .slice ra 0 rc] 25)
  generalize (((w5.setCell ⟨w.heap.size, 0, none⟩ (.int .i64 0)).setCell ⟨w.heap.size, 1, none⟩ (.slice none 0 0)).setCell ⟨w.heap.size, 2, none⟩ (.slice none 0 0)).alloc (.cells #[.int .i64 0, .slice va 0 vc, .slice ra 0 rc] 25) = W2 at *
  obtain ⟨hEx, ⟨d0, d1, d2, -⟩, hag, hsw⟩ := hst
  refine bodyPost_ret (v := .tuple #[.agg #[.int .i64 0, .slice none 0 0, .slice none 0 0], .int .i64 2]) ?_ rfl ?_
  · rw [results_cell_w rfl]
    go_simp
  · exact RetX.zero _ hEx
set_option maxHeartbeats 2000000 in
theorem tallyNo_any (n a : Int) (hb : btw n 2 4 = false ∨ (btw n 2 4 = true ∧ btw a 0 n = false)) (w : World) :
    Calls Tryz.prog 33 #[.int .i64 n, .int .i64 a] w fun e w' => RetNe [] 2 e w w' := by
  rcases hb with hb | ⟨hb, hb2⟩
  all_goals
    go_enter Tryz.func33, Tryz.ntmps33
    go_wp2_with (first | (go_at_call 48; refine (between_any _ _ _ _).mono ?_; rintro _ _ ⟨rfl, rfl⟩) | fail)
    go_ret2
    exact ⟨none, 0, rfl, RN.nil _ _, by first | exact Ext.refl _ | exact (Ext.refl _).alloc _⟩
set_option maxHeartbeats 2000000 in
theorem r44tallyNo_any (n a : Int) (hb : btw n 2 4 = false ∨ (btw n 2 4 = true ∧ btw a 0 n = false)) (w : World) :
    Calls Tryz.prog 43 #[.int .i64 n, .int .i64 a] w fun e w' => RetNe [] 2 e w w' := by
  rcases hb with hb | ⟨hb, hb2⟩
  all_goals
    go_enter Tryz.func43, Tryz.ntmps43
    go_wp2_with (first | (go_at_call 54; refine (r44in_any _ _ _ _).mono ?_; rintro _ _ ⟨rfl, rfl⟩) | fail)
    go_ret2
    exact ⟨none, 0, rfl, RN.nil _ _, by first | exact Ext.refl _ | exact (Ext.refl _).alloc _⟩
set_option maxHeartbeats 2000000 in
theorem passesNo_any (n a : Int) (hb : btw n 2 4 = false ∨ (btw n 2 4 = true ∧ btw a 0 n = false)) (w : World) :
    Calls Tryz.prog 44 #[.int .i64 n, .int .i64 a] w fun e w' => RetNe [] 2 e w w' := by
  rcases hb with hb | ⟨hb, hb2⟩
  all_goals
    go_enter Tryz.func44, Tryz.ntmps44
    go_wp2_with (first | (go_at_call 48; refine (between_any _ _ _ _).mono ?_; rintro _ _ ⟨rfl, rfl⟩) | fail)
    go_ret2
    exact ⟨none, 0, rfl, RN.nil _ _, by first | exact Ext.refl _ | exact (Ext.refl _).alloc _⟩
set_option maxHeartbeats 2000000 in
theorem r44passesNo_any (n a : Int) (hb : btw n 2 4 = false ∨ (btw n 2 4 = true ∧ btw a 0 n = false)) (w : World) :
    Calls Tryz.prog 45 #[.int .i64 n, .int .i64 a] w fun e w' => RetNe [] 2 e w w' := by
  rcases hb with hb | ⟨hb, hb2⟩
  all_goals
    go_enter Tryz.func45, Tryz.ntmps45
    go_wp2_with (first | (go_at_call 54; refine (r44in_any _ _ _ _).mono ?_; rintro _ _ ⟨rfl, rfl⟩) | fail)
    go_ret2
    exact ⟨none, 0, rfl, RN.nil _ _, by first | exact Ext.refl _ | exact (Ext.refl _).alloc _⟩
theorem votes_both (n : Int) : ∃ A c, (∀ w, Calls Tryz.prog 41 #[.int .i64 n] w fun e w' => RetX A (.int .i64 c) e w w') ∧ (∀ w, Calls Tryz.prog 42 #[.int .i64 n] w fun e w' => RetX A (.int .i64 c) e w w') := by
  cases hb : btw n 2 4
  · exact ⟨_, _, votesENo_any n hb, r44votesNo_any n hb⟩
  · obtain ⟨h1, h2⟩ := btw_true hb
    obtain ⟨N, rfl⟩ := Int.eq_ofNat_of_zero_le (show 0 ≤ n by omega)
    have hN : 2 ≤ N ∧ N ≤ 4 := by omega
    exact ⟨_, _, votesE_any N hN, r44votes_any N hN⟩
end Wt

namespace Wt
open Go Go.RowKit Go.Maps Go.Proofs Fm

theorem ones_half : ∀ a : _root_.Fin 16, onesN a.val = a.val % 2 + onesN (a.val / 2) := by decide +kernel
theorem ones_le16 : ∀ a : _root_.Fin 16, onesN a.val ≤ 4 := by decide +kernel
theorem ones_zero : onesN 0 = 0 := by decide +kernel
set_option maxHeartbeats 1000000 in
theorem r44ones_any (v : Nat) (hv : v < 16) (w : World) :
    Calls Tryz.prog 71 #[.int .i64 (v : Int)] w fun e w' => e = .returned (.int .i64 (onesN v : Int)) ∧ w = w' := by
  obtain ⟨O, hO⟩ : ∃ O, O = onesN v := ⟨_, rfl⟩
  have hO4 : O ≤ 4 := hO ▸ ones_le16 ⟨v, hv⟩
  rw [← hO]
  have HO := Lib.hid hO
  clear hO
  go_enter Tryz.func71, Tryz.ntmps71
  go_wp2
  go_loopw [0, 3] (fun x q wr => ∃ a b : Nat, a < 16 ∧ x = .int .i64 (a : Int) ∧ q = .int .i64 (b : Int) ∧ Hid (b + onesN a = O) ∧ w = wr) (fun x _ _ => (intOf x).toNat)
  case atStart => exact ⟨v, 0, hv, rfl, rfl, Lib.hid (by rw [HO.out, Nat.zero_add]), rfl⟩
  case round =>
    obtain ⟨a, b, ha, rfl, rfl, hs, rfl⟩ := hrel
    by_cases h0 : 0 < a
    · have hr : (a : Int).tmod 2 = ((a % 2 : Nat) : Int) := (Int.ofNat_tmod a 2).symm
      have hd : (a : Int).tdiv 2 = ((a / 2 : Nat) : Int) := (Int.ofNat_tdiv a 2).symm
      have hh := ones_half ⟨a, ha⟩
      dsimp only at hh
      have hda : a / 2 < a := Nat.div_lt_self h0 (by decide)
      have hc1 : a % 2 < 2 := Nat.mod_lt _ (by decide)
      generalize a % 2 = c at *
      generalize a / 2 = d at *
      have hs2 : Hid ((b + c) + onesN d = O) := Lib.hid (by rw [← hs.out, hh]; omega)
      have hb4 : b ≤ 4 := Nat.le_trans (Nat.le_add_right b (onesN a)) (by rw [hs.out]; exact hO4)
      clear hh hs
      go_wp2
      go_roundw
      case rel => exact ⟨d, b + c, by omega, rfl, by go_num, hs2, trivial⟩
      case measure => simp [intOf]; omega
    · obtain rfl : a = 0 := by omega
      obtain rfl : b = O := by rw [← hs.out, ones_zero]; rfl
      go_wp2
      go_ret
      exact ⟨rfl, rfl⟩
set_option maxHeartbeats 1000000 in
theorem r9request_any (t : BitVec 64) (n : Nat) (hn : n ≤ 4) (ht : t >>> (2 ^ n) = 0#64) (w : World) :
    Calls Tryz.prog 142 #[.int .u64 (un t), .int .i64 (n : Int)] w fun e w' => e = .returned (.int .i64 0) ∧ w = w' := by
  have h63 : n < 63 := by omega
  have h0 : decide ((n : Int) < 0) = false := decide_eq_false (by omega)
  have h6 : decide ((6 : Int) < (n : Int)) = false := decide_eq_false (by omega)
  have h7 : decide ((n : Int) < 6) = true := decide_eq_true (by omega)
  have hq : (t >>> (2 ^ n) != 0#64) = false := by simp [ht]
  clear ht
  go_enter Tryz.func142, Tryz.ntmps142
  go_wp2
  go_ret
  exact ⟨rfl, rfl⟩
end Wt

namespace Wt
open Go Go.RowKit Go.Maps Go.Proofs Fm

structure NL (W0 : World) (F : List Nd) (v : Value) (wr : World) : Prop where
  e : Ext W0 wr
  own : wr.ownsRow W0.heap.size 73 6 v F.length (rowN F)
section
variable {W0 wr W1 : World} {F : List Nd} {v v' : Value}
theorem NL.ext' {w' : World} (h : NL W0 F v wr) (e : Ext wr w') : NL W0 F v w' :=
  ⟨h.e.trans e, h.own.kept (row := none) ⟨e.os, e.tape, e.output, e.size, fun k hk _ => e.block k hk⟩ (by cases v.ownBlock <;> simp)⟩
theorem NL.push (h : NL W0 F v wr) {M : List Nd} (ho : W1.ownsRow W0.heap.size 73 6 v' (F.length + M.length) (rowN F ++ rowN M)) (g : wr.grownBy W1 v.ownBlock) : NL W0 (F ++ M) v' W1 := by
  refine ⟨ext_of_grown h.e g (fun k hk => (h.own.lt k hk).1), ?_⟩
  rw [List.length_append, rowN_append]; exact ho
end
theorem cells_new (W : World) (l : List Value) (T H : Nat) (hH : W.heap.size = H) : ∀ j u, l[j]? = some u → (W.alloc (.cells l.toArray T)).cell? ((⟨H, 0, none⟩ : Addr).add j) = some u := by
  subst hH
  intro j u hj
  have hjl := (List.getElem?_eq_some_iff.1 hj).1
  cases j with
  | zero => simpa [Addr.add, World.cell?_alloc_new] using hj
  | succ j => simpa [Addr.add, World.cell?_alloc_new] using hj
theorem rowN_one (M : List Nd) : ∀ u ∈ rowN M, u.oneCell' = true := fun u hu => by
  unfold rowN at hu
  obtain ⟨n, -, hn⟩ := List.mem_flatMap.1 hu
  exact ndCells_one n u hn
theorem fmL_le : ∀ (n : Nat) (t : BitVec 64) (F : List Nd), F.length ≤ (fmL n t F).1.length ∧ (fmL n t F).1.length + 5 ≤ F.length + 6 * 2 ^ n
  | 0, t, F => by simp [fmL]
  | n + 1, t, F => by
    obtain ⟨a1, a2⟩ := fmL_le n (t &&& (1#64 <<< (2 ^ n) - 1#64)) F
    have hp : 2 ^ (n + 1) = 2 * 2 ^ n := by rw [Nat.pow_succ]; omega
    have h1 : 1 ≤ 2 ^ n := Nat.one_le_two_pow
    obtain ⟨b1, b2⟩ := fmL_le n (t >>> (2 ^ n)) (fmL n (t &&& (1#64 <<< (2 ^ n) - 1#64)) F).1
    simp only [fmL]
    split
    · constructor
      · exact a1
      · omega
    · simp only [List.length_append, List.length_cons, List.length_nil]
      constructor <;> omega
def FmAt (n : Nat) : Prop := ∀ (t : BitVec 64) (F : List Nd) (v : Value) (W0 w : World), NL W0 F v w → F.length + 6 * 2 ^ n ≤ 1000 → Calls Tryz.prog 143 #[v, .int .u64 (un t), .int .i64 (n : Int)] w fun e w' => ∃ v', e = .returned (.tuple #[v', .int .i64 ((fmL n t F).2 : Int)]) ∧ NL W0 (fmL n t F).1 v' w'
set_option maxRecDepth 20000 in
set_option maxHeartbeats 4000000 in
theorem fm_leaf : FmAt 0 := by
  intro t F v W0 w hv hl
  obtain ⟨va, vc, hve, -⟩ := RN_of_own hv.own (by omega)
  subst hve
  obtain ⟨nd, hnd⟩ : ∃ nd : Nd, nd = if t &&& 1#64 = 1#64 then ⟨1, 0, 0, 0, 0, 0⟩ else ⟨2, 0, 0, 0, 0, 0⟩ := ⟨_, rfl⟩
  have HR : Hid (fmL 0 t F = (F ++ [nd], F.length)) := Lib.hid (by rw [hnd]; rfl)
  have HV := Lib.hid hv
  have HND := Lib.hid hnd
  have HSZ : Hid (∀ W2, Ext w W2 → W0.heap.size ≤ W2.heap.size) := fun W2 e => Nat.le_trans hv.e.size e.size
  obtain ⟨i0, hi1, hz0, hz1, hz2⟩ := info_parts node_info
  clear hv hnd
  rw [HR.out]
  cases hq : (t &&& 1#64 == 1#64)
  · have hne : nd = ⟨2, 0, 0, 0, 0, 0⟩ := by rw [HND.out, if_neg (by simpa using hq)]
    subst hne
    clear HND HR
    go_enter Tryz.func143, Tryz.ntmps143
    go_wp2_with (at_builtin; refine wpList_append_lies _ rfl _ _ 29 rfl W0.heap.size 73 i0 _ 6 48 Tryz.underlying29 hi1 hz0 hz1 hz2 rfl (by decide) _ F.length _ rfl ((HV.out.ext' ((Ext.refl w).alloc _)).own) _ 1 1 (rowN [⟨2, 0, 0, 0, 0, 0⟩]) rfl rfl (cells_new _ _ _ _ rfl) (rowN_one _) (by decide) (by unfold maxLen; omega) (by omega) (HSZ.out _ ((Ext.refl w).alloc _)) _ rfl ?_; intro gx cap W1 hown hgrow hat hlt2; have hpush := (HV.out.ext' ((Ext.refl w).alloc _)).push (M := [⟨2, 0, 0, 0, 0, 0⟩]) hown hgrow; have HPU := Lib.hid hpush; clear hpush hown hgrow hat)
    go_ret2
    exact ⟨_, rfl, HPU.out⟩
  · have hne : nd = ⟨1, 0, 0, 0, 0, 0⟩ := by rw [HND.out, if_pos (by simpa using hq)]
    subst hne
    clear HND HR
    go_enter Tryz.func143, Tryz.ntmps143
    go_wp2_with (at_builtin; refine wpList_append_lies _ rfl _ _ 29 rfl W0.heap.size 73 i0 _ 6 48 Tryz.underlying29 hi1 hz0 hz1 hz2 rfl (by decide) _ F.length _ rfl ((HV.out.ext' ((Ext.refl w).alloc _)).own) _ 1 1 (rowN [⟨1, 0, 0, 0, 0, 0⟩]) rfl rfl (cells_new _ _ _ _ rfl) (rowN_one _) (by decide) (by unfold maxLen; omega) (by omega) (HSZ.out _ ((Ext.refl w).alloc _)) _ rfl ?_; intro gx cap W1 hown hgrow hat hlt2; have hpush := (HV.out.ext' ((Ext.refl w).alloc _)).push (M := [⟨1, 0, 0, 0, 0, 0⟩]) hown hgrow; have HPU := Lib.hid hpush; clear hpush hown hgrow hat)
    go_ret2
    exact ⟨_, rfl, HPU.out⟩
theorem fmL_same {n : Nat} {t : BitVec 64} {F : List Nd} (h : t &&& (1#64 <<< (2 ^ n) - 1#64) = t >>> (2 ^ n)) : fmL (n + 1) t F = fmL n (t &&& (1#64 <<< (2 ^ n) - 1#64)) F := by
  simp only [fmL]; rw [if_pos h]
def joinN (n : Nat) (k x y : Int) : List Nd := [⟨3, (n : Int), 0, 0, 0, 0⟩, ⟨4, 0, 0, 0, k, 0⟩, ⟨5, 0, 0, 0, k + 1, x⟩, ⟨5, 0, 0, 0, k, y⟩, ⟨6, 0, 0, 0, k + 2, k + 3⟩]
theorem fmL_join {n : Nat} {t : BitVec 64} {F : List Nd} (h : ¬ t &&& (1#64 <<< (2 ^ n) - 1#64) = t >>> (2 ^ n)) {P Q : List Nd × Nat} (hP : P = fmL n (t &&& (1#64 <<< (2 ^ n) - 1#64)) F) (hQ : Q = fmL n (t >>> (2 ^ n)) P.1) : fmL (n + 1) t F = (Q.1 ++ joinN n (Q.1.length : Int) (P.2 : Int) (Q.2 : Int), Q.1.length + 4) := by
  subst hP; subst hQ
  simp only [fmL]; rw [if_neg h]; rfl
set_option maxRecDepth 20000 in
set_option maxHeartbeats 8000000 in
theorem fm_step (n : Nat) (hn : n + 1 ≤ 6) (ih : FmAt n) : FmAt (n + 1) := by
  intro t F v W0 w hv hl
  have hp : 2 ^ (n + 1) = 2 * 2 ^ n := by rw [Nat.pow_succ]; omega
  obtain ⟨a1, a2⟩ := fmL_le n (t &&& (1#64 <<< (2 ^ n) - 1#64)) F
  have h63 : n < 63 := by omega
  have HV := Lib.hid hv
  have HI1 := Lib.hid (ih (t &&& (1#64 <<< (2 ^ n) - 1#64)) F v W0 w hv (by omega))
  have HI2 := Lib.hid (fun v1 w1 (h : NL W0 (fmL n (t &&& (1#64 <<< (2 ^ n) - 1#64)) F).1 v1 w1) => ih (t >>> (2 ^ n)) _ v1 W0 w1 h (by omega))
  obtain ⟨b1, b2⟩ := fmL_le n (t >>> (2 ^ n)) (fmL n (t &&& (1#64 <<< (2 ^ n) - 1#64)) F).1
  have hm : ((n + 1 : Nat) : Int) - 1 = (n : Int) := by omega
  have h0 : (((n + 1 : Nat) : Int) == 0) = false := by simp; omega
  obtain ⟨m, hmm⟩ : ∃ m : Int, m = ((n + 1 : Nat) : Int) := ⟨_, rfl⟩
  rw [← hmm] at hm h0 ⊢
  have hm6 : m ≤ 6 := by omega
  have hm1 : 1 ≤ m := by omega
  obtain ⟨i0, hi1, hz0, hz1, hz2⟩ := info_parts node_info
  cases hq : ((t &&& (1#64 <<< (2 ^ n) - 1#64)) == (t >>> (2 ^ n)))
  · have HJ := Lib.hid (fmL_join (F := F) (n := n) (t := t) (by simpa using hq) rfl rfl)
    obtain ⟨P, hP⟩ : ∃ P, P = fmL n (t &&& (1#64 <<< (2 ^ n) - 1#64)) F := ⟨_, rfl⟩
    rw [← hP] at HI1 HI2 HJ a1 a2 b1 b2
    obtain ⟨Q, hQ⟩ : ∃ Q, Q = fmL n (t >>> (2 ^ n)) P.1 := ⟨_, rfl⟩
    rw [← hQ] at HI2 HJ b1 b2
    rw [HJ.out]
    obtain ⟨P1, x⟩ := P
    obtain ⟨Q1, y⟩ := Q
    dsimp only at *
    have hq1 : Q1.length ≤ 1000 := by omega
    clear hP hQ HJ ih hv hmm hp a1 a2 b1 b2
    go_enter Tryz.func143, Tryz.ntmps143
    go_wp2_with fail
    refine (HI1.out).mono ?_
    rintro _ w1 ⟨v1, rfl, hv1⟩
    dsimp only
    go_wp2_with fail
    refine (HI2.out _ _ hv1).mono ?_
    rintro _ w2 ⟨v2, rfl, hv2⟩
    dsimp only
    obtain ⟨va, vc, hve, -⟩ := RN_of_own hv2.own (by omega)
    subst hve
    have HV2 := Lib.hid hv2
    have HSZ : Hid (∀ W2, Ext w2 W2 → W0.heap.size ≤ W2.heap.size) := fun W2 e => Nat.le_trans hv2.e.size e.size
    clear hv1 hv2
    go_wp2_with (at_builtin; refine wpList_append_lies _ rfl _ _ 29 rfl W0.heap.size 73 i0 _ 6 48 Tryz.underlying29 hi1 hz0 hz1 hz2 rfl (by decide) _ Q1.length _ rfl ((HV2.out.ext' ((Ext.refl w2).alloc _)).own) _ 5 5 (rowN (joinN n (Q1.length : Int) (x : Int) (y : Int))) rfl rfl (cells_new _ _ _ _ rfl) (rowN_one _) (by decide) (by unfold maxLen; omega) (by omega) (HSZ.out _ ((Ext.refl w2).alloc _)) _ rfl ?_; intro gx cap W1 hown hgrow hat hlt2; have hpush := (HV2.out.ext' ((Ext.refl w2).alloc _)).push (M := joinN n (Q1.length : Int) (x : Int) (y : Int)) hown hgrow; have HPU := Lib.hid hpush; clear hpush hown hgrow hat)
    go_ret2
    exact ⟨_, rfl, HPU.out⟩
  · have HS := Lib.hid (fmL_same (F := F) (n := n) (t := t) (by simpa using hq))
    rw [HS.out]
    generalize fmL n (t &&& (1#64 <<< (2 ^ n) - 1#64)) F = P at *
    obtain ⟨P1, x⟩ := P
    dsimp only at *
    clear HS HI2 ih hv hmm hp a1 a2 b1 b2
    go_enter Tryz.func143, Tryz.ntmps143
    go_wp2_with fail
    refine (HI1.out).mono ?_
    rintro _ w1 ⟨v1, rfl, hv1⟩
    dsimp only
    go_wp2_with fail
    go_ret2
    exact ⟨_, rfl, hv1⟩
theorem fm_any : ∀ n, n ≤ 6 → FmAt n
  | 0, _ => fm_leaf
  | n + 1, h => fm_step n h (fm_any n (by omega))
end Wt

namespace Wt
open Go Go.RowKit Go.Maps Go.Proofs Fm

theorem eqFields_gen (d : Nat) (xs ys : Array Value) (va vb : Nat → Int) (w : World) : ∀ fs : List Field, (∀ f ∈ fs, f.type = 3 ∧ f.name ≠ "_" ∧ xs[f.offset]? = some (.int .i64 (va f.offset)) ∧ ys[f.offset]? = some (.int .i64 (vb f.offset))) → (Op.eqFields (d + 1) xs ys fs).run Tryz.prog w = .ok (fs.all fun f => va f.offset == vb f.offset) w
  | [], _ => rfl
  | f :: fs, h => by
    obtain ⟨ht, hn, hv, hu⟩ := h f (by simp)
    have ih := eqFields_gen d xs ys va vb w fs fun g hg => h g (by simp [hg])
    have ha : (isAgg 3).run Tryz.prog w = .ok false w := by kernel_rfl
    have hp : (part 3 xs f.offset).run Tryz.prog w = .ok (.int .i64 (va f.offset)) w := by simp [part, Sem.run_bind, ha, hv]
    have hq : (part 3 ys f.offset).run Tryz.prog w = .ok (.int .i64 (vb f.offset)) w := by simp [part, Sem.run_bind, ha, hu]
    have h0 : (Op.equalIn (d + 1) 3 (.int .i64 (va f.offset)) (.int .i64 (vb f.offset))).run Tryz.prog w = .ok (va f.offset == vb f.offset) w := run_equalIn_int w d 3 .i64 .i64 _ _ (by kernel_rfl)
    unfold Op.eqFields
    rw [if_pos hn, ht]
    cases hb : va f.offset == vb f.offset
    · rw [hb] at h0
      simp [Sem.run_bind, hp, hq, h0, hb]
    · rw [hb] at h0
      simp [Sem.run_bind, hp, hq, h0, ih, hb]
def ndF (n : Nd) : Nat → Int := fun o => if o = 0 then n.op else if o = 1 then n.i else if o = 2 then n.e else if o = 3 then n.g else if o = 4 then n.x else n.y
theorem eql_node (n m : Nd) (w : World) : (binOp .eql 73 (.agg #[.int .i64 n.op, .int .i64 n.i, .int .i64 n.e, .int .i64 n.g, .int .i64 n.x, .int .i64 n.y]) (.agg #[.int .i64 m.op, .int .i64 m.i, .int .i64 m.e, .int .i64 m.g, .int .i64 m.x, .int .i64 m.y])).run Tryz.prog w = .ok (.bool (decide (n = m))) w := by
  rw [run_eql_struct, run_equalIn_agg w 9999 _ _ _ fields_node held_node, eqFields_gen 9998 _ _ (ndF n) (ndF m)]
  · have e : ((Tryz.prog.fieldsOf 73).toList.all fun f => ndF n f.offset == ndF m f.offset) = ((Tryz.prog.fieldsOf 73).toList.map (fun f => (f.name, f.type, f.offset))).all (fun p => ndF n p.2.2 == ndF m p.2.2) := by rw [List.all_map]; rfl
    rw [e, list_node]
    have e2 : decide (n = m) = (n.op == m.op && (n.i == m.i && (n.e == m.e && (n.g == m.g && (n.x == m.x && n.y == m.y))))) := by
      cases n; cases m
      simp only [Nd.mk.injEq, Bool.decide_and]
      rfl
    rw [e2]
    simp [ndF, Result.andThen]
  · intro g hg
    have hm : (g.name, g.type, g.offset) ∈ (Tryz.prog.fieldsOf 73).toList.map (fun f => (f.name, f.type, f.offset)) := List.mem_map.2 ⟨g, hg, rfl⟩
    rw [list_node] at hm
    simp only [List.mem_cons, List.not_mem_nil, or_false, Prod.mk.injEq] at hm
    rcases hm with ⟨h0, h1, h2⟩ | ⟨h0, h1, h2⟩ | ⟨h0, h1, h2⟩ | ⟨h0, h1, h2⟩ | ⟨h0, h1, h2⟩ | ⟨h0, h1, h2⟩
    all_goals exact ⟨h1, by rw [h0]; decide, by rw [h2]; rfl, by rw [h2]; rfl⟩
end Wt
