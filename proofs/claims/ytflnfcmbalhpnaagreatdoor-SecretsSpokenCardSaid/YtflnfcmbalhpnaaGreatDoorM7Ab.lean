/- Walk: wittingref44.Announce (printed by gen_s4e.py). -/
import Derived.Test.YtflnfcmbalhpnaaGreatDoorM4Bm
import Derived.Test.YtflnfcmbalhpnaaGreatDoorM4Az
import Derived.Test.YtflnfcmbalhpnaaGreatDoorM4Aq
import Derived.Test.YtflnfcmbalhpnaaGreatDoorM4Bp
import Derived.Test.YtflnfcmbalhpnaaGreatDoorM6Ab
import Derived.Test.YtflnfcmbalhpnaaGreatDoorM6Ac
import Derived.Test.YtflnfcmbalhpnaaGreatDoorM7Aa
namespace Wt
open Go Go.RowKit Go.Maps Go.Proofs Fm

theorem posI_pos {l : List Nat} {x : Int} (h : 0 ≤ posI l x) : ∃ k, k < l.length ∧ posI l x = (k : Int) ∧ ((nth l k : Nat) : Int) = x ∧ ∀ j, j < k → ((nth l j : Nat) : Int) ≠ x := by
  cases hf : l.findIdx? (fun n : Nat => (n : Int) == x) with
  | none => unfold posI at h; rw [hf] at h; simp at h
  | some k =>
    have e : posI l x = (k : Int) := by unfold posI; rw [hf]
    obtain ⟨hk, h1, h2⟩ := List.findIdx?_eq_some_iff_getElem.1 hf
    refine ⟨k, hk, e, ?_, fun j hj => ?_⟩
    · rw [nth_eq _ _ hk]; simpa using h1
    · rw [nth_eq _ _ (by omega)]; simpa using h2 j hj
theorem allW_and {N : Nat} (hN : N < 64) (S : BitVec 64) : allW N &&& ~~~ S = ~~~ S &&& (1#64 <<< N - 1#64) := by
  unfold allW
  rw [if_neg (by omega), BitVec.and_comm]
theorem r13restrictN_any (M : Mo) (va ra : Option Addr) (vc rc : Nat) (s : BitVec 64) (w : World) (hm : RM w va ra M) :
    Calls Tryz.prog 98 #[.agg #[.int .i64 M.worlds, .slice va M.val.length vc, .slice ra M.rel.length rc], .int .u64 (un s)] w fun e w' => ∃ va ra la vc rc lc, e = .returned (.tuple #[.agg #[.int .i64 (resM M s).worlds, .slice va (resM M s).val.length vc, .slice ra (resM M s).rel.length rc], .slice la (resN M s).length lc, .int .i64 (resErr M s)]) ∧ (∀ w'', Agree w.heap.size w' w'' → RM w'' va ra (resM M s) ∧ RI w'' la (natI (resN M s))) ∧ Ext w w' :=
  (r13Restrict_any M va ra vc rc s w hm).mono fun e w' h => by
    obtain ⟨va, ra, la, vc, rc, lc, h1, h2, h3⟩ := h.r
    rw [resL_N, natI_len] at h1
    exact ⟨va, ra, la, vc, rc, lc, h1, fun w'' ha => by have h := h2 w'' ha; rw [resL_N] at h; exact h, h3⟩
set_option maxRecDepth 20000 in
set_option maxHeartbeats 4000000 in
theorem r44announce_any (N : Nat) (V : List (BitVec 64)) (R : List (List (BitVec 64))) (va ra : Option Addr) (vc rc : Nat) (x : Nat) (fa : Option Addr) (fc : Nat) (f : List Nd) (w : World) (hN : N < 64) (hx : x < 64) (hm : RM w va ra ⟨(N : Int), V, R⟩) (hf : RN w fa f) (hin : 0 ≤ (annW (⟨(N : Int), V, R⟩, (x : Int)) f).2) :
    Calls Tryz.prog 64 #[.agg #[.int .i64 (N : Int), .slice va V.length vc, .slice ra R.length rc], .int .i64 (x : Int), .slice fa f.length fc] w fun e w' => RetX (annW (⟨(N : Int), V, R⟩, (x : Int)) f).1 (.int .i64 (annW (⟨(N : Int), V, R⟩, (x : Int)) f).2) e w w' := by
  have hE0 : Ext w ((w.alloc (.cells #[.int .i64 (N : Int), .slice va V.length vc, .slice ra R.length rc] 25)).alloc (.cells #[.int .i64 0, .slice none 0 0, .slice none 0 0] 25)) := ((Ext.refl w).alloc _).alloc _
  have hbx0 := (MoBox.new w (N : Int) V R va vc ra rc 25).ext ((Ext.refl _).alloc (.cells #[.int .i64 0, .slice none 0 0, .slice none 0 0] 25))
  have hm0 := hm.ext' hE0
  have HHO := Lib.hid (r17Holds_any ⟨(N : Int), V, R⟩ va ra vc rc fa fc f _ hm0 (hf.ext hE0))
  have HRS := Lib.hid (fun s W (h : RM W va ra ⟨(N : Int), V, R⟩) => r13restrictN_any ⟨(N : Int), V, R⟩ va ra vc rc s W h)
  have HAW := Lib.hid (fun s hs => annW_eq ⟨(N : Int), V, R⟩ (x : Int) f s hs (by show (N : Int) < 64; omega))
  have HALL : Hid (∀ w, Calls Tryz.prog 97 #[.int .i64 (N : Int)] w fun e w' => e = .returned (.int .u64 (un (allW N))) ∧ w = w') := Lib.hid fun w => r13All_any N w
  have HN1 : Hid (∀ s, (if resErr ⟨(N : Int), V, R⟩ s = 0 then memL s else []) = resN ⟨(N : Int), V, R⟩ s) := Lib.hid fun s => rfl
  simp only [HN1.out, Int.toNat_natCast] at HAW
  generalize holdsOf ⟨(N : Int), V, R⟩ f = S at *
  generalize reqErr ⟨(N : Int), V, R⟩ f = er at *
  obtain ⟨m0, m1, m2⟩ := hbx0
  dsimp only at m0 m1 m2
  have HR := Lib.hid (OutAt.new1 w (.cells #[.int .i64 (N : Int), .slice va V.length vc, .slice ra R.length rc] 25) (.int .i64 0) (.slice none 0 0) (.slice none 0 0) 25)
  have HSZ : Hid (((w.alloc (.cells #[.int .i64 (N : Int), .slice va V.length vc, .slice ra R.length rc] 25)).alloc (.cells #[.int .i64 0, .slice none 0 0, .slice none 0 0] 25)).heap.size = w.heap.size + 2) := Lib.hid (by simp)
  have HE := Lib.hid hE0
  have HM := Lib.hid hm0
  clear hm hE0 hf hm0
  go_enter Tryz.func64, Tryz.ntmps64
  cases hbt : bt S x
  · have HAW2 := Lib.hid (HAW.out (allW N &&& ~~~ S) (by rw [hbt]; simp only [Bool.false_eq_true, if_false]; exact (allW_and hN _)))
    go_wp2_with fail
    generalize (w.alloc (.cells #[.int .i64 (N : Int), .slice va V.length vc, .slice ra R.length rc] 25)).alloc (.cells #[.int .i64 0, .slice none 0 0, .slice none 0 0] 25) = W0 at *
    refine HHO.out.mono ?_
    rintro _ w1 ⟨rfl, hE1⟩
    have HE1 := Lib.hid hE1
    have q0 := hE1.cell m0
    have q1 := hE1.cell m1
    have q2 := hE1.cell m2
    clear m0 m1 m2 hE1
    dsimp only
    go_wp2_with (first | fail | (go_at_call 97; refine (HALL.out _).mono ?_; rintro _ _ ⟨rfl, rfl⟩))
    refine (HRS.out (allW N &&& ~~~ S) _ (HM.out.ext' HE1.out)).mono ?_
    rintro _ w2 ⟨va2, ra2, la2, vc2, rc2, lc2, rfl, hk2, hE2⟩
    clear q0 q1 q2
    rw [HAW2.out] at hin
    generalize resM ⟨(N : Int), V, R⟩ (allW N &&& ~~~ S) = A at *
    generalize resN ⟨(N : Int), V, R⟩ (allW N &&& ~~~ S) = l at *
    obtain ⟨K, hK, hpos, hat, hno⟩ := posI_pos hin
    have HPO := Lib.hid hpos
    have HK2 := Lib.hid hk2
    have HE2 := Lib.hid (HE.out.trans (HE1.out.trans hE2))
    have HB2 : Hid (w.heap.size + 2 ≤ w1.heap.size) := Lib.hid (by have := HSZ.out; have := HE1.out.size; omega)
    have HRX := Lib.hid (HR.out.ext (HE1.out.trans hE2))
    have HNO := Lib.hid hno
    have hll := natI_len l
    clear hk2 hE2 hpos hin hno
    dsimp only
    go_wp2_with fail
    have HA3 : Hid (Ext w2 (w2.alloc (.cells #[.int .i64 A.worlds, .slice va2 A.val.length vc2, .slice ra2 A.rel.length rc2] 25))) := Lib.hid ((Ext.refl w2).alloc _)
    have HO3 := Lib.hid (OutAt.new w2 (.int .i64 A.worlds) (.slice va2 A.val.length vc2) (.slice ra2 A.rel.length rc2) 25)
    generalize w2.alloc (.cells #[.int .i64 A.worlds, .slice va2 A.val.length vc2, .slice ra2 A.rel.length rc2] 25) = w3 at *
    have HRI := Lib.hid ((HK2.out _ (Agree.ofExt HA3.out)).2)
    go_loopw [13] (fun i wr => ∃ k : Nat, k ≤ K ∧ i = .int .i64 (k : Int) ∧ wr = w3) (fun i _ => K - (intOf i).toNat)
    case atStart => exact ⟨0, Nat.zero_le _, rfl, rfl⟩
    case round =>
      obtain ⟨k, hk, rfl, rfl⟩ := hrel
      have hkl : k < l.length := by omega
      have hlb : l.length ≤ 140737488355328 := by have := HRI.out.len; omega
      obtain ⟨b, off, rfl, hb, hc⟩ := HRI.out.get (k := k) (by omega)
      rw [nth_natI hkl] at hc
      by_cases hlt : k < K
      · have hq : (((nth l k : Nat) : Int) != (x : Int)) = true := by simpa using HNO.out k hlt
        go_wp2_with fail
        go_roundw
        case rel => exact ⟨k + 1, hlt, by go_num, trivial⟩
        case measure => simp [intOf]; omega
      · obtain rfl : k = K := by omega
        have hq : (((nth l k : Nat) : Int) != (x : Int)) = false := by simp [hat]
        obtain ⟨o0, o1, o2, -⟩ := HO3.out
        have ol := HO3.out.lt
        have HRW := Lib.hid (HRX.out.ext HA3.out)
        obtain ⟨r0, r1, r2, rf⟩ := HRW.out
        have f0 := rf 0
        have f1 := rf 1
        have f2 := rf 2
        have rl := HRW.out.lt
        have hwl : (w2.heap.size == w.heap.size + 1) = false := by have := HRX.out.lt; simp; omega
        clear rf
        go_wp2_with fail
        have hst := stored3 HRW.out (HE2.out.trans HA3.out) (by omega) (Nat.lt_of_lt_of_le (Nat.lt_succ_self _) HB2.out) (.int .i64 A.worlds) (.slice va2 A.val.length vc2) (.slice ra2 A.rel.length rc2)
        generalize ((wr.setCell ⟨w.heap.size + 1, 0, none⟩ (.int .i64 A.worlds)).setCell ⟨w.heap.size + 1, 1, none⟩ (.slice va2 A.val.length vc2)).setCell ⟨w.heap.size + 1, 2, none⟩ (.slice ra2 A.rel.length rc2) = W2 at *
        obtain ⟨hEx, ⟨d0, d1, d2, -⟩, hag, hsw⟩ := hst
        refine bodyPost_ret (v := .tuple #[.agg #[.int .i64 A.worlds, .slice va2 A.val.length vc2, .slice ra2 A.rel.length rc2], .int .i64 (k : Int)]) ?_ rfl ?_
        · rw [results_cell_w rfl]
          go_simp
        · rw [HAW2.out]
          refine ⟨va2, ra2, vc2, rc2, by rw [HPO.out], fun w'' ha => (HK2.out w'' ?_).1, hEx⟩
          exact (Agree.ofExt HA3.out).trans (agree_up hag ha (by have := HB2.out; omega) hsw) HA3.out.size
  · have HAW2 := Lib.hid (HAW.out S (by rw [hbt]; rfl))
    go_wp2_with fail
    generalize (w.alloc (.cells #[.int .i64 (N : Int), .slice va V.length vc, .slice ra R.length rc] 25)).alloc (.cells #[.int .i64 0, .slice none 0 0, .slice none 0 0] 25) = W0 at *
    refine HHO.out.mono ?_
    rintro _ w1 ⟨rfl, hE1⟩
    have HE1 := Lib.hid hE1
    have q0 := hE1.cell m0
    have q1 := hE1.cell m1
    have q2 := hE1.cell m2
    clear m0 m1 m2 hE1
    dsimp only
    go_wp2_with (first | fail)
    refine (HRS.out S _ (HM.out.ext' HE1.out)).mono ?_
    rintro _ w2 ⟨va2, ra2, la2, vc2, rc2, lc2, rfl, hk2, hE2⟩
    clear q0 q1 q2
    rw [HAW2.out] at hin
    generalize resM ⟨(N : Int), V, R⟩ S = A at *
    generalize resN ⟨(N : Int), V, R⟩ S = l at *
    obtain ⟨K, hK, hpos, hat, hno⟩ := posI_pos hin
    have HPO := Lib.hid hpos
    have HK2 := Lib.hid hk2
    have HE2 := Lib.hid (HE.out.trans (HE1.out.trans hE2))
    have HB2 : Hid (w.heap.size + 2 ≤ w1.heap.size) := Lib.hid (by have := HSZ.out; have := HE1.out.size; omega)
    have HRX := Lib.hid (HR.out.ext (HE1.out.trans hE2))
    have HNO := Lib.hid hno
    have hll := natI_len l
    clear hk2 hE2 hpos hin hno
    dsimp only
    go_wp2_with fail
    have HA3 : Hid (Ext w2 (w2.alloc (.cells #[.int .i64 A.worlds, .slice va2 A.val.length vc2, .slice ra2 A.rel.length rc2] 25))) := Lib.hid ((Ext.refl w2).alloc _)
    have HO3 := Lib.hid (OutAt.new w2 (.int .i64 A.worlds) (.slice va2 A.val.length vc2) (.slice ra2 A.rel.length rc2) 25)
    generalize w2.alloc (.cells #[.int .i64 A.worlds, .slice va2 A.val.length vc2, .slice ra2 A.rel.length rc2] 25) = w3 at *
    have HRI := Lib.hid ((HK2.out _ (Agree.ofExt HA3.out)).2)
    go_loopw [13] (fun i wr => ∃ k : Nat, k ≤ K ∧ i = .int .i64 (k : Int) ∧ wr = w3) (fun i _ => K - (intOf i).toNat)
    case atStart => exact ⟨0, Nat.zero_le _, rfl, rfl⟩
    case round =>
      obtain ⟨k, hk, rfl, rfl⟩ := hrel
      have hkl : k < l.length := by omega
      have hlb : l.length ≤ 140737488355328 := by have := HRI.out.len; omega
      obtain ⟨b, off, rfl, hb, hc⟩ := HRI.out.get (k := k) (by omega)
      rw [nth_natI hkl] at hc
      by_cases hlt : k < K
      · have hq : (((nth l k : Nat) : Int) != (x : Int)) = true := by simpa using HNO.out k hlt
        go_wp2_with fail
        go_roundw
        case rel => exact ⟨k + 1, hlt, by go_num, trivial⟩
        case measure => simp [intOf]; omega
      · obtain rfl : k = K := by omega
        have hq : (((nth l k : Nat) : Int) != (x : Int)) = false := by simp [hat]
        obtain ⟨o0, o1, o2, -⟩ := HO3.out
        have ol := HO3.out.lt
        have HRW := Lib.hid (HRX.out.ext HA3.out)
        obtain ⟨r0, r1, r2, rf⟩ := HRW.out
        have f0 := rf 0
        have f1 := rf 1
        have f2 := rf 2
        have rl := HRW.out.lt
        have hwl : (w2.heap.size == w.heap.size + 1) = false := by have := HRX.out.lt; simp; omega
        clear rf
        go_wp2_with fail
        have hst := stored3 HRW.out (HE2.out.trans HA3.out) (by omega) (Nat.lt_of_lt_of_le (Nat.lt_succ_self _) HB2.out) (.int .i64 A.worlds) (.slice va2 A.val.length vc2) (.slice ra2 A.rel.length rc2)
        generalize ((wr.setCell ⟨w.heap.size + 1, 0, none⟩ (.int .i64 A.worlds)).setCell ⟨w.heap.size + 1, 1, none⟩ (.slice va2 A.val.length vc2)).setCell ⟨w.heap.size + 1, 2, none⟩ (.slice ra2 A.rel.length rc2) = W2 at *
        obtain ⟨hEx, ⟨d0, d1, d2, -⟩, hag, hsw⟩ := hst
        refine bodyPost_ret (v := .tuple #[.agg #[.int .i64 A.worlds, .slice va2 A.val.length vc2, .slice ra2 A.rel.length rc2], .int .i64 (k : Int)]) ?_ rfl ?_
        · rw [results_cell_w rfl]
          go_simp
        · rw [HAW2.out]
          refine ⟨va2, ra2, vc2, rc2, by rw [HPO.out], fun w'' ha => (HK2.out w'' ?_).1, hEx⟩
          exact (Agree.ofExt HA3.out).trans (agree_up hag ha (by have := HB2.out; omega) hsw) HA3.out.size
end Wt

namespace Wt
open Go Go.RowKit Go.Maps Go.Proofs Fm

def RetGE (p : Mo × Int) (c : Int) (e : Ending) (w w' : World) : Prop := ∃ va ra vc rc, e = .returned (.tuple #[.agg #[.int .i64 p.1.worlds, .slice va p.1.val.length vc, .slice ra p.1.rel.length rc], .int .i64 p.2, .int .i64 c]) ∧ (∀ w'', Agree w.heap.size w' w'' → RM w'' va ra p.1) ∧ Ext w w'
theorem RetG.ge {p : Mo × Int} {e : Ending} {w w' : World} (h : RetG p e w w') : RetGE p 0 e w w' := h
theorem RetGE.zero {w w' : World} {c : Int} (h : Ext w w') : RetGE (⟨0, [], []⟩, 0) c (.returned (.tuple #[.agg #[.int .i64 0, .slice none 0 0, .slice none 0 0], .int .i64 0, .int .i64 c])) w w' :=
  ⟨none, none, 0, 0, rfl, fun _ _ => ⟨RU.nil _ _, RR.nil _ _⟩, h⟩
def RetPN (e : Ending) (w w' : World) : Prop := e = .returned (.tuple #[.agg #[.int .i64 0, .slice none 0 0, .slice none 0 0, .int .i64 0], .bool false]) ∧ Ext w w'
theorem stored4a {w w5 : World} {b : Nat} {x0 y0 z0 t0 : Value} (HO : PAt w5 b x0 y0 z0 t0) (hE : Ext w w5) (hb : w.heap.size ≤ b) (x y z t : Value) (o : Obj) : Ext w (((((w5.setCell ⟨b, 0, none⟩ x).setCell ⟨b, 1, none⟩ y).setCell ⟨b, 2, none⟩ z).setCell ⟨b, 3, none⟩ t).alloc o) ∧ PAt (((((w5.setCell ⟨b, 0, none⟩ x).setCell ⟨b, 1, none⟩ y).setCell ⟨b, 2, none⟩ z).setCell ⟨b, 3, none⟩ t).alloc o) b x y z t :=
  ⟨(hE.set4 hb x y z t).alloc o, (HO.set4 x y z t).ext ((Ext.refl _).alloc o)⟩
set_option maxRecDepth 20000 in
set_option maxHeartbeats 4000000 in
theorem countedNoA (n v : Int) (hb : btw n 2 4 = false) (w : World) :
    Calls Tryz.prog 70 #[.int .i64 n, .int .i64 v] w fun e w' => RetPN e w w' := by
  have hE0 : Ext w (w.alloc (.cells #[.int .i64 0, .slice none 0 0, .slice none 0 0, .int .i64 0] 76)) := (Ext.refl w).alloc _
  have HP0 := Lib.hid (PAt.new w (.int .i64 0) (.slice none 0 0) (.slice none 0 0) (.int .i64 0) 76)
  have HV := Lib.hid (votesNo_any n hb)
  have HE0 := Lib.hid hE0
  clear hE0
  go_enter Tryz.func70, Tryz.ntmps70
  go_wp2_with fail
  generalize w.alloc (.cells #[.int .i64 0, .slice none 0 0, .slice none 0 0, .int .i64 0] 76) = W0 at *
  refine (HV.out _).mono ?_
  rintro _ w1 ⟨va, ra, vc, rc, rfl, hk1, hE1⟩
  have HE1 := Lib.hid hE1
  have HP1 := Lib.hid (HP0.out.ext hE1)
  obtain ⟨r0, r1, r2, r3, rf⟩ := HP1.out
  have f0 := rf 0
  have f1 := rf 1
  have f2 := rf 2
  have f3 := rf 3
  have rl := HP1.out.lt
  clear hk1 hE1 rf
  dsimp only
  go_wp2_with (first | (go_at_call 48; refine (between_any _ _ _ _).mono ?_; rintro _ _ ⟨rfl, rfl⟩) | fail)
  have hst := stored4a HP1.out (HE0.out.trans HE1.out) (Nat.le_refl _) (.int .i64 0) (.slice none 0 0) (.slice none 0 0) (.int .i64 0) (.cells #[.int .i64 0, .slice va 0 vc, .slice ra 0 rc] 25)
  generalize ((((w1.setCell ⟨w.heap.size, 0, none⟩ (.int .i64 0)).setCell ⟨w.heap.size, 1, none⟩ (.slice none 0 0)).setCell ⟨w.heap.size, 2, none⟩ (.slice none 0 0)).setCell ⟨w.heap.size, 3, none⟩ (.int .i64 0)).alloc (.cells #[.int .i64 0, .slice va 0 vc, .slice ra 0 rc] 25) = W2 at *
  obtain ⟨hEx, d0, d1, d2, d3, -⟩ := hst
  refine bodyPost_ret (v := .tuple #[.agg #[.int .i64 0, .slice none 0 0, .slice none 0 0, .int .i64 0], .bool false]) ?_ rfl ?_
  · rw [results_cell_w rfl]
    go_simp
  · exact ⟨rfl, hEx⟩
set_option maxRecDepth 20000 in
set_option maxHeartbeats 4000000 in
theorem countedNoB (n : Nat) (v : Int) (hn : 2 ≤ n ∧ n ≤ 4) (hb : btw v 0 (p2 n - 1) = false) (w : World) :
    Calls Tryz.prog 70 #[.int .i64 (n : Int), .int .i64 v] w fun e w' => RetPN e w w' := by
  have hE0 : Ext w (w.alloc (.cells #[.int .i64 0, .slice none 0 0, .slice none 0 0, .int .i64 0] 76)) := (Ext.refl w).alloc _
  have HP0 := Lib.hid (PAt.new w (.int .i64 0) (.slice none 0 0) (.slice none 0 0) (.int .i64 0) 76)
  have h63 : n < 63 := by omega
  obtain ⟨hq1, hq2⟩ := pw_int hn.2
  have HV := Lib.hid (votes_any n hn)
  generalize votesM n = A at *
  have HE0 := Lib.hid hE0
  clear hE0
  go_enter Tryz.func70, Tryz.ntmps70
  go_wp2_with fail
  generalize w.alloc (.cells #[.int .i64 0, .slice none 0 0, .slice none 0 0, .int .i64 0] 76) = W0 at *
  refine (HV.out _).mono ?_
  rintro _ w1 ⟨va, ra, vc, rc, rfl, hk1, hE1⟩
  have HE1 := Lib.hid hE1
  have HP1 := Lib.hid (HP0.out.ext hE1)
  obtain ⟨r0, r1, r2, r3, rf⟩ := HP1.out
  have f0 := rf 0
  have f1 := rf 1
  have f2 := rf 2
  have f3 := rf 3
  have rl := HP1.out.lt
  clear hk1 hE1 rf
  dsimp only
  go_wp2_with (first | (go_at_call 48; refine (between_any _ _ _ _).mono ?_; rintro _ _ ⟨rfl, rfl⟩) | fail)
  have hst := stored4a HP1.out (HE0.out.trans HE1.out) (Nat.le_refl _) (.int .i64 0) (.slice none 0 0) (.slice none 0 0) (.int .i64 0) (.cells #[.int .i64 A.worlds, .slice va A.val.length vc, .slice ra A.rel.length rc] 25)
  generalize ((((w1.setCell ⟨w.heap.size, 0, none⟩ (.int .i64 0)).setCell ⟨w.heap.size, 1, none⟩ (.slice none 0 0)).setCell ⟨w.heap.size, 2, none⟩ (.slice none 0 0)).setCell ⟨w.heap.size, 3, none⟩ (.int .i64 0)).alloc (.cells #[.int .i64 A.worlds, .slice va A.val.length vc, .slice ra A.rel.length rc] 25) = W2 at *
  obtain ⟨hEx, d0, d1, d2, d3, -⟩ := hst
  refine bodyPost_ret (v := .tuple #[.agg #[.int .i64 0, .slice none 0 0, .slice none 0 0, .int .i64 0], .bool false]) ?_ rfl ?_
  · rw [results_cell_w rfl]
    go_simp
  · exact ⟨rfl, hEx⟩
set_option maxRecDepth 20000 in
set_option maxHeartbeats 4000000 in
theorem decidedNoA (n v q : Int) (hb : btw n 2 4 = false) (w : World) :
    Calls Tryz.prog 69 #[.int .i64 n, .int .i64 v, .int .i64 q] w fun e w' => RetPN e w w' := by
  have hE0 : Ext w (w.alloc (.cells #[.int .i64 0, .slice none 0 0, .slice none 0 0, .int .i64 0] 76)) := (Ext.refl w).alloc _
  have HP0 := Lib.hid (PAt.new w (.int .i64 0) (.slice none 0 0) (.slice none 0 0) (.int .i64 0) 76)
  have HV := Lib.hid (votesNo_any n hb)
  have HE0 := Lib.hid hE0
  clear hE0
  go_enter Tryz.func69, Tryz.ntmps69
  go_wp2_with fail
  generalize w.alloc (.cells #[.int .i64 0, .slice none 0 0, .slice none 0 0, .int .i64 0] 76) = W0 at *
  refine (HV.out _).mono ?_
  rintro _ w1 ⟨va, ra, vc, rc, rfl, hk1, hE1⟩
  have HE1 := Lib.hid hE1
  have HP1 := Lib.hid (HP0.out.ext hE1)
  obtain ⟨r0, r1, r2, r3, rf⟩ := HP1.out
  have f0 := rf 0
  have f1 := rf 1
  have f2 := rf 2
  have f3 := rf 3
  have rl := HP1.out.lt
  clear hk1 hE1 rf
  dsimp only
  go_wp2_with (first | (go_at_call 48; refine (between_any _ _ _ _).mono ?_; rintro _ _ ⟨rfl, rfl⟩) | fail)
  have hst := stored4a HP1.out (HE0.out.trans HE1.out) (Nat.le_refl _) (.int .i64 0) (.slice none 0 0) (.slice none 0 0) (.int .i64 0) (.cells #[.int .i64 0, .slice va 0 vc, .slice ra 0 rc] 25)
  generalize ((((w1.setCell ⟨w.heap.size, 0, none⟩ (.int .i64 0)).setCell ⟨w.heap.size, 1, none⟩ (.slice none 0 0)).setCell ⟨w.heap.size, 2, none⟩ (.slice none 0 0)).setCell ⟨w.heap.size, 3, none⟩ (.int .i64 0)).alloc (.cells #[.int .i64 0, .slice va 0 vc, .slice ra 0 rc] 25) = W2 at *
  obtain ⟨hEx, d0, d1, d2, d3, -⟩ := hst
  refine bodyPost_ret (v := .tuple #[.agg #[.int .i64 0, .slice none 0 0, .slice none 0 0, .int .i64 0], .bool false]) ?_ rfl ?_
  · rw [results_cell_w rfl]
    go_simp
  · exact ⟨rfl, hEx⟩
set_option maxRecDepth 20000 in
set_option maxHeartbeats 4000000 in
theorem decidedNoB (n : Nat) (v q : Int) (hn : 2 ≤ n ∧ n ≤ 4) (hb : btw v 0 (p2 n - 1) = false) (w : World) :
    Calls Tryz.prog 69 #[.int .i64 (n : Int), .int .i64 v, .int .i64 q] w fun e w' => RetPN e w w' := by
  have hE0 : Ext w (w.alloc (.cells #[.int .i64 0, .slice none 0 0, .slice none 0 0, .int .i64 0] 76)) := (Ext.refl w).alloc _
  have HP0 := Lib.hid (PAt.new w (.int .i64 0) (.slice none 0 0) (.slice none 0 0) (.int .i64 0) 76)
  have h63 : n < 63 := by omega
  obtain ⟨hq1, hq2⟩ := pw_int hn.2
  have HV := Lib.hid (votes_any n hn)
  generalize votesM n = A at *
  have HE0 := Lib.hid hE0
  clear hE0
  go_enter Tryz.func69, Tryz.ntmps69
  go_wp2_with fail
  generalize w.alloc (.cells #[.int .i64 0, .slice none 0 0, .slice none 0 0, .int .i64 0] 76) = W0 at *
  refine (HV.out _).mono ?_
  rintro _ w1 ⟨va, ra, vc, rc, rfl, hk1, hE1⟩
  have HE1 := Lib.hid hE1
  have HP1 := Lib.hid (HP0.out.ext hE1)
  obtain ⟨r0, r1, r2, r3, rf⟩ := HP1.out
  have f0 := rf 0
  have f1 := rf 1
  have f2 := rf 2
  have f3 := rf 3
  have rl := HP1.out.lt
  clear hk1 hE1 rf
  dsimp only
  go_wp2_with (first | (go_at_call 48; refine (between_any _ _ _ _).mono ?_; rintro _ _ ⟨rfl, rfl⟩) | fail)
  have hst := stored4a HP1.out (HE0.out.trans HE1.out) (Nat.le_refl _) (.int .i64 0) (.slice none 0 0) (.slice none 0 0) (.int .i64 0) (.cells #[.int .i64 A.worlds, .slice va A.val.length vc, .slice ra A.rel.length rc] 25)
  generalize ((((w1.setCell ⟨w.heap.size, 0, none⟩ (.int .i64 0)).setCell ⟨w.heap.size, 1, none⟩ (.slice none 0 0)).setCell ⟨w.heap.size, 2, none⟩ (.slice none 0 0)).setCell ⟨w.heap.size, 3, none⟩ (.int .i64 0)).alloc (.cells #[.int .i64 A.worlds, .slice va A.val.length vc, .slice ra A.rel.length rc] 25) = W2 at *
  obtain ⟨hEx, d0, d1, d2, d3, -⟩ := hst
  refine bodyPost_ret (v := .tuple #[.agg #[.int .i64 0, .slice none 0 0, .slice none 0 0, .int .i64 0], .bool false]) ?_ rfl ?_
  · rw [results_cell_w rfl]
    go_simp
  · exact ⟨rfl, hEx⟩
set_option maxRecDepth 20000 in
set_option maxHeartbeats 4000000 in
theorem decidedNoC (n : Nat) (v q : Int) (hn : 2 ≤ n ∧ n ≤ 4) (hb1 : btw v 0 (p2 n - 1) = true) (hb : btw q 0 (n : Int) = false) (w : World) :
    Calls Tryz.prog 69 #[.int .i64 (n : Int), .int .i64 v, .int .i64 q] w fun e w' => RetPN e w w' := by
  have hE0 : Ext w (w.alloc (.cells #[.int .i64 0, .slice none 0 0, .slice none 0 0, .int .i64 0] 76)) := (Ext.refl w).alloc _
  have HP0 := Lib.hid (PAt.new w (.int .i64 0) (.slice none 0 0) (.slice none 0 0) (.int .i64 0) 76)
  have h63 : n < 63 := by omega
  obtain ⟨hq1, hq2⟩ := pw_int hn.2
  have HV := Lib.hid (votes_any n hn)
  generalize votesM n = A at *
  have HE0 := Lib.hid hE0
  clear hE0
  go_enter Tryz.func69, Tryz.ntmps69
  go_wp2_with fail
  generalize w.alloc (.cells #[.int .i64 0, .slice none 0 0, .slice none 0 0, .int .i64 0] 76) = W0 at *
  refine (HV.out _).mono ?_
  rintro _ w1 ⟨va, ra, vc, rc, rfl, hk1, hE1⟩
  have HE1 := Lib.hid hE1
  have HP1 := Lib.hid (HP0.out.ext hE1)
  obtain ⟨r0, r1, r2, r3, rf⟩ := HP1.out
  have f0 := rf 0
  have f1 := rf 1
  have f2 := rf 2
  have f3 := rf 3
  have rl := HP1.out.lt
  clear hk1 hE1 rf
  dsimp only
  go_wp2_with (first | (go_at_call 48; refine (between_any _ _ _ _).mono ?_; rintro _ _ ⟨rfl, rfl⟩) | fail)
  have hst := stored4a HP1.out (HE0.out.trans HE1.out) (Nat.le_refl _) (.int .i64 0) (.slice none 0 0) (.slice none 0 0) (.int .i64 0) (.cells #[.int .i64 A.worlds, .slice va A.val.length vc, .slice ra A.rel.length rc] 25)
  generalize ((((w1.setCell ⟨w.heap.size, 0, none⟩ (.int .i64 0)).setCell ⟨w.heap.size, 1, none⟩ (.slice none 0 0)).setCell ⟨w.heap.size, 2, none⟩ (.slice none 0 0)).setCell ⟨w.heap.size, 3, none⟩ (.int .i64 0)).alloc (.cells #[.int .i64 A.worlds, .slice va A.val.length vc, .slice ra A.rel.length rc] 25) = W2 at *
  obtain ⟨hEx, d0, d1, d2, d3, -⟩ := hst
  refine bodyPost_ret (v := .tuple #[.agg #[.int .i64 0, .slice none 0 0, .slice none 0 0, .int .i64 0], .bool false]) ?_ rfl ?_
  · rw [results_cell_w rfl]
    go_simp
  · exact ⟨rfl, hEx⟩
set_option maxRecDepth 20000 in
set_option maxHeartbeats 4000000 in
theorem spokenNoA (n p c : Int) (hb : btw n 2 3 = false) (w : World) :
    Calls Tryz.prog 63 #[.int .i64 n, .int .i64 p, .int .i64 c] w fun e w' => RetPN e w w' := by
  have hE0 : Ext w (w.alloc (.cells #[.int .i64 0, .slice none 0 0, .slice none 0 0, .int .i64 0] 76)) := (Ext.refl w).alloc _
  have HP0 := Lib.hid (PAt.new w (.int .i64 0) (.slice none 0 0) (.slice none 0 0) (.int .i64 0) 76)
  have HV := Lib.hid (diningNo_any n hb)
  have HE0 := Lib.hid hE0
  clear hE0
  go_enter Tryz.func63, Tryz.ntmps63
  go_wp2_with fail
  generalize w.alloc (.cells #[.int .i64 0, .slice none 0 0, .slice none 0 0, .int .i64 0] 76) = W0 at *
  refine (HV.out _).mono ?_
  rintro _ w1 ⟨va, ra, la, vc, rc, lc, rfl, hk1, hE1⟩
  have HE1 := Lib.hid hE1
  have HP1 := Lib.hid (HP0.out.ext hE1)
  obtain ⟨r0, r1, r2, r3, rf⟩ := HP1.out
  have f0 := rf 0
  have f1 := rf 1
  have f2 := rf 2
  have f3 := rf 3
  have rl := HP1.out.lt
  clear hk1 hE1 rf
  dsimp only
  go_wp2_with (first | (go_at_call 48; refine (between_any _ _ _ _).mono ?_; rintro _ _ ⟨rfl, rfl⟩) | fail)
  have hst := stored4a HP1.out (HE0.out.trans HE1.out) (Nat.le_refl _) (.int .i64 0) (.slice none 0 0) (.slice none 0 0) (.int .i64 0) (.cells #[.int .i64 0, .slice va 0 vc, .slice ra 0 rc] 25)
  generalize ((((w1.setCell ⟨w.heap.size, 0, none⟩ (.int .i64 0)).setCell ⟨w.heap.size, 1, none⟩ (.slice none 0 0)).setCell ⟨w.heap.size, 2, none⟩ (.slice none 0 0)).setCell ⟨w.heap.size, 3, none⟩ (.int .i64 0)).alloc (.cells #[.int .i64 0, .slice va 0 vc, .slice ra 0 rc] 25) = W2 at *
  obtain ⟨hEx, d0, d1, d2, d3, -⟩ := hst
  refine bodyPost_ret (v := .tuple #[.agg #[.int .i64 0, .slice none 0 0, .slice none 0 0, .int .i64 0], .bool false]) ?_ rfl ?_
  · rw [results_cell_w rfl]
    go_simp
  · exact ⟨rfl, hEx⟩
set_option maxRecDepth 20000 in
set_option maxHeartbeats 4000000 in
theorem spokenNoB (n : Nat) (p c : Int) (hn : 2 ≤ n ∧ n ≤ 3) (hb : btw p (-1) ((n : Int) - 1) = false) (w : World) :
    Calls Tryz.prog 63 #[.int .i64 (n : Int), .int .i64 p, .int .i64 c] w fun e w' => RetPN e w w' := by
  have hE0 : Ext w (w.alloc (.cells #[.int .i64 0, .slice none 0 0, .slice none 0 0, .int .i64 0] 76)) := (Ext.refl w).alloc _
  have HP0 := Lib.hid (PAt.new w (.int .i64 0) (.slice none 0 0) (.slice none 0 0) (.int .i64 0) 76)
  have h63 : n < 63 := by omega
  obtain ⟨hq1, hq2⟩ := pw_int (show n ≤ 4 by omega)
  have HV := Lib.hid (dining_any n hn (din_ok hn))
  generalize dinM n = A at *
  generalize natI (dinS n) = L at *
  have HE0 := Lib.hid hE0
  clear hE0
  go_enter Tryz.func63, Tryz.ntmps63
  go_wp2_with fail
  generalize w.alloc (.cells #[.int .i64 0, .slice none 0 0, .slice none 0 0, .int .i64 0] 76) = W0 at *
  refine (HV.out _).mono ?_
  rintro _ w1 ⟨va, ra, la, vc, rc, lc, rfl, hk1, hE1⟩
  have HE1 := Lib.hid hE1
  have HP1 := Lib.hid (HP0.out.ext hE1)
  obtain ⟨r0, r1, r2, r3, rf⟩ := HP1.out
  have f0 := rf 0
  have f1 := rf 1
  have f2 := rf 2
  have f3 := rf 3
  have rl := HP1.out.lt
  clear hk1 hE1 rf
  dsimp only
  go_wp2_with (first | (go_at_call 48; refine (between_any _ _ _ _).mono ?_; rintro _ _ ⟨rfl, rfl⟩) | fail)
  have hst := stored4a HP1.out (HE0.out.trans HE1.out) (Nat.le_refl _) (.int .i64 0) (.slice none 0 0) (.slice none 0 0) (.int .i64 0) (.cells #[.int .i64 A.worlds, .slice va A.val.length vc, .slice ra A.rel.length rc] 25)
  generalize ((((w1.setCell ⟨w.heap.size, 0, none⟩ (.int .i64 0)).setCell ⟨w.heap.size, 1, none⟩ (.slice none 0 0)).setCell ⟨w.heap.size, 2, none⟩ (.slice none 0 0)).setCell ⟨w.heap.size, 3, none⟩ (.int .i64 0)).alloc (.cells #[.int .i64 A.worlds, .slice va A.val.length vc, .slice ra A.rel.length rc] 25) = W2 at *
  obtain ⟨hEx, d0, d1, d2, d3, -⟩ := hst
  refine bodyPost_ret (v := .tuple #[.agg #[.int .i64 0, .slice none 0 0, .slice none 0 0, .int .i64 0], .bool false]) ?_ rfl ?_
  · rw [results_cell_w rfl]
    go_simp
  · exact ⟨rfl, hEx⟩
set_option maxRecDepth 20000 in
set_option maxHeartbeats 4000000 in
theorem spokenNoC (n : Nat) (p c : Int) (hn : 2 ≤ n ∧ n ≤ 3) (hb1 : btw p (-1) ((n : Int) - 1) = true) (hb : btw c 0 (p2 n - 1) = false) (w : World) :
    Calls Tryz.prog 63 #[.int .i64 (n : Int), .int .i64 p, .int .i64 c] w fun e w' => RetPN e w w' := by
  have hE0 : Ext w (w.alloc (.cells #[.int .i64 0, .slice none 0 0, .slice none 0 0, .int .i64 0] 76)) := (Ext.refl w).alloc _
  have HP0 := Lib.hid (PAt.new w (.int .i64 0) (.slice none 0 0) (.slice none 0 0) (.int .i64 0) 76)
  have h63 : n < 63 := by omega
  obtain ⟨hq1, hq2⟩ := pw_int (show n ≤ 4 by omega)
  have HV := Lib.hid (dining_any n hn (din_ok hn))
  generalize dinM n = A at *
  generalize natI (dinS n) = L at *
  have HE0 := Lib.hid hE0
  clear hE0
  go_enter Tryz.func63, Tryz.ntmps63
  go_wp2_with fail
  generalize w.alloc (.cells #[.int .i64 0, .slice none 0 0, .slice none 0 0, .int .i64 0] 76) = W0 at *
  refine (HV.out _).mono ?_
  rintro _ w1 ⟨va, ra, la, vc, rc, lc, rfl, hk1, hE1⟩
  have HE1 := Lib.hid hE1
  have HP1 := Lib.hid (HP0.out.ext hE1)
  obtain ⟨r0, r1, r2, r3, rf⟩ := HP1.out
  have f0 := rf 0
  have f1 := rf 1
  have f2 := rf 2
  have f3 := rf 3
  have rl := HP1.out.lt
  clear hk1 hE1 rf
  dsimp only
  go_wp2_with (first | (go_at_call 48; refine (between_any _ _ _ _).mono ?_; rintro _ _ ⟨rfl, rfl⟩) | fail)
  have hst := stored4a HP1.out (HE0.out.trans HE1.out) (Nat.le_refl _) (.int .i64 0) (.slice none 0 0) (.slice none 0 0) (.int .i64 0) (.cells #[.int .i64 A.worlds, .slice va A.val.length vc, .slice ra A.rel.length rc] 25)
  generalize ((((w1.setCell ⟨w.heap.size, 0, none⟩ (.int .i64 0)).setCell ⟨w.heap.size, 1, none⟩ (.slice none 0 0)).setCell ⟨w.heap.size, 2, none⟩ (.slice none 0 0)).setCell ⟨w.heap.size, 3, none⟩ (.int .i64 0)).alloc (.cells #[.int .i64 A.worlds, .slice va A.val.length vc, .slice ra A.rel.length rc] 25) = W2 at *
  obtain ⟨hEx, d0, d1, d2, d3, -⟩ := hst
  refine bodyPost_ret (v := .tuple #[.agg #[.int .i64 0, .slice none 0 0, .slice none 0 0, .int .i64 0], .bool false]) ?_ rfl ?_
  · rw [results_cell_w rfl]
    go_simp
  · exact ⟨rfl, hEx⟩
set_option maxRecDepth 20000 in
set_option maxHeartbeats 2000000 in
theorem giveNo_any (w : World) :
    Calls Tryz.prog 62 #[.agg #[.int .i64 0, .slice none 0 0, .slice none 0 0, .int .i64 0], .bool false] w fun e w' => e = .returned (.tuple #[.agg #[.int .i64 0, .slice none 0 0, .slice none 0 0], .int .i64 0, .int .i64 2]) ∧ Ext w w' := by
  have hE0 : Ext w ((w.alloc (.cells #[.int .i64 0, .slice none 0 0, .slice none 0 0, .int .i64 0] 76)).alloc (.cells #[.int .i64 0, .slice none 0 0, .slice none 0 0] 25)) := ((Ext.refl w).alloc _).alloc _
  have hO0 := OutAt.new1 w (.cells #[.int .i64 0, .slice none 0 0, .slice none 0 0, .int .i64 0] 76) (.int .i64 0) (.slice none 0 0) (.slice none 0 0) 25
  have HE0 := Lib.hid hE0
  have HO0 := Lib.hid hO0
  clear hE0 hO0
  go_enter Tryz.func62, Tryz.ntmps62
  go_wp2_with fail
  obtain ⟨d0, d1, d2, -⟩ := HO0.out
  refine bodyPost_ret (v := .tuple #[.agg #[.int .i64 0, .slice none 0 0, .slice none 0 0], .int .i64 0, .int .i64 2]) ?_ rfl ?_
  · rw [results_cell_two rfl]
    go_simp
  · exact ⟨rfl, HE0.out⟩
set_option maxHeartbeats 2000000 in
theorem askNoA (W x : Int) (va ra : Option Addr) (vl rl vc rc : Nat) (n g i : Int) (w : World) :
    Calls Tryz.prog 65 #[.agg #[.int .i64 W, .slice va vl vc, .slice ra rl rc, .int .i64 x], .bool false, .int .i64 n, .int .i64 g, .int .i64 i] w fun e w' => RetP (.bool false) 2 e w w' := by
  have hE0 : Ext w (w.alloc (.cells #[.int .i64 W, .slice va vl vc, .slice ra rl rc, .int .i64 x] 76)) := (Ext.refl w).alloc _
  go_enter Tryz.func65, Tryz.ntmps65
  go_wp2_with (first | (go_at_call 48; refine (between_any _ _ _ _).mono ?_; rintro _ _ ⟨rfl, rfl⟩) | fail)
  go_ret2
  exact ⟨rfl, hE0⟩
def gBad (n : Nat) (g i : Int) : Prop := btw g 1 (p2 n - 1) = false ∨ (btw g 1 (p2 n - 1) = true ∧ btw i 0 ((n : Int) - 1) = false)
set_option maxHeartbeats 2000000 in
theorem askNoB (W x : Int) (va ra : Option Addr) (vl rl vc rc : Nat) (n : Nat) (g i : Int) (hn : 2 ≤ n ∧ n ≤ 4) (hb : gBad n g i) (w : World) :
    Calls Tryz.prog 65 #[.agg #[.int .i64 W, .slice va vl vc, .slice ra rl rc, .int .i64 x], .bool true, .int .i64 (n : Int), .int .i64 g, .int .i64 i] w fun e w' => RetP (.bool false) 2 e w w' := by
  have hE0 : Ext w (w.alloc (.cells #[.int .i64 W, .slice va vl vc, .slice ra rl rc, .int .i64 x] 76)) := (Ext.refl w).alloc _
  have h63 : n < 63 := by omega
  obtain ⟨hq1, hq2⟩ := pw_int hn.2
  rcases hb with hb1 | ⟨hb1, hb2⟩
  all_goals
    go_enter Tryz.func65, Tryz.ntmps65
    go_wp2_with (first | (go_at_call 48; refine (between_any _ _ _ _).mono ?_; rintro _ _ ⟨rfl, rfl⟩) | fail)
    go_ret2
    exact ⟨rfl, hE0⟩
set_option maxRecDepth 20000 in
set_option maxHeartbeats 4000000 in
theorem CountedNo_any (n v : Int) (hc : ∀ w, Calls Tryz.prog 70 #[.int .i64 n, .int .i64 v] w fun e w' => RetPN e w w') (w : World) :
    Calls Tryz.prog 26 #[.int .i64 n, .int .i64 v] w fun e w' => RetGE (⟨0, [], []⟩, 0) 2 e w w' := by
  have hE0 : Ext w (w.alloc (.cells #[.int .i64 0, .slice none 0 0, .slice none 0 0] 25)) := (Ext.refl w).alloc _
  have HO0 := Lib.hid (OutAt.new w (.int .i64 0) (.slice none 0 0) (.slice none 0 0) 25)
  have HC := Lib.hid hc
  have HE0 := Lib.hid hE0
  have HL0 := Lib.hid HO0.out.lt
  clear hE0 hc
  go_enter Tryz.func26, Tryz.ntmps26
  go_wp2_with fail
  refine (HC.out _).mono ?_
  rintro _ w1 ⟨rfl, hE1⟩
  have HE1 := Lib.hid hE1
  clear hE1
  dsimp only
  go_wp2_with fail
  refine (giveNo_any _).mono ?_
  rintro _ w2 ⟨rfl, hE2⟩
  have HE2 := Lib.hid hE2
  have HO2 := Lib.hid (HO0.out.ext (HE1.out.trans hE2))
  obtain ⟨r0, r1, r2, rf⟩ := HO2.out
  have f0 := rf 0
  have f1 := rf 1
  have f2 := rf 2
  have rl := HO2.out.lt
  clear rf hE2
  dsimp only
  go_wp2_with fail
  have hst := stored3 HO2.out (HE0.out.trans (HE1.out.trans HE2.out)) (Nat.le_refl _) HL0.out (.int .i64 0) (.slice none 0 0) (.slice none 0 0)
  generalize ((w2.setCell ⟨w.heap.size, 0, none⟩ (.int .i64 0)).setCell ⟨w.heap.size, 1, none⟩ (.slice none 0 0)).setCell ⟨w.heap.size, 2, none⟩ (.slice none 0 0) = W2 at *
  obtain ⟨hEx, ⟨d0, d1, d2, -⟩, hag, hsw⟩ := hst
  refine bodyPost_ret (v := .tuple #[.agg #[.int .i64 0, .slice none 0 0, .slice none 0 0], .int .i64 0, .int .i64 2]) ?_ rfl ?_
  · rw [results_cell_two rfl]
    go_simp
  · exact RetGE.zero hEx
set_option maxRecDepth 20000 in
set_option maxHeartbeats 4000000 in
theorem DecidedNo_any (n v q : Int) (hc : ∀ w, Calls Tryz.prog 69 #[.int .i64 n, .int .i64 v, .int .i64 q] w fun e w' => RetPN e w w') (w : World) :
    Calls Tryz.prog 28 #[.int .i64 n, .int .i64 v, .int .i64 q] w fun e w' => RetGE (⟨0, [], []⟩, 0) 2 e w w' := by
  have hE0 : Ext w (w.alloc (.cells #[.int .i64 0, .slice none 0 0, .slice none 0 0] 25)) := (Ext.refl w).alloc _
  have HO0 := Lib.hid (OutAt.new w (.int .i64 0) (.slice none 0 0) (.slice none 0 0) 25)
  have HC := Lib.hid hc
  have HE0 := Lib.hid hE0
  have HL0 := Lib.hid HO0.out.lt
  clear hE0 hc
  go_enter Tryz.func28, Tryz.ntmps28
  go_wp2_with fail
  refine (HC.out _).mono ?_
  rintro _ w1 ⟨rfl, hE1⟩
  have HE1 := Lib.hid hE1
  clear hE1
  dsimp only
  go_wp2_with fail
  refine (giveNo_any _).mono ?_
  rintro _ w2 ⟨rfl, hE2⟩
  have HE2 := Lib.hid hE2
  have HO2 := Lib.hid (HO0.out.ext (HE1.out.trans hE2))
  obtain ⟨r0, r1, r2, rf⟩ := HO2.out
  have f0 := rf 0
  have f1 := rf 1
  have f2 := rf 2
  have rl := HO2.out.lt
  clear rf hE2
  dsimp only
  go_wp2_with fail
  have hst := stored3 HO2.out (HE0.out.trans (HE1.out.trans HE2.out)) (Nat.le_refl _) HL0.out (.int .i64 0) (.slice none 0 0) (.slice none 0 0)
  generalize ((w2.setCell ⟨w.heap.size, 0, none⟩ (.int .i64 0)).setCell ⟨w.heap.size, 1, none⟩ (.slice none 0 0)).setCell ⟨w.heap.size, 2, none⟩ (.slice none 0 0) = W2 at *
  obtain ⟨hEx, ⟨d0, d1, d2, -⟩, hag, hsw⟩ := hst
  refine bodyPost_ret (v := .tuple #[.agg #[.int .i64 0, .slice none 0 0, .slice none 0 0], .int .i64 0, .int .i64 2]) ?_ rfl ?_
  · rw [results_cell_two rfl]
    go_simp
  · exact RetGE.zero hEx
set_option maxRecDepth 20000 in
set_option maxHeartbeats 4000000 in
theorem SpokenNo_any (n v q : Int) (hc : ∀ w, Calls Tryz.prog 63 #[.int .i64 n, .int .i64 v, .int .i64 q] w fun e w' => RetPN e w w') (w : World) :
    Calls Tryz.prog 20 #[.int .i64 n, .int .i64 v, .int .i64 q] w fun e w' => RetGE (⟨0, [], []⟩, 0) 2 e w w' := by
  have hE0 : Ext w (w.alloc (.cells #[.int .i64 0, .slice none 0 0, .slice none 0 0] 25)) := (Ext.refl w).alloc _
  have HO0 := Lib.hid (OutAt.new w (.int .i64 0) (.slice none 0 0) (.slice none 0 0) 25)
  have HC := Lib.hid hc
  have HE0 := Lib.hid hE0
  have HL0 := Lib.hid HO0.out.lt
  clear hE0 hc
  go_enter Tryz.func20, Tryz.ntmps20
  go_wp2_with fail
  refine (HC.out _).mono ?_
  rintro _ w1 ⟨rfl, hE1⟩
  have HE1 := Lib.hid hE1
  clear hE1
  dsimp only
  go_wp2_with fail
  refine (giveNo_any _).mono ?_
  rintro _ w2 ⟨rfl, hE2⟩
  have HE2 := Lib.hid hE2
  have HO2 := Lib.hid (HO0.out.ext (HE1.out.trans hE2))
  obtain ⟨r0, r1, r2, rf⟩ := HO2.out
  have f0 := rf 0
  have f1 := rf 1
  have f2 := rf 2
  have rl := HO2.out.lt
  clear rf hE2
  dsimp only
  go_wp2_with fail
  have hst := stored3 HO2.out (HE0.out.trans (HE1.out.trans HE2.out)) (Nat.le_refl _) HL0.out (.int .i64 0) (.slice none 0 0) (.slice none 0 0)
  generalize ((w2.setCell ⟨w.heap.size, 0, none⟩ (.int .i64 0)).setCell ⟨w.heap.size, 1, none⟩ (.slice none 0 0)).setCell ⟨w.heap.size, 2, none⟩ (.slice none 0 0) = W2 at *
  obtain ⟨hEx, ⟨d0, d1, d2, -⟩, hag, hsw⟩ := hst
  refine bodyPost_ret (v := .tuple #[.agg #[.int .i64 0, .slice none 0 0, .slice none 0 0], .int .i64 0, .int .i64 2]) ?_ rfl ?_
  · rw [results_cell_two rfl]
    go_simp
  · exact RetGE.zero hEx
set_option maxRecDepth 20000 in
set_option maxHeartbeats 4000000 in
theorem LearnsNoA (n v g i : Int) (hc : ∀ w, Calls Tryz.prog 70 #[.int .i64 n, .int .i64 v] w fun e w' => RetPN e w w') (w : World) :
    Calls Tryz.prog 30 #[.int .i64 n, .int .i64 v, .int .i64 g, .int .i64 i] w fun e w' => RetP (.bool false) 2 e w w' := by
  have HC := Lib.hid hc
  clear hc
  go_enter Tryz.func30, Tryz.ntmps30
  go_wp2_with fail
  refine (HC.out _).mono ?_
  rintro _ w1 ⟨rfl, hE1⟩
  have hA1 : Ext w1 (w1.alloc (.cells #[.int .i64 0, .slice none 0 0, .slice none 0 0, .int .i64 0] 76)) := (Ext.refl w1).alloc _
  have HE1 := Lib.hid (hE1.trans hA1)
  clear hE1 hA1
  dsimp only
  go_wp2_with fail
  refine (askNoA 0 0 none none 0 0 0 0 n g i _).mono ?_
  rintro _ w2 ⟨rfl, hE2⟩
  dsimp only
  go_wp2_with fail
  go_ret2
  exact ⟨rfl, HE1.out.trans hE2⟩
set_option maxRecDepth 20000 in
set_option maxHeartbeats 4000000 in
theorem LearnsNoB (n : Nat) (v g i : Int) (P : Mo × Int) (hn : 2 ≤ n ∧ n ≤ 4) (hb : gBad n g i) (w : World) (hc : Calls Tryz.prog 70 #[.int .i64 (n : Int), .int .i64 v] w fun e w' => RetPB P e w w') :
    Calls Tryz.prog 30 #[.int .i64 (n : Int), .int .i64 v, .int .i64 g, .int .i64 i] w fun e w' => RetP (.bool false) 2 e w w' := by
  have HC := Lib.hid hc
  have HA := Lib.hid (fun W x va ra vl rl vc rc => askNoB W x va ra vl rl vc rc n g i hn hb)
  clear hc hb
  go_enter Tryz.func30, Tryz.ntmps30
  go_wp2_with fail
  refine HC.out.mono ?_
  rintro _ w1 ⟨va, ra, vc, rc, rfl, hk1, hE1⟩
  have hA1 : Ext w1 (w1.alloc (.cells #[.int .i64 P.1.worlds, .slice va P.1.val.length vc, .slice ra P.1.rel.length rc, .int .i64 P.2] 76)) := (Ext.refl w1).alloc _
  have HE1 := Lib.hid (hE1.trans hA1)
  clear hk1 hE1 hA1
  dsimp only
  go_wp2_with fail
  refine (HA.out _ _ _ _ _ _ _ _ _).mono ?_
  rintro _ w2 ⟨rfl, hE2⟩
  dsimp only
  go_wp2_with fail
  go_ret2
  exact ⟨rfl, HE1.out.trans hE2⟩
set_option maxRecDepth 20000 in
set_option maxHeartbeats 4000000 in
theorem GuessesNoA (n v q g i : Int) (hc : ∀ w, Calls Tryz.prog 69 #[.int .i64 n, .int .i64 v, .int .i64 q] w fun e w' => RetPN e w w') (w : World) :
    Calls Tryz.prog 25 #[.int .i64 n, .int .i64 v, .int .i64 q, .int .i64 g, .int .i64 i] w fun e w' => RetP (.bool false) 2 e w w' := by
  have HC := Lib.hid hc
  clear hc
  go_enter Tryz.func25, Tryz.ntmps25
  go_wp2_with fail
  refine (HC.out _).mono ?_
  rintro _ w1 ⟨rfl, hE1⟩
  have hA1 : Ext w1 (w1.alloc (.cells #[.int .i64 0, .slice none 0 0, .slice none 0 0, .int .i64 0] 76)) := (Ext.refl w1).alloc _
  have HE1 := Lib.hid (hE1.trans hA1)
  clear hE1 hA1
  dsimp only
  go_wp2_with fail
  refine (askNoA 0 0 none none 0 0 0 0 n g i _).mono ?_
  rintro _ w2 ⟨rfl, hE2⟩
  dsimp only
  go_wp2_with fail
  go_ret2
  exact ⟨rfl, HE1.out.trans hE2⟩
set_option maxRecDepth 20000 in
set_option maxHeartbeats 4000000 in
theorem GuessesNoB (n : Nat) (v q g i : Int) (P : Mo × Int) (hn : 2 ≤ n ∧ n ≤ 4) (hb : gBad n g i) (w : World) (hc : Calls Tryz.prog 69 #[.int .i64 (n : Int), .int .i64 v, .int .i64 q] w fun e w' => RetPB P e w w') :
    Calls Tryz.prog 25 #[.int .i64 (n : Int), .int .i64 v, .int .i64 q, .int .i64 g, .int .i64 i] w fun e w' => RetP (.bool false) 2 e w w' := by
  have HC := Lib.hid hc
  have HA := Lib.hid (fun W x va ra vl rl vc rc => askNoB W x va ra vl rl vc rc n g i hn hb)
  clear hc hb
  go_enter Tryz.func25, Tryz.ntmps25
  go_wp2_with fail
  refine HC.out.mono ?_
  rintro _ w1 ⟨va, ra, vc, rc, rfl, hk1, hE1⟩
  have hA1 : Ext w1 (w1.alloc (.cells #[.int .i64 P.1.worlds, .slice va P.1.val.length vc, .slice ra P.1.rel.length rc, .int .i64 P.2] 76)) := (Ext.refl w1).alloc _
  have HE1 := Lib.hid (hE1.trans hA1)
  clear hk1 hE1 hA1
  dsimp only
  go_wp2_with fail
  refine (HA.out _ _ _ _ _ _ _ _ _).mono ?_
  rintro _ w2 ⟨rfl, hE2⟩
  dsimp only
  go_wp2_with fail
  go_ret2
  exact ⟨rfl, HE1.out.trans hE2⟩
set_option maxRecDepth 20000 in
set_option maxHeartbeats 4000000 in
theorem TracesNoA (n v q g i : Int) (hc : ∀ w, Calls Tryz.prog 63 #[.int .i64 n, .int .i64 v, .int .i64 q] w fun e w' => RetPN e w w') (w : World) :
    Calls Tryz.prog 22 #[.int .i64 n, .int .i64 v, .int .i64 q, .int .i64 g, .int .i64 i] w fun e w' => RetP (.bool false) 2 e w w' := by
  have HC := Lib.hid hc
  clear hc
  go_enter Tryz.func22, Tryz.ntmps22
  go_wp2_with fail
  refine (HC.out _).mono ?_
  rintro _ w1 ⟨rfl, hE1⟩
  have hA1 : Ext w1 (w1.alloc (.cells #[.int .i64 0, .slice none 0 0, .slice none 0 0, .int .i64 0] 76)) := (Ext.refl w1).alloc _
  have HE1 := Lib.hid (hE1.trans hA1)
  clear hE1 hA1
  dsimp only
  go_wp2_with fail
  refine (askNoA 0 0 none none 0 0 0 0 n g i _).mono ?_
  rintro _ w2 ⟨rfl, hE2⟩
  dsimp only
  go_wp2_with fail
  go_ret2
  exact ⟨rfl, HE1.out.trans hE2⟩
set_option maxRecDepth 20000 in
set_option maxHeartbeats 4000000 in
theorem TracesNoB (n : Nat) (v q g i : Int) (P : Mo × Int) (hn : 2 ≤ n ∧ n ≤ 4) (hb : gBad n g i) (w : World) (hc : Calls Tryz.prog 63 #[.int .i64 (n : Int), .int .i64 v, .int .i64 q] w fun e w' => RetPB P e w w') :
    Calls Tryz.prog 22 #[.int .i64 (n : Int), .int .i64 v, .int .i64 q, .int .i64 g, .int .i64 i] w fun e w' => RetP (.bool false) 2 e w w' := by
  have HC := Lib.hid hc
  have HA := Lib.hid (fun W x va ra vl rl vc rc => askNoB W x va ra vl rl vc rc n g i hn hb)
  clear hc hb
  go_enter Tryz.func22, Tryz.ntmps22
  go_wp2_with fail
  refine HC.out.mono ?_
  rintro _ w1 ⟨va, ra, vc, rc, rfl, hk1, hE1⟩
  have hA1 : Ext w1 (w1.alloc (.cells #[.int .i64 P.1.worlds, .slice va P.1.val.length vc, .slice ra P.1.rel.length rc, .int .i64 P.2] 76)) := (Ext.refl w1).alloc _
  have HE1 := Lib.hid (hE1.trans hA1)
  clear hk1 hE1 hA1
  dsimp only
  go_wp2_with fail
  refine (HA.out _ _ _ _ _ _ _ _ _).mono ?_
  rintro _ w2 ⟨rfl, hE2⟩
  dsimp only
  go_wp2_with fail
  go_ret2
  exact ⟨rfl, HE1.out.trans hE2⟩
end Wt

namespace Wt
open Go Go.RowKit Go.Maps Go.Proofs Fm

theorem okP_pos {n f : Nat} {p : Mo × Int} (h : okP n f p = true) : 0 ≤ p.2 := by
  obtain ⟨N, x, -, -, hx, -, -, -⟩ := okP_at h
  omega
set_option maxRecDepth 20000 in
set_option maxHeartbeats 4000000 in
theorem r44counted_any (n v : Nat) (hn : 2 ≤ n ∧ n ≤ 4) (hv : v < 2 ^ n) (w : World) :
    Calls Tryz.prog 27 #[.int .i64 (n : Int), .int .i64 (v : Int)] w fun e w' => RetGE (countedW n v) 0 e w w' := by
  have hp16 := pow16 hn.2
  have h63 : n < 63 := by omega
  obtain ⟨hq1, hq2⟩ := pw_int hn.2
  have hb0 : btw (n : Int) 2 4 = true := btw_yes (by omega)
  have hb1 : btw (v : Int) 0 (p2 n - 1) = true := btw_yes (by unfold p2; omega)
  have HV := Lib.hid (r44votes_any n hn)
  have HEQ : Hid (annW (votesM n, (v : Int)) (fromF (tallyT n (onesN v) (onesN v)) n) = countedW n v) := Lib.hid (cntR_eq hn hv)
  have HIN : Hid (0 ≤ (countedW n v).2) := Lib.hid (okP_pos (cnt_okP hn hv))
  obtain ⟨V, R, hvm⟩ := votes_form hn
  rw [hvm] at HV HEQ
  have HTL := Lib.hid (r44tally_any n (onesN v) hn (ones_le hn.2 hv))
  have HON := Lib.hid (r44ones_any v (by omega))
  have HAN : Hid (∀ va ra vc rc fa fc W, RM W va ra ⟨((2 ^ n : Nat) : Int), V, R⟩ → RN W fa (fromF (tallyT n (onesN v) (onesN v)) n) → Calls Tryz.prog 64 #[.agg #[.int .i64 ((2 ^ n : Nat) : Int), .slice va V.length vc, .slice ra R.length rc], .int .i64 (v : Int), .slice fa (fromF (tallyT n (onesN v) (onesN v)) n).length fc] W fun e w' => RetX (countedW n v).1 (.int .i64 (countedW n v).2) e W w') := Lib.hid fun va ra vc rc fa fc W hm hf => by
    rw [← HEQ.out]
    exact r44announce_any (2 ^ n) V R va ra vc rc v fa fc _ W (by omega) (by omega) hm hf (by rw [HEQ.out]; exact HIN.out)
  have hE0 : Ext w (w.alloc (.cells #[.int .i64 0, .slice none 0 0, .slice none 0 0] 25)) := (Ext.refl w).alloc _
  have HO0 := Lib.hid (OutAt.new w (.int .i64 0) (.slice none 0 0) (.slice none 0 0) 25)
  generalize fromF (tallyT n (onesN v) (onesN v)) n = F at *
  generalize countedW n v = P at *
  generalize hNN : 2 ^ n = NN at *
  have HE0 := Lib.hid hE0
  clear HEQ HIN hvm hE0 hp16 hNN hv
  go_enter Tryz.func27, Tryz.ntmps27
  go_wp2_with (first | (go_at_call 54; refine (r44in_any _ _ _ _).mono ?_; rintro _ _ ⟨rfl, rfl⟩) | fail)
  generalize w.alloc (.cells #[.int .i64 0, .slice none 0 0, .slice none 0 0] 25) = W0 at *
  refine (HV.out _).mono ?_
  rintro _ w1 ⟨va, ra, vc, rc, rfl, hk1, hE1⟩
  have HK1 := Lib.hid hk1
  have HE1 := Lib.hid hE1
  have HA1 : Hid (Ext w1 (w1.alloc (.cells #[.int .i64 (NN : Int), .slice va V.length vc, .slice ra R.length rc] 25))) := Lib.hid ((Ext.refl w1).alloc _)
  have HO1 := Lib.hid (OutAt.new w1 (.int .i64 (NN : Int)) (.slice va V.length vc) (.slice ra R.length rc) 25)
  clear hk1 hE1
  dsimp only
  go_wp2_with (first | (go_at_call 71; refine (HON.out _).mono ?_; rintro _ _ ⟨rfl, rfl⟩) | fail)
  refine (HTL.out _).mono ?_
  rintro _ w2 ⟨ta, tc, rfl, hr2, hE2⟩
  have HR2 := Lib.hid hr2
  have HE2 := Lib.hid hE2
  have HO2 := Lib.hid (HO1.out.ext hE2)
  obtain ⟨o0, o1, o2, -⟩ := HO2.out
  have ol := HO2.out.lt
  clear hr2 hE2
  dsimp only
  go_wp2_with fail
  refine (HAN.out va ra vc rc ta tc _ (HK1.out _ (Agree.ofExt (HA1.out.trans HE2.out))) HR2.out).mono ?_
  rintro _ w4 ⟨va4, ra4, vc4, rc4, rfl, hk4, hE4⟩
  have HK4 := Lib.hid hk4
  have HE4 := Lib.hid (HE0.out.trans (HE1.out.trans (HA1.out.trans (HE2.out.trans hE4))))
  have HP4 := Lib.hid (HO0.out.ext (HE1.out.trans (HA1.out.trans (HE2.out.trans hE4))))
  have HLT : Hid (w.heap.size < w2.heap.size) := Lib.hid (HO0.out.ext (HE1.out.trans (HA1.out.trans HE2.out))).lt
  obtain ⟨r0, r1, r2, rf⟩ := HP4.out
  have f0 := rf 0
  have f1 := rf 1
  have f2 := rf 2
  have rl := HP4.out.lt
  clear hk4 hE4 rf o0 o1 o2 ol
  dsimp only
  go_wp2_with fail
  have hst := stored3a HP4.out HE4.out (Nat.le_refl _) HLT.out (.int .i64 P.1.worlds) (.slice va4 P.1.val.length vc4) (.slice ra4 P.1.rel.length rc4) (.cells #[.int .i64 P.1.worlds, .slice va4 P.1.val.length vc4, .slice ra4 P.1.rel.length rc4] 25)
  generalize (((w4.setCell ⟨w.heap.size, 0, none⟩ (.int .i64 P.1.worlds)).setCell ⟨w.heap.size, 1, none⟩ (.slice va4 P.1.val.length vc4)).setCell ⟨w.heap.size, 2, none⟩ (.slice ra4 P.1.rel.length rc4)).alloc (.cells #[.int .i64 P.1.worlds, .slice va4 P.1.val.length vc4, .slice ra4 P.1.rel.length rc4] 25) = W2 at *
  obtain ⟨hEx, ⟨d0, d1, d2, -⟩, hag, hsw⟩ := hst
  refine bodyPost_ret (v := .tuple #[.agg #[.int .i64 P.1.worlds, .slice va4 P.1.val.length vc4, .slice ra4 P.1.rel.length rc4], .int .i64 P.2, .int .i64 0]) ?_ rfl ?_
  · rw [results_cell_two rfl]
    go_simp
  · exact ⟨va4, ra4, vc4, rc4, rfl, fun w'' ha => HK4.out w'' (agree_up hag ha (Nat.le_of_lt HLT.out) hsw), hEx⟩
set_option maxRecDepth 20000 in
set_option maxHeartbeats 4000000 in
theorem r44decided_any (n v q : Nat) (hn : 2 ≤ n ∧ n ≤ 4) (hv : v < 2 ^ n) (hq : q ≤ n) (w : World) :
    Calls Tryz.prog 29 #[.int .i64 (n : Int), .int .i64 (v : Int), .int .i64 (q : Int)] w fun e w' => RetGE (decidedW n v q) 0 e w w' := by
  have hp16 := pow16 hn.2
  have h63 : n < 63 := by omega
  obtain ⟨hq1, hq2⟩ := pw_int hn.2
  have hb0 : btw (n : Int) 2 4 = true := btw_yes (by omega)
  have hb1 : btw (v : Int) 0 (p2 n - 1) = true := btw_yes (by unfold p2; omega)
  have hb2 : btw (q : Int) 0 (n : Int) = true := btw_yes (by omega)
  have HV := Lib.hid (r44votes_any n hn)
  have HEQ : Hid (annW (votesM n, (v : Int)) (fromF (tallyT n q n) n) = decidedW n v q) := Lib.hid (dcdR_eq hn hv hq)
  have HIN : Hid (0 ≤ (decidedW n v q).2) := Lib.hid (okP_pos (dcd_okP hn hv hq))
  obtain ⟨V, R, hvm⟩ := votes_form hn
  rw [hvm] at HV HEQ
  have HTL := Lib.hid (r44passes_any n q hn hq)
  have HON := Lib.hid (r44ones_any v (by omega))
  have HAN : Hid (∀ va ra vc rc fa fc W, RM W va ra ⟨((2 ^ n : Nat) : Int), V, R⟩ → RN W fa (fromF (tallyT n q n) n) → Calls Tryz.prog 64 #[.agg #[.int .i64 ((2 ^ n : Nat) : Int), .slice va V.length vc, .slice ra R.length rc], .int .i64 (v : Int), .slice fa (fromF (tallyT n q n) n).length fc] W fun e w' => RetX (decidedW n v q).1 (.int .i64 (decidedW n v q).2) e W w') := Lib.hid fun va ra vc rc fa fc W hm hf => by
    rw [← HEQ.out]
    exact r44announce_any (2 ^ n) V R va ra vc rc v fa fc _ W (by omega) (by omega) hm hf (by rw [HEQ.out]; exact HIN.out)
  have hE0 : Ext w (w.alloc (.cells #[.int .i64 0, .slice none 0 0, .slice none 0 0] 25)) := (Ext.refl w).alloc _
  have HO0 := Lib.hid (OutAt.new w (.int .i64 0) (.slice none 0 0) (.slice none 0 0) 25)
  generalize fromF (tallyT n q n) n = F at *
  generalize decidedW n v q = P at *
  generalize hNN : 2 ^ n = NN at *
  have HE0 := Lib.hid hE0
  clear HEQ HIN hvm hE0 hp16 hNN hv
  go_enter Tryz.func29, Tryz.ntmps29
  go_wp2_with (first | (go_at_call 54; refine (r44in_any _ _ _ _).mono ?_; rintro _ _ ⟨rfl, rfl⟩) | fail)
  generalize w.alloc (.cells #[.int .i64 0, .slice none 0 0, .slice none 0 0] 25) = W0 at *
  refine (HV.out _).mono ?_
  rintro _ w1 ⟨va, ra, vc, rc, rfl, hk1, hE1⟩
  have HK1 := Lib.hid hk1
  have HE1 := Lib.hid hE1
  have HA1 : Hid (Ext w1 (w1.alloc (.cells #[.int .i64 (NN : Int), .slice va V.length vc, .slice ra R.length rc] 25))) := Lib.hid ((Ext.refl w1).alloc _)
  have HO1 := Lib.hid (OutAt.new w1 (.int .i64 (NN : Int)) (.slice va V.length vc) (.slice ra R.length rc) 25)
  clear hk1 hE1
  dsimp only
  go_wp2_with (first | fail)
  refine (HTL.out _).mono ?_
  rintro _ w2 ⟨ta, tc, rfl, hr2, hE2⟩
  have HR2 := Lib.hid hr2
  have HE2 := Lib.hid hE2
  have HO2 := Lib.hid (HO1.out.ext hE2)
  obtain ⟨o0, o1, o2, -⟩ := HO2.out
  have ol := HO2.out.lt
  clear hr2 hE2
  dsimp only
  go_wp2_with fail
  refine (HAN.out va ra vc rc ta tc _ (HK1.out _ (Agree.ofExt (HA1.out.trans HE2.out))) HR2.out).mono ?_
  rintro _ w4 ⟨va4, ra4, vc4, rc4, rfl, hk4, hE4⟩
  have HK4 := Lib.hid hk4
  have HE4 := Lib.hid (HE0.out.trans (HE1.out.trans (HA1.out.trans (HE2.out.trans hE4))))
  have HP4 := Lib.hid (HO0.out.ext (HE1.out.trans (HA1.out.trans (HE2.out.trans hE4))))
  have HLT : Hid (w.heap.size < w2.heap.size) := Lib.hid (HO0.out.ext (HE1.out.trans (HA1.out.trans HE2.out))).lt
  obtain ⟨r0, r1, r2, rf⟩ := HP4.out
  have f0 := rf 0
  have f1 := rf 1
  have f2 := rf 2
  have rl := HP4.out.lt
  clear hk4 hE4 rf o0 o1 o2 ol
  dsimp only
  go_wp2_with fail
  have hst := stored3a HP4.out HE4.out (Nat.le_refl _) HLT.out (.int .i64 P.1.worlds) (.slice va4 P.1.val.length vc4) (.slice ra4 P.1.rel.length rc4) (.cells #[.int .i64 P.1.worlds, .slice va4 P.1.val.length vc4, .slice ra4 P.1.rel.length rc4] 25)
  generalize (((w4.setCell ⟨w.heap.size, 0, none⟩ (.int .i64 P.1.worlds)).setCell ⟨w.heap.size, 1, none⟩ (.slice va4 P.1.val.length vc4)).setCell ⟨w.heap.size, 2, none⟩ (.slice ra4 P.1.rel.length rc4)).alloc (.cells #[.int .i64 P.1.worlds, .slice va4 P.1.val.length vc4, .slice ra4 P.1.rel.length rc4] 25) = W2 at *
  obtain ⟨hEx, ⟨d0, d1, d2, -⟩, hag, hsw⟩ := hst
  refine bodyPost_ret (v := .tuple #[.agg #[.int .i64 P.1.worlds, .slice va4 P.1.val.length vc4, .slice ra4 P.1.rel.length rc4], .int .i64 P.2, .int .i64 0]) ?_ rfl ?_
  · rw [results_cell_two rfl]
    go_simp
  · exact ⟨va4, ra4, vc4, rc4, rfl, fun w'' ha => HK4.out w'' (agree_up hag ha (Nat.le_of_lt HLT.out) hsw), hEx⟩
set_option maxRecDepth 20000 in
set_option maxHeartbeats 2000000 in
theorem r44countedNoA (n v : Int) (hb : btw n 2 4 = false) (w : World) :
    Calls Tryz.prog 27 #[.int .i64 n, .int .i64 v] w fun e w' => RetGE (⟨0, [], []⟩, 0) 2 e w w' := by
  have hE0 : Ext w (w.alloc (.cells #[.int .i64 0, .slice none 0 0, .slice none 0 0] 25)) := (Ext.refl w).alloc _
  have hO0 := OutAt.new w (.int .i64 0) (.slice none 0 0) (.slice none 0 0) 25
  have HE0 := Lib.hid hE0
  have HO0 := Lib.hid hO0
  clear hE0 hO0
  go_enter Tryz.func27, Tryz.ntmps27
  go_wp2_with (first | (go_at_call 54; refine (r44in_any _ _ _ _).mono ?_; rintro _ _ ⟨rfl, rfl⟩) | fail)
  obtain ⟨d0, d1, d2, -⟩ := HO0.out
  refine bodyPost_ret (v := .tuple #[.agg #[.int .i64 0, .slice none 0 0, .slice none 0 0], .int .i64 0, .int .i64 2]) ?_ rfl ?_
  · rw [results_cell_two rfl]
    go_simp
  · exact RetGE.zero HE0.out
set_option maxRecDepth 20000 in
set_option maxHeartbeats 2000000 in
theorem r44countedNoB (n : Nat) (v : Int) (hn : 2 ≤ n ∧ n ≤ 4) (hb : btw v 0 (p2 n - 1) = false) (w : World) :
    Calls Tryz.prog 27 #[.int .i64 (n : Int), .int .i64 v] w fun e w' => RetGE (⟨0, [], []⟩, 0) 2 e w w' := by
  have hE0 : Ext w (w.alloc (.cells #[.int .i64 0, .slice none 0 0, .slice none 0 0] 25)) := (Ext.refl w).alloc _
  have hO0 := OutAt.new w (.int .i64 0) (.slice none 0 0) (.slice none 0 0) 25
  have h63 : n < 63 := by omega
  obtain ⟨hq1, hq2⟩ := pw_int (show n ≤ 4 by omega)
  have hb0 : btw (n : Int) 2 4 = true := btw_yes (by omega)
  have HE0 := Lib.hid hE0
  have HO0 := Lib.hid hO0
  clear hE0 hO0
  go_enter Tryz.func27, Tryz.ntmps27
  go_wp2_with (first | (go_at_call 54; refine (r44in_any _ _ _ _).mono ?_; rintro _ _ ⟨rfl, rfl⟩) | fail)
  obtain ⟨d0, d1, d2, -⟩ := HO0.out
  refine bodyPost_ret (v := .tuple #[.agg #[.int .i64 0, .slice none 0 0, .slice none 0 0], .int .i64 0, .int .i64 2]) ?_ rfl ?_
  · rw [results_cell_two rfl]
    go_simp
  · exact RetGE.zero HE0.out
set_option maxRecDepth 20000 in
set_option maxHeartbeats 2000000 in
theorem r44decidedNoA (n v q : Int) (hb : btw n 2 4 = false) (w : World) :
    Calls Tryz.prog 29 #[.int .i64 n, .int .i64 v, .int .i64 q] w fun e w' => RetGE (⟨0, [], []⟩, 0) 2 e w w' := by
  have hE0 : Ext w (w.alloc (.cells #[.int .i64 0, .slice none 0 0, .slice none 0 0] 25)) := (Ext.refl w).alloc _
  have hO0 := OutAt.new w (.int .i64 0) (.slice none 0 0) (.slice none 0 0) 25
  have HE0 := Lib.hid hE0
  have HO0 := Lib.hid hO0
  clear hE0 hO0
  go_enter Tryz.func29, Tryz.ntmps29
  go_wp2_with (first | (go_at_call 54; refine (r44in_any _ _ _ _).mono ?_; rintro _ _ ⟨rfl, rfl⟩) | fail)
  obtain ⟨d0, d1, d2, -⟩ := HO0.out
  refine bodyPost_ret (v := .tuple #[.agg #[.int .i64 0, .slice none 0 0, .slice none 0 0], .int .i64 0, .int .i64 2]) ?_ rfl ?_
  · rw [results_cell_two rfl]
    go_simp
  · exact RetGE.zero HE0.out
set_option maxRecDepth 20000 in
set_option maxHeartbeats 2000000 in
theorem r44decidedNoB (n : Nat) (v q : Int) (hn : 2 ≤ n ∧ n ≤ 4) (hb : btw v 0 (p2 n - 1) = false) (w : World) :
    Calls Tryz.prog 29 #[.int .i64 (n : Int), .int .i64 v, .int .i64 q] w fun e w' => RetGE (⟨0, [], []⟩, 0) 2 e w w' := by
  have hE0 : Ext w (w.alloc (.cells #[.int .i64 0, .slice none 0 0, .slice none 0 0] 25)) := (Ext.refl w).alloc _
  have hO0 := OutAt.new w (.int .i64 0) (.slice none 0 0) (.slice none 0 0) 25
  have h63 : n < 63 := by omega
  obtain ⟨hq1, hq2⟩ := pw_int (show n ≤ 4 by omega)
  have hb0 : btw (n : Int) 2 4 = true := btw_yes (by omega)
  have HE0 := Lib.hid hE0
  have HO0 := Lib.hid hO0
  clear hE0 hO0
  go_enter Tryz.func29, Tryz.ntmps29
  go_wp2_with (first | (go_at_call 54; refine (r44in_any _ _ _ _).mono ?_; rintro _ _ ⟨rfl, rfl⟩) | fail)
  obtain ⟨d0, d1, d2, -⟩ := HO0.out
  refine bodyPost_ret (v := .tuple #[.agg #[.int .i64 0, .slice none 0 0, .slice none 0 0], .int .i64 0, .int .i64 2]) ?_ rfl ?_
  · rw [results_cell_two rfl]
    go_simp
  · exact RetGE.zero HE0.out
set_option maxRecDepth 20000 in
set_option maxHeartbeats 2000000 in
theorem r44decidedNoC (n : Nat) (v q : Int) (hn : 2 ≤ n ∧ n ≤ 4) (hb1 : btw v 0 (p2 n - 1) = true) (hb : btw q 0 (n : Int) = false) (w : World) :
    Calls Tryz.prog 29 #[.int .i64 (n : Int), .int .i64 v, .int .i64 q] w fun e w' => RetGE (⟨0, [], []⟩, 0) 2 e w w' := by
  have hE0 : Ext w (w.alloc (.cells #[.int .i64 0, .slice none 0 0, .slice none 0 0] 25)) := (Ext.refl w).alloc _
  have hO0 := OutAt.new w (.int .i64 0) (.slice none 0 0) (.slice none 0 0) 25
  have h63 : n < 63 := by omega
  obtain ⟨hq1, hq2⟩ := pw_int (show n ≤ 4 by omega)
  have hb0 : btw (n : Int) 2 4 = true := btw_yes (by omega)
  have HE0 := Lib.hid hE0
  have HO0 := Lib.hid hO0
  clear hE0 hO0
  go_enter Tryz.func29, Tryz.ntmps29
  go_wp2_with (first | (go_at_call 54; refine (r44in_any _ _ _ _).mono ?_; rintro _ _ ⟨rfl, rfl⟩) | fail)
  obtain ⟨d0, d1, d2, -⟩ := HO0.out
  refine bodyPost_ret (v := .tuple #[.agg #[.int .i64 0, .slice none 0 0, .slice none 0 0], .int .i64 0, .int .i64 2]) ?_ rfl ?_
  · rw [results_cell_two rfl]
    go_simp
  · exact RetGE.zero HE0.out
set_option maxRecDepth 20000 in
set_option maxHeartbeats 2000000 in
theorem r44spokenNoA (n v q : Int) (hb : btw n 2 3 = false) (w : World) :
    Calls Tryz.prog 21 #[.int .i64 n, .int .i64 v, .int .i64 q] w fun e w' => RetGE (⟨0, [], []⟩, 0) 2 e w w' := by
  have hE0 : Ext w (w.alloc (.cells #[.int .i64 0, .slice none 0 0, .slice none 0 0] 25)) := (Ext.refl w).alloc _
  have hO0 := OutAt.new w (.int .i64 0) (.slice none 0 0) (.slice none 0 0) 25
  have HE0 := Lib.hid hE0
  have HO0 := Lib.hid hO0
  clear hE0 hO0
  go_enter Tryz.func21, Tryz.ntmps21
  go_wp2_with (first | (go_at_call 54; refine (r44in_any _ _ _ _).mono ?_; rintro _ _ ⟨rfl, rfl⟩) | fail)
  obtain ⟨d0, d1, d2, -⟩ := HO0.out
  refine bodyPost_ret (v := .tuple #[.agg #[.int .i64 0, .slice none 0 0, .slice none 0 0], .int .i64 0, .int .i64 2]) ?_ rfl ?_
  · rw [results_cell_two rfl]
    go_simp
  · exact RetGE.zero HE0.out
set_option maxRecDepth 20000 in
set_option maxHeartbeats 2000000 in
theorem r44spokenNoB (n : Nat) (v q : Int) (hn : 2 ≤ n ∧ n ≤ 3) (hb : btw v (-1) ((n : Int) - 1) = false) (w : World) :
    Calls Tryz.prog 21 #[.int .i64 (n : Int), .int .i64 v, .int .i64 q] w fun e w' => RetGE (⟨0, [], []⟩, 0) 2 e w w' := by
  have hE0 : Ext w (w.alloc (.cells #[.int .i64 0, .slice none 0 0, .slice none 0 0] 25)) := (Ext.refl w).alloc _
  have hO0 := OutAt.new w (.int .i64 0) (.slice none 0 0) (.slice none 0 0) 25
  have h63 : n < 63 := by omega
  obtain ⟨hq1, hq2⟩ := pw_int (show n ≤ 4 by omega)
  have hb0 : btw (n : Int) 2 3 = true := btw_yes (by omega)
  have HE0 := Lib.hid hE0
  have HO0 := Lib.hid hO0
  clear hE0 hO0
  go_enter Tryz.func21, Tryz.ntmps21
  go_wp2_with (first | (go_at_call 54; refine (r44in_any _ _ _ _).mono ?_; rintro _ _ ⟨rfl, rfl⟩) | fail)
  obtain ⟨d0, d1, d2, -⟩ := HO0.out
  refine bodyPost_ret (v := .tuple #[.agg #[.int .i64 0, .slice none 0 0, .slice none 0 0], .int .i64 0, .int .i64 2]) ?_ rfl ?_
  · rw [results_cell_two rfl]
    go_simp
  · exact RetGE.zero HE0.out
set_option maxRecDepth 20000 in
set_option maxHeartbeats 2000000 in
theorem r44spokenNoC (n : Nat) (v q : Int) (hn : 2 ≤ n ∧ n ≤ 3) (hb1 : btw v (-1) ((n : Int) - 1) = true) (hb : btw q 0 (p2 n - 1) = false) (w : World) :
    Calls Tryz.prog 21 #[.int .i64 (n : Int), .int .i64 v, .int .i64 q] w fun e w' => RetGE (⟨0, [], []⟩, 0) 2 e w w' := by
  have hE0 : Ext w (w.alloc (.cells #[.int .i64 0, .slice none 0 0, .slice none 0 0] 25)) := (Ext.refl w).alloc _
  have hO0 := OutAt.new w (.int .i64 0) (.slice none 0 0) (.slice none 0 0) 25
  have h63 : n < 63 := by omega
  obtain ⟨hq1, hq2⟩ := pw_int (show n ≤ 4 by omega)
  have hb0 : btw (n : Int) 2 3 = true := btw_yes (by omega)
  have HE0 := Lib.hid hE0
  have HO0 := Lib.hid hO0
  clear hE0 hO0
  go_enter Tryz.func21, Tryz.ntmps21
  go_wp2_with (first | (go_at_call 54; refine (r44in_any _ _ _ _).mono ?_; rintro _ _ ⟨rfl, rfl⟩) | fail)
  obtain ⟨d0, d1, d2, -⟩ := HO0.out
  refine bodyPost_ret (v := .tuple #[.agg #[.int .i64 0, .slice none 0 0, .slice none 0 0], .int .i64 0, .int .i64 2]) ?_ rfl ?_
  · rw [results_cell_two rfl]
    go_simp
  · exact RetGE.zero HE0.out
end Wt
