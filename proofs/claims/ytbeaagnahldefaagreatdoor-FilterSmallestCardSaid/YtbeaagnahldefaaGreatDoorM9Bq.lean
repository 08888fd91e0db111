/- Walks: wittingref17.Holds, At, Valid; wittingref13.SameSets, Few. -/
import Derived.Test.YtbeaagnahldefaaGreatDoorM9Bf
import Derived.Test.YtbeaagnahldefaaGreatDoorM9Ao
import Derived.Deep.QuietTactic
import Derived.BigQuiet
namespace Wt
open Go Go.RowKit Go.Maps Go.Proofs Fm

/-- The canonical list has the error of the formula. -/
theorem reqErr_compact (M : Mo) {f : List Nd} (h : fCheck f = 0) : reqErr M (fCompact f) = reqErr M f ∧ (fCompact f).length = fsize (trAt f (f.length - 1)) ∧ trAt (fCompact f) ((fCompact f).length - 1) = trAt f (f.length - 1) := by
  obtain ⟨h0, h200, hw⟩ := fCheck_ok.1 h
  obtain ⟨hc, hk⟩ := fCompact_of h
  have ht : fok (trAt f (f.length - 1)) := fok_trAt hw _ _ (Nat.lt_succ_self _) hk
  have hs : fsize (trAt f (f.length - 1)) ≤ 200 := Nat.le_trans (fsize_le hw hk) h200
  have hcc := compact_canon _ ht hs
  have hck := canon_check _ ht hs
  have e1 : fFrags (fCompact f) = fFrags f := by unfold fFrags; rw [hc, hcc]
  have e2 : fFits (fCompact f) M.rel.length M.val.length = fFits f M.rel.length M.val.length := by
    unfold fFits fAgents fFacts; rw [hc, hcc, hck, h]
  refine ⟨?_, by rw [hc, canon_length], by rw [hc, trAt_canon _ ht]⟩
  unfold reqErr
  rw [e1, e2, hc, hck, h]
theorem reqErr_none (M : Mo) {f : List Nd} (h : fCheck f ≠ 0) : reqErr M f ≠ 0 ∧ reqErr M (fCompact f) ≠ 0 := by
  have h3 : fCheck ([] : List Nd) = 3 := rfl
  rw [fCompact_no h]
  refine ⟨fun e => h (reqErr_ok e).2.1, fun e => ?_⟩
  have := (reqErr_ok e).2.1
  rw [h3] at this; omega
theorem reqErr_iff (M : Mo) (f : List Nd) : reqErr M (fCompact f) = 0 ↔ reqErr M f = 0 := by
  by_cases h : fCheck f = 0
  · rw [(reqErr_compact M h).1]
  · have := reqErr_none M h
    exact ⟨fun e => absurd e this.2, fun e => absurd e this.1⟩
end Wt

/- Walks: wittingref17.At, Valid; wittingref13.SameSets. -/
namespace Wt
open Go Go.RowKit Go.Maps Go.Proofs Fm

set_option maxHeartbeats 1000000 in
theorem r13Same_any (a b : Option Addr) (ac bc : Nat) (s t : List (BitVec 64)) (w : World) (ha : RU w a s) (hb : RU w b t) :
    Calls Tryz.prog 37 #[.slice a s.length ac, .slice b t.length bc] w fun e w' => e = .returned (.bool (decide (s = t))) ∧ Qu w w' := by
  have hl := ha.len
  have hl2 := hb.len
  by_cases hlen : s.length = t.length
  · have hL : ((s.length : Int) != (t.length : Int)) = false := by simp [hlen]
    go_enter Tryz.func37, Tryz.ntmps37
    go_wp2
    go_loopw [5] (fun i wr => ∃ k : Nat, k ≤ s.length ∧ i = .int .i64 k ∧ Qu w wr ∧ Hid (∀ j, j < k → nth s j = nth t j)) (fun i _ => s.length - (RowKit.intOf i).toNat)
    case atStart => exact ⟨0, Nat.zero_le _, rfl, Qu.refl _, fun _ h => absurd h (Nat.not_lt_zero _)⟩
    case round =>
      obtain ⟨k, hk, rfl, hE, hno⟩ := hrel
      by_cases hlt : k < s.length
      · obtain ⟨b1, off1, rfl, hb1, hc1⟩ := (ha.ext hE.ext).get hlt
        obtain ⟨b2, off2, rfl, hb2, hc2⟩ := (hb.ext hE.ext).get (k := k) (by omega)
        have hkt : k < t.length := by omega
        have hkI : (k : Int) < (t.length : Int) := by omega
        by_cases hq : nth s k = nth t k
        · have HQ := Lib.hid hq
          rw [hq] at hc1
          have hq2 : (nth t k != nth t k) = false := by simp
          clear hq
          go_wp2_with fail
          go_quiet (fail)
          go_wp2
          go_roundw
          case rel => exact ⟨k + 1, hlt, by go_num, hE.drewN _, fun j hj => by
            rcases Nat.lt_or_ge j k with h | h
            · exact hno.out j h
            · obtain rfl : j = k := by omega
              exact HQ.out⟩
          case measure => simp [RowKit.intOf]; omega
        · have hv : decide (s = t) = false := decide_eq_false fun e => hq (by rw [e])
          have HV := Lib.hid hv
          have hq2 : (nth s k != nth t k) = true := by simp [hq]
          clear hv hq
          go_wp2_with fail
          go_quiet (fail)
          go_wp2
          go_ret
          exact ⟨by rw [HV.out]; rfl, hE.drewN _⟩
      · have hv : decide (s = t) = true := by
          rw [decide_eq_true_eq]
          apply List.ext_getElem hlen
          intro j h1 h2
          have := hno.out j (by omega)
          rwa [nth_eq _ _ h1, nth_eq _ _ h2] at this
        have HV := Lib.hid hv
        clear hv
        go_wp2
        go_ret
        exact ⟨by rw [HV.out]; rfl, hE⟩
  · have hv : decide (s = t) = false := decide_eq_false fun e => hlen (by rw [e])
    have HV := Lib.hid hv
    have hL : ((s.length : Int) != (t.length : Int)) = true := by simp; omega
    clear hv
    go_enter Tryz.func37, Tryz.ntmps37
    go_wp2
    go_ret
    exact ⟨by rw [HV.out]; rfl, Qu.refl _⟩
end Wt

/- Walk: wittingref13.Same, of two models that read alike. -/
namespace Wt
open Go Go.RowKit Go.Maps Go.Proofs Fm

set_option maxRecDepth 20000 in
set_option maxHeartbeats 2000000 in
theorem sameM_any (M : Mo) (va ra vb rb : Option Addr) (vc rc vd rd : Nat) (w : World) (hm : RM w va ra M) (hn : RM w vb rb M) :
    Calls Tryz.prog 14 #[.agg #[.int .i64 M.worlds, .slice va M.val.length vc, .slice ra M.rel.length rc], .agg #[.int .i64 M.worlds, .slice vb M.val.length vd, .slice rb M.rel.length rd]] w fun e w' => e = .returned (.bool true) ∧ Ext w w' := by
  have hE0 : Ext w ((w.alloc (.cells #[.int .i64 M.worlds, .slice va M.val.length vc, .slice ra M.rel.length rc] 25)).alloc (.cells #[.int .i64 M.worlds, .slice vb M.val.length vd, .slice rb M.rel.length rd] 25)) := ((Ext.refl w).alloc _).alloc _
  have hb1 := (MoBox.new w M.worlds M.val M.rel va vc ra rc 25).ext ((Ext.refl _).alloc (.cells #[.int .i64 M.worlds, .slice vb M.val.length vd, .slice rb M.rel.length rd] 25))
  have hb2 := MoBox.new (w.alloc (.cells #[.int .i64 M.worlds, .slice va M.val.length vc, .slice ra M.rel.length rc] 25)) M.worlds M.val M.rel vb vd rb rd 25
  rw [show (w.alloc (.cells #[.int .i64 M.worlds, .slice va M.val.length vc, .slice ra M.rel.length rc] 25)).heap.size = w.heap.size + 1 by simp] at hb2
  have hm0 := hm.ext hE0
  have hn0 := hn.ext hE0
  have HE := Lib.hid hE0
  have hww : (M.worlds != M.worlds) = false := by simp
  have hrl := hm.rel.len
  clear hm hn hE0
  go_enter Tryz.func14, Tryz.ntmps14
  go_wp2_with fail
  generalize (w.alloc (.cells #[.int .i64 M.worlds, .slice va M.val.length vc, .slice ra M.rel.length rc] 25)).alloc (.cells #[.int .i64 M.worlds, .slice vb M.val.length vd, .slice rb M.rel.length rd] 25) = W0 at *
  obtain ⟨m0, m1, m2⟩ := hb1
  obtain ⟨n0, n1, n2⟩ := hb2
  dsimp only at m0 m1 m2 n0 n1 n2
  refine (r13Same_any va vb vc vd M.val M.val _ hm0.val hn0.val).mono ?_
  rintro _ w1 ⟨rfl, hQ⟩
  rw [decide_eq_true (rfl : M.val = M.val)]
  dsimp only
  have hX1 := hQ.ext
  have p0 := hX1.cell m0
  have p1 := hX1.cell m1
  have p2 := hX1.cell m2
  have q0 := hX1.cell n0
  have q1 := hX1.cell n1
  have q2 := hX1.cell n2
  have hm1 := Lib.hid (hm0.ext hX1)
  have hn1 := Lib.hid (hn0.ext hX1)
  have HX1 := Lib.hid hX1
  clear m0 m1 m2 n0 n1 n2 hQ hX1 hm0 hn0
  go_wp2_with fail
  go_loopw [5] (fun i wr => ∃ k : Nat, k ≤ M.rel.length ∧ i = .int .i64 (k : Int) ∧ Ext w1 wr) (fun i _ => M.rel.length - (RowKit.intOf i).toNat)
  case atStart => exact ⟨0, Nat.zero_le _, rfl, Ext.refl _⟩
  case round =>
    obtain ⟨k, hk, rfl, hE⟩ := hrel
    have m0 := hE.cell p0
    have m1 := hE.cell p1
    have m2 := hE.cell p2
    have n0 := hE.cell q0
    have n1 := hE.cell q1
    have n2 := hE.cell q2
    by_cases hlt : k < M.rel.length
    · obtain ⟨b1, o1, a1, c1, rfl, hb1, hc1, hu1⟩ := (hm1.out.rel.ext hE).get hlt
      obtain ⟨b2, o2, a2, c2, rfl, hb2, hc2, hu2⟩ := (hn1.out.rel.ext hE).get hlt
      have hul := hu1.len
      have HD : Hid (∀ w', Ext wr w' → Calls Tryz.prog 37 #[.slice a1 (nth M.rel k).length c1, .slice a2 (nth M.rel k).length c2] w' fun e w'' => e = .returned (.bool true) ∧ Qu w' w'') := Lib.hid fun w' e => by
        have := r13Same_any a1 a2 c1 c2 (nth M.rel k) (nth M.rel k) w' (hu1.ext e) (hu2.ext e)
        rw [decide_eq_true (rfl : nth M.rel k = nth M.rel k)] at this
        exact this
      have HEr := Lib.hid hE
      clear hu1 hu2 hE p0 p1 p2 q0 q1 q2
      go_wp2_with fail
      go_quiet ((go_at_call 37; exact Calls.quiet_of (HD.out _ ((Ext.refl _).drewN _))))
      go_wp2
      go_roundw
      case rel => exact ⟨k + 1, hlt, by go_num, HEr.out.drewN _⟩
      case measure => simp [RowKit.intOf]; omega
    · have HEr := Lib.hid hE
      clear hE p0 p1 p2 q0 q1 q2
      go_wp2
      go_ret
      exact ⟨rfl, HE.out.trans (HX1.out.trans HEr.out)⟩
end Wt
