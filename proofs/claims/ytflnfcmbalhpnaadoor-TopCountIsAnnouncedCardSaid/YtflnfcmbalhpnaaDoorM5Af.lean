/- Walk: wittingref13.Same, of two models that read alike. -/
import Derived.Test.YtflnfcmbalhpnaaDoorM4Az
namespace Wt
open Go Go.RowKit Go.Maps Go.Proofs Fm

set_option maxRecDepth 20000 in
set_option maxHeartbeats 2000000 in
theorem sameM_any (M : Mo) (va ra vb rb : Option Addr) (vc rc vd rd : Nat) (w : World) (hm : RM w va ra M) (hn : RM w vb rb M) :
    Calls Tryd.prog 12 #[.agg #[.int .i64 M.worlds, .slice va M.val.length vc, .slice ra M.rel.length rc], .agg #[.int .i64 M.worlds, .slice vb M.val.length vd, .slice rb M.rel.length rd]] w fun e w' => e = .returned (.bool true) ∧ Ext w w' := by
  have hE0 : Ext w ((w.alloc (.cells #[.int .i64 M.worlds, .slice va M.val.length vc, .slice ra M.rel.length rc] 28)).alloc (.cells #[.int .i64 M.worlds, .slice vb M.val.length vd, .slice rb M.rel.length rd] 28)) := ((Ext.refl w).alloc _).alloc _
  have hb1 := (MoBox.new w M.worlds M.val M.rel va vc ra rc 28).ext ((Ext.refl _).alloc (.cells #[.int .i64 M.worlds, .slice vb M.val.length vd, .slice rb M.rel.length rd] 28))
  have hb2 := MoBox.new (w.alloc (.cells #[.int .i64 M.worlds, .slice va M.val.length vc, .slice ra M.rel.length rc] 28)) M.worlds M.val M.rel vb vd rb rd 28
  rw [show (w.alloc (.cells #[.int .i64 M.worlds, .slice va M.val.length vc, .slice ra M.rel.length rc] 28)).heap.size = w.heap.size + 1 by simp] at hb2
  have hm0 := hm.ext hE0
  have hn0 := hn.ext hE0
  have HE := Lib.hid hE0
  have hww : (M.worlds != M.worlds) = false := by simp
  have hrl := hm.rel.len
  clear hm hn hE0
  go_enter Tryd.func12, Tryd.ntmps12
  go_wp2_with fail
  generalize (w.alloc (.cells #[.int .i64 M.worlds, .slice va M.val.length vc, .slice ra M.rel.length rc] 28)).alloc (.cells #[.int .i64 M.worlds, .slice vb M.val.length vd, .slice rb M.rel.length rd] 28) = W0 at *
  obtain ⟨m0, m1, m2⟩ := hb1
  obtain ⟨n0, n1, n2⟩ := hb2
  dsimp only at m0 m1 m2 n0 n1 n2
  refine (r13Same_any va vb vc vd M.val M.val _ hm0.val hn0.val).mono ?_
  rintro _ w1 ⟨rfl, hQ⟩
  rw [decide_eq_true (rfl : M.val = M.val)]
  dsimp only
  have hX1 := hQ.ext
  have p0 := hX1.cell m0
  have p1 := hX1.cell m1
  have p2 := hX1.cell m2
  have q0 := hX1.cell n0
  have q1 := hX1.cell n1
  have q2 := hX1.cell n2
  have hm1 := Lib.hid (hm0.ext hX1)
  have hn1 := Lib.hid (hn0.ext hX1)
  have HX1 := Lib.hid hX1
  clear m0 m1 m2 n0 n1 n2 hQ hX1 hm0 hn0
  go_wp2_with fail
  go_loopw [5] (fun i wr => ∃ k : Nat, k ≤ M.rel.length ∧ i = .int .i64 (k : Int) ∧ Ext w1 wr) (fun i _ => M.rel.length - (intOf i).toNat)
  case atStart => exact ⟨0, Nat.zero_le _, rfl, Ext.refl _⟩
  case round =>
    obtain ⟨k, hk, rfl, hE⟩ := hrel
    have m0 := hE.cell p0
    have m1 := hE.cell p1
    have m2 := hE.cell p2
    have n0 := hE.cell q0
    have n1 := hE.cell q1
    have n2 := hE.cell q2
    by_cases hlt : k < M.rel.length
    · obtain ⟨b1, o1, a1, c1, rfl, hb1, hc1, hu1⟩ := (hm1.out.rel.ext hE).get hlt
      obtain ⟨b2, o2, a2, c2, rfl, hb2, hc2, hu2⟩ := (hn1.out.rel.ext hE).get hlt
      have hul := hu1.len
      have HD : Hid (∀ w', Ext wr w' → Calls Tryd.prog 30 #[.slice a1 (nth M.rel k).length c1, .slice a2 (nth M.rel k).length c2] w' fun e w'' => e = .returned (.bool true) ∧ Qu w' w'') := Lib.hid fun w' e => by
        have := r13Same_any a1 a2 c1 c2 (nth M.rel k) (nth M.rel k) w' (hu1.ext e) (hu2.ext e)
        rw [decide_eq_true (rfl : nth M.rel k = nth M.rel k)] at this
        exact this
      have HEr := Lib.hid hE
      clear hu1 hu2 hE p0 p1 p2 q0 q1 q2
      go_wp2_with fail
      go_quiet ((go_at_call 30; exact Calls.quiet_of (HD.out _ ((Ext.refl _).drewN _))))
      go_wp2
      go_roundw
      case rel => exact ⟨k + 1, hlt, by go_num, HEr.out.drewN _⟩
      case measure => simp [intOf]; omega
    · have HEr := Lib.hid hE
      clear hE p0 p1 p2 q0 q1 q2
      go_wp2
      go_ret
      exact ⟨rfl, HE.out.trans (HX1.out.trans HEr.out)⟩
end Wt
