/- Walks: wittingref17.One, operators 9 and 10 (printed by gen_r17c.py). -/
import Derived.Test.YtdnpgadkklgjeaaR17B
namespace Wt
open Go Go.RowKit Go.Maps Go.Proofs Fm

set_option maxRecDepth 20000 in
set_option maxHeartbeats 4000000 in
theorem r17One_9 (M : Mo) (va ra : Option Addr) (vc rc : Nat) (i e g px py : Int) (x y : BitVec 64) (w : World) (hm : RM w va ra M) (N : Nat) (ok : MoOk M N) (hi : 0 ≤ i) (hfit : i < (M.rel.length : Int)) :
    Calls Try.prog 48 #[.agg #[.int .i64 M.worlds, .slice va M.val.length vc, .slice ra M.rel.length rc], .agg #[.int .i64 9, .int .i64 i, .int .i64 e, .int .i64 g, .int .i64 px, .int .i64 py], .int .u64 (un x), .int .u64 (un y)] w fun en w' => Ret1 (valN M 9 i g x y).1 en w w' := by
  have hW := ok.worlds
  have hn1 := ok.one
  have hn64 := ok.most
  have hr4 := ok.rel
  have hv8 := ok.val
  have OK := Lib.hid ok
  have hT : M.worlds.toNat = N := by omega
  have HT := Lib.hid hT
  have HM0 := Lib.hid hm
  clear ok hT hm
  obtain ⟨W, V, R⟩ := M
  dsimp only at hW hr4 hv8 hfit
  subst hW
  obtain ⟨k, rfl⟩ := Int.eq_ofNat_of_zero_le hi
  have HN : Hid ((valN ⟨N, V, R⟩ 9 (k : Int) g x y).1 = boxTo (nth R k) x N) := by
    have hc : ¬ ((R.length : Int) ≤ (k : Int)) := by omega
    show (valN _ _ _ _ _ _).1 = _; rw [boxTo_rel (row_in OK.out (k := k) (by exact_mod_cast hfit)).1 (rel_ok (row_in OK.out (k := k) (by exact_mod_cast hfit)).1 hn64 (row_in OK.out (k := k) (by exact_mod_cast hfit)).2)]; unfold valN; simp [hc]
  have hE0 : Ext w ((w.alloc (.cells #[.int .i64 (N : Int), .slice va V.length vc, .slice ra R.length rc] 25)).alloc (.cells #[.int .i64 9, .int .i64 (k : Int), .int .i64 e, .int .i64 g, .int .i64 px, .int .i64 py] 62)) := ((Ext.refl w).alloc _).alloc _
  have hbx := (MoBox.new w (N : Int) V R va vc ra rc 25).ext ((Ext.refl _).alloc (.cells #[.int .i64 9, .int .i64 (k : Int), .int .i64 e, .int .i64 g, .int .i64 px, .int .i64 py] 62))
  have hnx : NdAt ((w.alloc (.cells #[.int .i64 (N : Int), .slice va V.length vc, .slice ra R.length rc] 25)).alloc (.cells #[.int .i64 9, .int .i64 (k : Int), .int .i64 e, .int .i64 g, .int .i64 px, .int .i64 py] 62)) (w.heap.size + 1) 0 ⟨9, (k : Int), e, g, px, py⟩ := by
    have h := NdAt.new (w.alloc (.cells #[.int .i64 (N : Int), .slice va V.length vc, .slice ra R.length rc] 25)) ⟨9, (k : Int), e, g, px, py⟩ 62
    have hs : (w.alloc (.cells #[.int .i64 (N : Int), .slice va V.length vc, .slice ra R.length rc] 25)).heap.size = w.heap.size + 1 := by simp
    rw [hs] at h; exact h
  go_enter Try.func48, Try.ntmps48
  go_wp2_with fail
  refine (r13All_any N _).mono ?_
  rintro _ _ ⟨rfl, rfl⟩
  dsimp only
  generalize ((w.alloc (.cells #[.int .i64 (N : Int), .slice va V.length vc, .slice ra R.length rc] 25)).alloc (.cells #[.int .i64 9, .int .i64 (k : Int), .int .i64 e, .int .i64 g, .int .i64 px, .int .i64 py] 62)) = W0 at *
  have HM := Lib.hid (HM0.out.ext hE0)
  have HE := Lib.hid hE0
  obtain ⟨m0, m1, m2⟩ := hbx
  obtain ⟨n0, n1, n2, n3, n4, n5⟩ := hnx
  simp only [Nat.zero_add] at n1 n2 n3 n4 n5
  dsimp only at m0 m1 m2 n0 n1 n2 n3 n4 n5
  have hwb : w.heap.size + 1 < W0.heap.size := World.block_lt_of_cell? _ _ n0
  have hkl : k < R.length := by exact_mod_cast hfit
  have hki : (0 : Int) ≤ (k : Int) := by omega
  have hrr : RR W0 ra R := HM.out.rel
  obtain ⟨b, off, a', c', rfl, hb, hc, hu⟩ := hrr.get hkl
  have hrq : (nth R k).length = N := (row_in OK.out hkl).1
  rw [hrq] at hc
  have HRU : Hid (∀ m, RU (W0.drewN m) a' (nth R k)) := fun m => hu.ext ((Ext.refl _).drewN m)
  have HLQ : Hid ((nth R k).length = N) := hrq
  have HLE : Hid (N ≤ (nth R k).length) := Nat.le_of_eq hrq.symm
  clear hu hrr hrq
  go_wp2_with fail
  go_quiet ((go_at_call 65; exact Calls.quiet_of_same ((r17BoxL a' (nth R k) c' N N x _ (HRU.out _) HLE.out hn64 HLQ.out).mono fun _ _ h => ⟨h.1, h.2.symm⟩)))
  go_wp2
  go_ret
  exact ⟨by rw [HN.out]; rfl, HE.out.drewN _⟩
set_option maxRecDepth 20000 in
set_option maxHeartbeats 4000000 in
theorem r17One_10 (M : Mo) (va ra : Option Addr) (vc rc : Nat) (i e g px py : Int) (x y : BitVec 64) (w : World) (hm : RM w va ra M) (N : Nat) (ok : MoOk M N) (hi : 0 ≤ i) (hfit : i < (M.rel.length : Int)) :
    Calls Try.prog 48 #[.agg #[.int .i64 M.worlds, .slice va M.val.length vc, .slice ra M.rel.length rc], .agg #[.int .i64 10, .int .i64 i, .int .i64 e, .int .i64 g, .int .i64 px, .int .i64 py], .int .u64 (un x), .int .u64 (un y)] w fun en w' => Ret1 (valN M 10 i g x y).1 en w w' := by
  have hW := ok.worlds
  have hn1 := ok.one
  have hn64 := ok.most
  have hr4 := ok.rel
  have hv8 := ok.val
  have OK := Lib.hid ok
  have hT : M.worlds.toNat = N := by omega
  have HT := Lib.hid hT
  have HM0 := Lib.hid hm
  clear ok hT hm
  obtain ⟨W, V, R⟩ := M
  dsimp only at hW hr4 hv8 hfit
  subst hW
  obtain ⟨k, rfl⟩ := Int.eq_ofNat_of_zero_le hi
  have HN : Hid ((valN ⟨N, V, R⟩ 10 (k : Int) g x y).1 = allW N &&& ~~~ boxTo (nth R k) (allW N &&& ~~~ x) N) := by
    have hc : ¬ ((R.length : Int) ≤ (k : Int)) := by omega
    show (valN _ _ _ _ _ _).1 = _; rw [boxTo_dia (row_in OK.out (k := k) (by exact_mod_cast hfit)).1 (rel_ok (row_in OK.out (k := k) (by exact_mod_cast hfit)).1 hn64 (row_in OK.out (k := k) (by exact_mod_cast hfit)).2) (row_in OK.out (k := k) (by exact_mod_cast hfit)).2]; unfold valN; simp [hc]
  have hE0 : Ext w ((w.alloc (.cells #[.int .i64 (N : Int), .slice va V.length vc, .slice ra R.length rc] 25)).alloc (.cells #[.int .i64 10, .int .i64 (k : Int), .int .i64 e, .int .i64 g, .int .i64 px, .int .i64 py] 62)) := ((Ext.refl w).alloc _).alloc _
  have hbx := (MoBox.new w (N : Int) V R va vc ra rc 25).ext ((Ext.refl _).alloc (.cells #[.int .i64 10, .int .i64 (k : Int), .int .i64 e, .int .i64 g, .int .i64 px, .int .i64 py] 62))
  have hnx : NdAt ((w.alloc (.cells #[.int .i64 (N : Int), .slice va V.length vc, .slice ra R.length rc] 25)).alloc (.cells #[.int .i64 10, .int .i64 (k : Int), .int .i64 e, .int .i64 g, .int .i64 px, .int .i64 py] 62)) (w.heap.size + 1) 0 ⟨10, (k : Int), e, g, px, py⟩ := by
    have h := NdAt.new (w.alloc (.cells #[.int .i64 (N : Int), .slice va V.length vc, .slice ra R.length rc] 25)) ⟨10, (k : Int), e, g, px, py⟩ 62
    have hs : (w.alloc (.cells #[.int .i64 (N : Int), .slice va V.length vc, .slice ra R.length rc] 25)).heap.size = w.heap.size + 1 := by simp
    rw [hs] at h; exact h
  go_enter Try.func48, Try.ntmps48
  go_wp2_with fail
  refine (r13All_any N _).mono ?_
  rintro _ _ ⟨rfl, rfl⟩
  dsimp only
  generalize ((w.alloc (.cells #[.int .i64 (N : Int), .slice va V.length vc, .slice ra R.length rc] 25)).alloc (.cells #[.int .i64 10, .int .i64 (k : Int), .int .i64 e, .int .i64 g, .int .i64 px, .int .i64 py] 62)) = W0 at *
  have HM := Lib.hid (HM0.out.ext hE0)
  have HE := Lib.hid hE0
  obtain ⟨m0, m1, m2⟩ := hbx
  obtain ⟨n0, n1, n2, n3, n4, n5⟩ := hnx
  simp only [Nat.zero_add] at n1 n2 n3 n4 n5
  dsimp only at m0 m1 m2 n0 n1 n2 n3 n4 n5
  have hwb : w.heap.size + 1 < W0.heap.size := World.block_lt_of_cell? _ _ n0
  have hkl : k < R.length := by exact_mod_cast hfit
  have hki : (0 : Int) ≤ (k : Int) := by omega
  have hrr : RR W0 ra R := HM.out.rel
  obtain ⟨b, off, a', c', rfl, hb, hc, hu⟩ := hrr.get hkl
  have hrq : (nth R k).length = N := (row_in OK.out hkl).1
  rw [hrq] at hc
  have HRU : Hid (∀ m, RU (W0.drewN m) a' (nth R k)) := fun m => hu.ext ((Ext.refl _).drewN m)
  have HLQ : Hid ((nth R k).length = N) := hrq
  have HLE : Hid (N ≤ (nth R k).length) := Nat.le_of_eq hrq.symm
  clear hu hrr hrq
  go_wp2_with fail
  go_quiet ((go_at_call 65; exact Calls.quiet_of_same ((r17BoxL a' (nth R k) c' N N (allW N &&& ~~~ x) _ (HRU.out _) HLE.out hn64 HLQ.out).mono fun _ _ h => ⟨h.1, h.2.symm⟩)))
  go_wp2
  go_ret
  exact ⟨by rw [HN.out]; rfl, HE.out.drewN _⟩
end Wt
