/- Walks: wittingref17.One, operators 1 to 8 (printed by gen_r17c.py). -/
import Derived.Test.YtoacdccachhjdaaGreatDoorMAEe
import Derived.Test.YtoacdccachhjdaaGreatDoorMAAl
namespace Wt
open Go Go.RowKit Go.Maps Go.Proofs Fm

set_option maxRecDepth 20000 in
set_option maxHeartbeats 4000000 in
theorem r17One_1 (M : Mo) (va ra : Option Addr) (vc rc : Nat) (i e g px py : Int) (x y : BitVec 64) (w : World) (hm : RM w va ra M) (N : Nat) (ok : MoOk M N) :
    Calls Tryz.prog 151 #[.agg #[.int .i64 M.worlds, .slice va M.val.length vc, .slice ra M.rel.length rc], .agg #[.int .i64 1, .int .i64 i, .int .i64 e, .int .i64 g, .int .i64 px, .int .i64 py], .int .u64 (un x), .int .u64 (un y)] w fun en w' => Ret1 (valN M 1 i g x y).1 en w w' := by
  have hW := ok.worlds
  have hn1 := ok.one
  have hn64 := ok.most
  have hr4 := ok.rel
  have hv8 := ok.val
  have OK := Lib.hid ok
  have hT : M.worlds.toNat = N := by omega
  have HT := Lib.hid hT
  have HM0 := Lib.hid hm
  clear ok hT hm
  obtain ⟨W, V, R⟩ := M
  dsimp only at hW hr4 hv8 
  subst hW
  have HN : Hid ((valN ⟨N, V, R⟩ 1 i g x y).1 = boolN 1 x y (allW N)) := by show (valN _ _ _ _ _ _).1 = _; unfold valN boolN; simp [HT.out]
  have hE0 : Ext w ((w.alloc (.cells #[.int .i64 (N : Int), .slice va V.length vc, .slice ra R.length rc] 28)).alloc (.cells #[.int .i64 1, .int .i64 i, .int .i64 e, .int .i64 g, .int .i64 px, .int .i64 py] 109)) := ((Ext.refl w).alloc _).alloc _
  have hbx := (MoBox.new w (N : Int) V R va vc ra rc 28).ext ((Ext.refl _).alloc (.cells #[.int .i64 1, .int .i64 i, .int .i64 e, .int .i64 g, .int .i64 px, .int .i64 py] 109))
  have hnx : NdAt ((w.alloc (.cells #[.int .i64 (N : Int), .slice va V.length vc, .slice ra R.length rc] 28)).alloc (.cells #[.int .i64 1, .int .i64 i, .int .i64 e, .int .i64 g, .int .i64 px, .int .i64 py] 109)) (w.heap.size + 1) 0 ⟨1, i, e, g, px, py⟩ := by
    have h := NdAt.new (w.alloc (.cells #[.int .i64 (N : Int), .slice va V.length vc, .slice ra R.length rc] 28)) ⟨1, i, e, g, px, py⟩ 109
    have hs : (w.alloc (.cells #[.int .i64 (N : Int), .slice va V.length vc, .slice ra R.length rc] 28)).heap.size = w.heap.size + 1 := by simp
    rw [hs] at h; exact h
  go_enter Tryz.func151, Tryz.ntmps151
  go_wp2_with fail
  refine (r13All_any N _).mono ?_
  rintro _ _ ⟨rfl, rfl⟩
  dsimp only
  generalize ((w.alloc (.cells #[.int .i64 (N : Int), .slice va V.length vc, .slice ra R.length rc] 28)).alloc (.cells #[.int .i64 1, .int .i64 i, .int .i64 e, .int .i64 g, .int .i64 px, .int .i64 py] 109)) = W0 at *
  have HM := Lib.hid (HM0.out.ext hE0)
  have HE := Lib.hid hE0
  obtain ⟨m0, m1, m2⟩ := hbx
  obtain ⟨n0, n1, n2, n3, n4, n5⟩ := hnx
  simp only [Nat.zero_add] at n1 n2 n3 n4 n5
  dsimp only at m0 m1 m2 n0 n1 n2 n3 n4 n5
  have hwb : w.heap.size + 1 < W0.heap.size := World.block_lt_of_cell? _ _ n0
  go_wp2_with (go_at_call 182; refine (r17Boolean_any 1 x y (allW N) _).mono ?_; rintro _ _ ⟨rfl, rfl⟩)
  go_ret
  exact ⟨by rw [HN.out]; rfl, HE.out⟩
set_option maxRecDepth 20000 in
set_option maxHeartbeats 4000000 in
theorem r17One_2 (M : Mo) (va ra : Option Addr) (vc rc : Nat) (i e g px py : Int) (x y : BitVec 64) (w : World) (hm : RM w va ra M) (N : Nat) (ok : MoOk M N) :
    Calls Tryz.prog 151 #[.agg #[.int .i64 M.worlds, .slice va M.val.length vc, .slice ra M.rel.length rc], .agg #[.int .i64 2, .int .i64 i, .int .i64 e, .int .i64 g, .int .i64 px, .int .i64 py], .int .u64 (un x), .int .u64 (un y)] w fun en w' => Ret1 (valN M 2 i g x y).1 en w w' := by
  have hW := ok.worlds
  have hn1 := ok.one
  have hn64 := ok.most
  have hr4 := ok.rel
  have hv8 := ok.val
  have OK := Lib.hid ok
  have hT : M.worlds.toNat = N := by omega
  have HT := Lib.hid hT
  have HM0 := Lib.hid hm
  clear ok hT hm
  obtain ⟨W, V, R⟩ := M
  dsimp only at hW hr4 hv8 
  subst hW
  have HN : Hid ((valN ⟨N, V, R⟩ 2 i g x y).1 = boolN 2 x y (allW N)) := by show (valN _ _ _ _ _ _).1 = _; unfold valN boolN; simp
  have hE0 : Ext w ((w.alloc (.cells #[.int .i64 (N : Int), .slice va V.length vc, .slice ra R.length rc] 28)).alloc (.cells #[.int .i64 2, .int .i64 i, .int .i64 e, .int .i64 g, .int .i64 px, .int .i64 py] 109)) := ((Ext.refl w).alloc _).alloc _
  have hbx := (MoBox.new w (N : Int) V R va vc ra rc 28).ext ((Ext.refl _).alloc (.cells #[.int .i64 2, .int .i64 i, .int .i64 e, .int .i64 g, .int .i64 px, .int .i64 py] 109))
  have hnx : NdAt ((w.alloc (.cells #[.int .i64 (N : Int), .slice va V.length vc, .slice ra R.length rc] 28)).alloc (.cells #[.int .i64 2, .int .i64 i, .int .i64 e, .int .i64 g, .int .i64 px, .int .i64 py] 109)) (w.heap.size + 1) 0 ⟨2, i, e, g, px, py⟩ := by
    have h := NdAt.new (w.alloc (.cells #[.int .i64 (N : Int), .slice va V.length vc, .slice ra R.length rc] 28)) ⟨2, i, e, g, px, py⟩ 109
    have hs : (w.alloc (.cells #[.int .i64 (N : Int), .slice va V.length vc, .slice ra R.length rc] 28)).heap.size = w.heap.size + 1 := by simp
    rw [hs] at h; exact h
  go_enter Tryz.func151, Tryz.ntmps151
  go_wp2_with fail
  refine (r13All_any N _).mono ?_
  rintro _ _ ⟨rfl, rfl⟩
  dsimp only
  generalize ((w.alloc (.cells #[.int .i64 (N : Int), .slice va V.length vc, .slice ra R.length rc] 28)).alloc (.cells #[.int .i64 2, .int .i64 i, .int .i64 e, .int .i64 g, .int .i64 px, .int .i64 py] 109)) = W0 at *
  have HM := Lib.hid (HM0.out.ext hE0)
  have HE := Lib.hid hE0
  obtain ⟨m0, m1, m2⟩ := hbx
  obtain ⟨n0, n1, n2, n3, n4, n5⟩ := hnx
  simp only [Nat.zero_add] at n1 n2 n3 n4 n5
  dsimp only at m0 m1 m2 n0 n1 n2 n3 n4 n5
  have hwb : w.heap.size + 1 < W0.heap.size := World.block_lt_of_cell? _ _ n0
  go_wp2_with (go_at_call 182; refine (r17Boolean_any 2 x y (allW N) _).mono ?_; rintro _ _ ⟨rfl, rfl⟩)
  go_ret
  exact ⟨by rw [HN.out]; rfl, HE.out⟩
set_option maxRecDepth 20000 in
set_option maxHeartbeats 4000000 in
theorem r17One_3 (M : Mo) (va ra : Option Addr) (vc rc : Nat) (i e g px py : Int) (x y : BitVec 64) (w : World) (hm : RM w va ra M) (N : Nat) (ok : MoOk M N) (hi : 0 ≤ i) (hfit : i < (M.val.length : Int)) :
    Calls Tryz.prog 151 #[.agg #[.int .i64 M.worlds, .slice va M.val.length vc, .slice ra M.rel.length rc], .agg #[.int .i64 3, .int .i64 i, .int .i64 e, .int .i64 g, .int .i64 px, .int .i64 py], .int .u64 (un x), .int .u64 (un y)] w fun en w' => Ret1 (valN M 3 i g x y).1 en w w' := by
  have hW := ok.worlds
  have hn1 := ok.one
  have hn64 := ok.most
  have hr4 := ok.rel
  have hv8 := ok.val
  have OK := Lib.hid ok
  have hT : M.worlds.toNat = N := by omega
  have HT := Lib.hid hT
  have HM0 := Lib.hid hm
  clear ok hT hm
  obtain ⟨W, V, R⟩ := M
  dsimp only at hW hr4 hv8 hfit
  subst hW
  obtain ⟨k, rfl⟩ := Int.eq_ofNat_of_zero_le hi
  have HN : Hid ((valN ⟨N, V, R⟩ 3 (k : Int) g x y).1 = nth V k) := by
    have hc : ¬ ((V.length : Int) ≤ (k : Int)) := by omega
    show (valN _ _ _ _ _ _).1 = _; unfold valN; simp [hc]
  have hE0 : Ext w ((w.alloc (.cells #[.int .i64 (N : Int), .slice va V.length vc, .slice ra R.length rc] 28)).alloc (.cells #[.int .i64 3, .int .i64 (k : Int), .int .i64 e, .int .i64 g, .int .i64 px, .int .i64 py] 109)) := ((Ext.refl w).alloc _).alloc _
  have hbx := (MoBox.new w (N : Int) V R va vc ra rc 28).ext ((Ext.refl _).alloc (.cells #[.int .i64 3, .int .i64 (k : Int), .int .i64 e, .int .i64 g, .int .i64 px, .int .i64 py] 109))
  have hnx : NdAt ((w.alloc (.cells #[.int .i64 (N : Int), .slice va V.length vc, .slice ra R.length rc] 28)).alloc (.cells #[.int .i64 3, .int .i64 (k : Int), .int .i64 e, .int .i64 g, .int .i64 px, .int .i64 py] 109)) (w.heap.size + 1) 0 ⟨3, (k : Int), e, g, px, py⟩ := by
    have h := NdAt.new (w.alloc (.cells #[.int .i64 (N : Int), .slice va V.length vc, .slice ra R.length rc] 28)) ⟨3, (k : Int), e, g, px, py⟩ 109
    have hs : (w.alloc (.cells #[.int .i64 (N : Int), .slice va V.length vc, .slice ra R.length rc] 28)).heap.size = w.heap.size + 1 := by simp
    rw [hs] at h; exact h
  go_enter Tryz.func151, Tryz.ntmps151
  go_wp2_with fail
  refine (r13All_any N _).mono ?_
  rintro _ _ ⟨rfl, rfl⟩
  dsimp only
  generalize ((w.alloc (.cells #[.int .i64 (N : Int), .slice va V.length vc, .slice ra R.length rc] 28)).alloc (.cells #[.int .i64 3, .int .i64 (k : Int), .int .i64 e, .int .i64 g, .int .i64 px, .int .i64 py] 109)) = W0 at *
  have HM := Lib.hid (HM0.out.ext hE0)
  have HE := Lib.hid hE0
  obtain ⟨m0, m1, m2⟩ := hbx
  obtain ⟨n0, n1, n2, n3, n4, n5⟩ := hnx
  simp only [Nat.zero_add] at n1 n2 n3 n4 n5
  dsimp only at m0 m1 m2 n0 n1 n2 n3 n4 n5
  have hwb : w.heap.size + 1 < W0.heap.size := World.block_lt_of_cell? _ _ n0
  obtain ⟨b, off, rfl, hb, hc⟩ := HM.out.val.get (k := k) (by exact_mod_cast hfit)
  have hkl : k < V.length := by exact_mod_cast hfit
  go_wp2
  go_ret
  exact ⟨by rw [HN.out]; rfl, HE.out⟩
set_option maxRecDepth 20000 in
set_option maxHeartbeats 4000000 in
theorem r17One_4 (M : Mo) (va ra : Option Addr) (vc rc : Nat) (i e g px py : Int) (x y : BitVec 64) (w : World) (hm : RM w va ra M) (N : Nat) (ok : MoOk M N) :
    Calls Tryz.prog 151 #[.agg #[.int .i64 M.worlds, .slice va M.val.length vc, .slice ra M.rel.length rc], .agg #[.int .i64 4, .int .i64 i, .int .i64 e, .int .i64 g, .int .i64 px, .int .i64 py], .int .u64 (un x), .int .u64 (un y)] w fun en w' => Ret1 (valN M 4 i g x y).1 en w w' := by
  have hW := ok.worlds
  have hn1 := ok.one
  have hn64 := ok.most
  have hr4 := ok.rel
  have hv8 := ok.val
  have OK := Lib.hid ok
  have hT : M.worlds.toNat = N := by omega
  have HT := Lib.hid hT
  have HM0 := Lib.hid hm
  clear ok hT hm
  obtain ⟨W, V, R⟩ := M
  dsimp only at hW hr4 hv8 
  subst hW
  have HN : Hid ((valN ⟨N, V, R⟩ 4 i g x y).1 = boolN 4 x y (allW N)) := by show (valN _ _ _ _ _ _).1 = _; unfold valN boolN; simp [HT.out]
  have hE0 : Ext w ((w.alloc (.cells #[.int .i64 (N : Int), .slice va V.length vc, .slice ra R.length rc] 28)).alloc (.cells #[.int .i64 4, .int .i64 i, .int .i64 e, .int .i64 g, .int .i64 px, .int .i64 py] 109)) := ((Ext.refl w).alloc _).alloc _
  have hbx := (MoBox.new w (N : Int) V R va vc ra rc 28).ext ((Ext.refl _).alloc (.cells #[.int .i64 4, .int .i64 i, .int .i64 e, .int .i64 g, .int .i64 px, .int .i64 py] 109))
  have hnx : NdAt ((w.alloc (.cells #[.int .i64 (N : Int), .slice va V.length vc, .slice ra R.length rc] 28)).alloc (.cells #[.int .i64 4, .int .i64 i, .int .i64 e, .int .i64 g, .int .i64 px, .int .i64 py] 109)) (w.heap.size + 1) 0 ⟨4, i, e, g, px, py⟩ := by
    have h := NdAt.new (w.alloc (.cells #[.int .i64 (N : Int), .slice va V.length vc, .slice ra R.length rc] 28)) ⟨4, i, e, g, px, py⟩ 109
    have hs : (w.alloc (.cells #[.int .i64 (N : Int), .slice va V.length vc, .slice ra R.length rc] 28)).heap.size = w.heap.size + 1 := by simp
    rw [hs] at h; exact h
  go_enter Tryz.func151, Tryz.ntmps151
  go_wp2_with fail
  refine (r13All_any N _).mono ?_
  rintro _ _ ⟨rfl, rfl⟩
  dsimp only
  generalize ((w.alloc (.cells #[.int .i64 (N : Int), .slice va V.length vc, .slice ra R.length rc] 28)).alloc (.cells #[.int .i64 4, .int .i64 i, .int .i64 e, .int .i64 g, .int .i64 px, .int .i64 py] 109)) = W0 at *
  have HM := Lib.hid (HM0.out.ext hE0)
  have HE := Lib.hid hE0
  obtain ⟨m0, m1, m2⟩ := hbx
  obtain ⟨n0, n1, n2, n3, n4, n5⟩ := hnx
  simp only [Nat.zero_add] at n1 n2 n3 n4 n5
  dsimp only at m0 m1 m2 n0 n1 n2 n3 n4 n5
  have hwb : w.heap.size + 1 < W0.heap.size := World.block_lt_of_cell? _ _ n0
  go_wp2_with (go_at_call 182; refine (r17Boolean_any 4 x y (allW N) _).mono ?_; rintro _ _ ⟨rfl, rfl⟩)
  go_ret
  exact ⟨by rw [HN.out]; rfl, HE.out⟩
set_option maxRecDepth 20000 in
set_option maxHeartbeats 4000000 in
theorem r17One_5 (M : Mo) (va ra : Option Addr) (vc rc : Nat) (i e g px py : Int) (x y : BitVec 64) (w : World) (hm : RM w va ra M) (N : Nat) (ok : MoOk M N) :
    Calls Tryz.prog 151 #[.agg #[.int .i64 M.worlds, .slice va M.val.length vc, .slice ra M.rel.length rc], .agg #[.int .i64 5, .int .i64 i, .int .i64 e, .int .i64 g, .int .i64 px, .int .i64 py], .int .u64 (un x), .int .u64 (un y)] w fun en w' => Ret1 (valN M 5 i g x y).1 en w w' := by
  have hW := ok.worlds
  have hn1 := ok.one
  have hn64 := ok.most
  have hr4 := ok.rel
  have hv8 := ok.val
  have OK := Lib.hid ok
  have hT : M.worlds.toNat = N := by omega
  have HT := Lib.hid hT
  have HM0 := Lib.hid hm
  clear ok hT hm
  obtain ⟨W, V, R⟩ := M
  dsimp only at hW hr4 hv8 
  subst hW
  have HN : Hid ((valN ⟨N, V, R⟩ 5 i g x y).1 = boolN 5 x y (allW N)) := by show (valN _ _ _ _ _ _).1 = _; unfold valN boolN; simp
  have hE0 : Ext w ((w.alloc (.cells #[.int .i64 (N : Int), .slice va V.length vc, .slice ra R.length rc] 28)).alloc (.cells #[.int .i64 5, .int .i64 i, .int .i64 e, .int .i64 g, .int .i64 px, .int .i64 py] 109)) := ((Ext.refl w).alloc _).alloc _
  have hbx := (MoBox.new w (N : Int) V R va vc ra rc 28).ext ((Ext.refl _).alloc (.cells #[.int .i64 5, .int .i64 i, .int .i64 e, .int .i64 g, .int .i64 px, .int .i64 py] 109))
  have hnx : NdAt ((w.alloc (.cells #[.int .i64 (N : Int), .slice va V.length vc, .slice ra R.length rc] 28)).alloc (.cells #[.int .i64 5, .int .i64 i, .int .i64 e, .int .i64 g, .int .i64 px, .int .i64 py] 109)) (w.heap.size + 1) 0 ⟨5, i, e, g, px, py⟩ := by
    have h := NdAt.new (w.alloc (.cells #[.int .i64 (N : Int), .slice va V.length vc, .slice ra R.length rc] 28)) ⟨5, i, e, g, px, py⟩ 109
    have hs : (w.alloc (.cells #[.int .i64 (N : Int), .slice va V.length vc, .slice ra R.length rc] 28)).heap.size = w.heap.size + 1 := by simp
    rw [hs] at h; exact h
  go_enter Tryz.func151, Tryz.ntmps151
  go_wp2_with fail
  refine (r13All_any N _).mono ?_
  rintro _ _ ⟨rfl, rfl⟩
  dsimp only
  generalize ((w.alloc (.cells #[.int .i64 (N : Int), .slice va V.length vc, .slice ra R.length rc] 28)).alloc (.cells #[.int .i64 5, .int .i64 i, .int .i64 e, .int .i64 g, .int .i64 px, .int .i64 py] 109)) = W0 at *
  have HM := Lib.hid (HM0.out.ext hE0)
  have HE := Lib.hid hE0
  obtain ⟨m0, m1, m2⟩ := hbx
  obtain ⟨n0, n1, n2, n3, n4, n5⟩ := hnx
  simp only [Nat.zero_add] at n1 n2 n3 n4 n5
  dsimp only at m0 m1 m2 n0 n1 n2 n3 n4 n5
  have hwb : w.heap.size + 1 < W0.heap.size := World.block_lt_of_cell? _ _ n0
  go_wp2_with (go_at_call 182; refine (r17Boolean_any 5 x y (allW N) _).mono ?_; rintro _ _ ⟨rfl, rfl⟩)
  go_ret
  exact ⟨by rw [HN.out]; rfl, HE.out⟩
set_option maxRecDepth 20000 in
set_option maxHeartbeats 4000000 in
theorem r17One_6 (M : Mo) (va ra : Option Addr) (vc rc : Nat) (i e g px py : Int) (x y : BitVec 64) (w : World) (hm : RM w va ra M) (N : Nat) (ok : MoOk M N) :
    Calls Tryz.prog 151 #[.agg #[.int .i64 M.worlds, .slice va M.val.length vc, .slice ra M.rel.length rc], .agg #[.int .i64 6, .int .i64 i, .int .i64 e, .int .i64 g, .int .i64 px, .int .i64 py], .int .u64 (un x), .int .u64 (un y)] w fun en w' => Ret1 (valN M 6 i g x y).1 en w w' := by
  have hW := ok.worlds
  have hn1 := ok.one
  have hn64 := ok.most
  have hr4 := ok.rel
  have hv8 := ok.val
  have OK := Lib.hid ok
  have hT : M.worlds.toNat = N := by omega
  have HT := Lib.hid hT
  have HM0 := Lib.hid hm
  clear ok hT hm
  obtain ⟨W, V, R⟩ := M
  dsimp only at hW hr4 hv8 
  subst hW
  have HN : Hid ((valN ⟨N, V, R⟩ 6 i g x y).1 = boolN 6 x y (allW N)) := by show (valN _ _ _ _ _ _).1 = _; unfold valN boolN; simp
  have hE0 : Ext w ((w.alloc (.cells #[.int .i64 (N : Int), .slice va V.length vc, .slice ra R.length rc] 28)).alloc (.cells #[.int .i64 6, .int .i64 i, .int .i64 e, .int .i64 g, .int .i64 px, .int .i64 py] 109)) := ((Ext.refl w).alloc _).alloc _
  have hbx := (MoBox.new w (N : Int) V R va vc ra rc 28).ext ((Ext.refl _).alloc (.cells #[.int .i64 6, .int .i64 i, .int .i64 e, .int .i64 g, .int .i64 px, .int .i64 py] 109))
  have hnx : NdAt ((w.alloc (.cells #[.int .i64 (N : Int), .slice va V.length vc, .slice ra R.length rc] 28)).alloc (.cells #[.int .i64 6, .int .i64 i, .int .i64 e, .int .i64 g, .int .i64 px, .int .i64 py] 109)) (w.heap.size + 1) 0 ⟨6, i, e, g, px, py⟩ := by
    have h := NdAt.new (w.alloc (.cells #[.int .i64 (N : Int), .slice va V.length vc, .slice ra R.length rc] 28)) ⟨6, i, e, g, px, py⟩ 109
    have hs : (w.alloc (.cells #[.int .i64 (N : Int), .slice va V.length vc, .slice ra R.length rc] 28)).heap.size = w.heap.size + 1 := by simp
    rw [hs] at h; exact h
  go_enter Tryz.func151, Tryz.ntmps151
  go_wp2_with fail
  refine (r13All_any N _).mono ?_
  rintro _ _ ⟨rfl, rfl⟩
  dsimp only
  generalize ((w.alloc (.cells #[.int .i64 (N : Int), .slice va V.length vc, .slice ra R.length rc] 28)).alloc (.cells #[.int .i64 6, .int .i64 i, .int .i64 e, .int .i64 g, .int .i64 px, .int .i64 py] 109)) = W0 at *
  have HM := Lib.hid (HM0.out.ext hE0)
  have HE := Lib.hid hE0
  obtain ⟨m0, m1, m2⟩ := hbx
  obtain ⟨n0, n1, n2, n3, n4, n5⟩ := hnx
  simp only [Nat.zero_add] at n1 n2 n3 n4 n5
  dsimp only at m0 m1 m2 n0 n1 n2 n3 n4 n5
  have hwb : w.heap.size + 1 < W0.heap.size := World.block_lt_of_cell? _ _ n0
  go_wp2_with (go_at_call 182; refine (r17Boolean_any 6 x y (allW N) _).mono ?_; rintro _ _ ⟨rfl, rfl⟩)
  go_ret
  exact ⟨by rw [HN.out]; rfl, HE.out⟩
set_option maxRecDepth 20000 in
set_option maxHeartbeats 4000000 in
theorem r17One_7 (M : Mo) (va ra : Option Addr) (vc rc : Nat) (i e g px py : Int) (x y : BitVec 64) (w : World) (hm : RM w va ra M) (N : Nat) (ok : MoOk M N) :
    Calls Tryz.prog 151 #[.agg #[.int .i64 M.worlds, .slice va M.val.length vc, .slice ra M.rel.length rc], .agg #[.int .i64 7, .int .i64 i, .int .i64 e, .int .i64 g, .int .i64 px, .int .i64 py], .int .u64 (un x), .int .u64 (un y)] w fun en w' => Ret1 (valN M 7 i g x y).1 en w w' := by
  have hW := ok.worlds
  have hn1 := ok.one
  have hn64 := ok.most
  have hr4 := ok.rel
  have hv8 := ok.val
  have OK := Lib.hid ok
  have hT : M.worlds.toNat = N := by omega
  have HT := Lib.hid hT
  have HM0 := Lib.hid hm
  clear ok hT hm
  obtain ⟨W, V, R⟩ := M
  dsimp only at hW hr4 hv8 
  subst hW
  have HN : Hid ((valN ⟨N, V, R⟩ 7 i g x y).1 = boolN 7 x y (allW N)) := by show (valN _ _ _ _ _ _).1 = _; unfold valN boolN; simp [HT.out]
  have hE0 : Ext w ((w.alloc (.cells #[.int .i64 (N : Int), .slice va V.length vc, .slice ra R.length rc] 28)).alloc (.cells #[.int .i64 7, .int .i64 i, .int .i64 e, .int .i64 g, .int .i64 px, .int .i64 py] 109)) := ((Ext.refl w).alloc _).alloc _
  have hbx := (MoBox.new w (N : Int) V R va vc ra rc 28).ext ((Ext.refl _).alloc (.cells #[.int .i64 7, .int .i64 i, .int .i64 e, .int .i64 g, .int .i64 px, .int .i64 py] 109))
  have hnx : NdAt ((w.alloc (.cells #[.int .i64 (N : Int), .slice va V.length vc, .slice ra R.length rc] 28)).alloc (.cells #[.int .i64 7, .int .i64 i, .int .i64 e, .int .i64 g, .int .i64 px, .int .i64 py] 109)) (w.heap.size + 1) 0 ⟨7, i, e, g, px, py⟩ := by
    have h := NdAt.new (w.alloc (.cells #[.int .i64 (N : Int), .slice va V.length vc, .slice ra R.length rc] 28)) ⟨7, i, e, g, px, py⟩ 109
    have hs : (w.alloc (.cells #[.int .i64 (N : Int), .slice va V.length vc, .slice ra R.length rc] 28)).heap.size = w.heap.size + 1 := by simp
    rw [hs] at h; exact h
  go_enter Tryz.func151, Tryz.ntmps151
  go_wp2_with fail
  refine (r13All_any N _).mono ?_
  rintro _ _ ⟨rfl, rfl⟩
  dsimp only
  generalize ((w.alloc (.cells #[.int .i64 (N : Int), .slice va V.length vc, .slice ra R.length rc] 28)).alloc (.cells #[.int .i64 7, .int .i64 i, .int .i64 e, .int .i64 g, .int .i64 px, .int .i64 py] 109)) = W0 at *
  have HM := Lib.hid (HM0.out.ext hE0)
  have HE := Lib.hid hE0
  obtain ⟨m0, m1, m2⟩ := hbx
  obtain ⟨n0, n1, n2, n3, n4, n5⟩ := hnx
  simp only [Nat.zero_add] at n1 n2 n3 n4 n5
  dsimp only at m0 m1 m2 n0 n1 n2 n3 n4 n5
  have hwb : w.heap.size + 1 < W0.heap.size := World.block_lt_of_cell? _ _ n0
  go_wp2_with (go_at_call 182; refine (r17Boolean_any 7 x y (allW N) _).mono ?_; rintro _ _ ⟨rfl, rfl⟩)
  go_ret
  exact ⟨by rw [HN.out]; rfl, HE.out⟩
set_option maxRecDepth 20000 in
set_option maxHeartbeats 4000000 in
theorem r17One_8 (M : Mo) (va ra : Option Addr) (vc rc : Nat) (i e g px py : Int) (x y : BitVec 64) (w : World) (hm : RM w va ra M) (N : Nat) (ok : MoOk M N) :
    Calls Tryz.prog 151 #[.agg #[.int .i64 M.worlds, .slice va M.val.length vc, .slice ra M.rel.length rc], .agg #[.int .i64 8, .int .i64 i, .int .i64 e, .int .i64 g, .int .i64 px, .int .i64 py], .int .u64 (un x), .int .u64 (un y)] w fun en w' => Ret1 (valN M 8 i g x y).1 en w w' := by
  have hW := ok.worlds
  have hn1 := ok.one
  have hn64 := ok.most
  have hr4 := ok.rel
  have hv8 := ok.val
  have OK := Lib.hid ok
  have hT : M.worlds.toNat = N := by omega
  have HT := Lib.hid hT
  have HM0 := Lib.hid hm
  clear ok hT hm
  obtain ⟨W, V, R⟩ := M
  dsimp only at hW hr4 hv8 
  subst hW
  have HN : Hid ((valN ⟨N, V, R⟩ 8 i g x y).1 = boolN 8 x y (allW N)) := by show (valN _ _ _ _ _ _).1 = _; unfold valN boolN; simp [HT.out]
  have hE0 : Ext w ((w.alloc (.cells #[.int .i64 (N : Int), .slice va V.length vc, .slice ra R.length rc] 28)).alloc (.cells #[.int .i64 8, .int .i64 i, .int .i64 e, .int .i64 g, .int .i64 px, .int .i64 py] 109)) := ((Ext.refl w).alloc _).alloc _
  have hbx := (MoBox.new w (N : Int) V R va vc ra rc 28).ext ((Ext.refl _).alloc (.cells #[.int .i64 8, .int .i64 i, .int .i64 e, .int .i64 g, .int .i64 px, .int .i64 py] 109))
  have hnx : NdAt ((w.alloc (.cells #[.int .i64 (N : Int), .slice va V.length vc, .slice ra R.length rc] 28)).alloc (.cells #[.int .i64 8, .int .i64 i, .int .i64 e, .int .i64 g, .int .i64 px, .int .i64 py] 109)) (w.heap.size + 1) 0 ⟨8, i, e, g, px, py⟩ := by
    have h := NdAt.new (w.alloc (.cells #[.int .i64 (N : Int), .slice va V.length vc, .slice ra R.length rc] 28)) ⟨8, i, e, g, px, py⟩ 109
    have hs : (w.alloc (.cells #[.int .i64 (N : Int), .slice va V.length vc, .slice ra R.length rc] 28)).heap.size = w.heap.size + 1 := by simp
    rw [hs] at h; exact h
  go_enter Tryz.func151, Tryz.ntmps151
  go_wp2_with fail
  refine (r13All_any N _).mono ?_
  rintro _ _ ⟨rfl, rfl⟩
  dsimp only
  generalize ((w.alloc (.cells #[.int .i64 (N : Int), .slice va V.length vc, .slice ra R.length rc] 28)).alloc (.cells #[.int .i64 8, .int .i64 i, .int .i64 e, .int .i64 g, .int .i64 px, .int .i64 py] 109)) = W0 at *
  have HM := Lib.hid (HM0.out.ext hE0)
  have HE := Lib.hid hE0
  obtain ⟨m0, m1, m2⟩ := hbx
  obtain ⟨n0, n1, n2, n3, n4, n5⟩ := hnx
  simp only [Nat.zero_add] at n1 n2 n3 n4 n5
  dsimp only at m0 m1 m2 n0 n1 n2 n3 n4 n5
  have hwb : w.heap.size + 1 < W0.heap.size := World.block_lt_of_cell? _ _ n0
  go_wp2_with (go_at_call 182; refine (r17Boolean_any 8 x y (allW N) _).mono ?_; rintro _ _ ⟨rfl, rfl⟩)
  go_ret
  exact ⟨by rw [HN.out]; rfl, HE.out⟩
end Wt

/- Walks: wittingref17.One, operators 9 and 10 (printed by gen_r17c.py). -/
namespace Wt
open Go Go.RowKit Go.Maps Go.Proofs Fm

set_option maxRecDepth 20000 in
set_option maxHeartbeats 4000000 in
theorem r17One_9 (M : Mo) (va ra : Option Addr) (vc rc : Nat) (i e g px py : Int) (x y : BitVec 64) (w : World) (hm : RM w va ra M) (N : Nat) (ok : MoOk M N) (hi : 0 ≤ i) (hfit : i < (M.rel.length : Int)) :
    Calls Tryz.prog 151 #[.agg #[.int .i64 M.worlds, .slice va M.val.length vc, .slice ra M.rel.length rc], .agg #[.int .i64 9, .int .i64 i, .int .i64 e, .int .i64 g, .int .i64 px, .int .i64 py], .int .u64 (un x), .int .u64 (un y)] w fun en w' => Ret1 (valN M 9 i g x y).1 en w w' := by
  have hW := ok.worlds
  have hn1 := ok.one
  have hn64 := ok.most
  have hr4 := ok.rel
  have hv8 := ok.val
  have OK := Lib.hid ok
  have hT : M.worlds.toNat = N := by omega
  have HT := Lib.hid hT
  have HM0 := Lib.hid hm
  clear ok hT hm
  obtain ⟨W, V, R⟩ := M
  dsimp only at hW hr4 hv8 hfit
  subst hW
  obtain ⟨k, rfl⟩ := Int.eq_ofNat_of_zero_le hi
  have HN : Hid ((valN ⟨N, V, R⟩ 9 (k : Int) g x y).1 = boxTo (nth R k) x N) := by
    have hc : ¬ ((R.length : Int) ≤ (k : Int)) := by omega
    show (valN _ _ _ _ _ _).1 = _; rw [boxTo_rel (row_in OK.out (k := k) (by exact_mod_cast hfit)).1 (rel_ok (row_in OK.out (k := k) (by exact_mod_cast hfit)).1 hn64 (row_in OK.out (k := k) (by exact_mod_cast hfit)).2)]; unfold valN; simp [hc]
  have hE0 : Ext w ((w.alloc (.cells #[.int .i64 (N : Int), .slice va V.length vc, .slice ra R.length rc] 28)).alloc (.cells #[.int .i64 9, .int .i64 (k : Int), .int .i64 e, .int .i64 g, .int .i64 px, .int .i64 py] 109)) := ((Ext.refl w).alloc _).alloc _
  have hbx := (MoBox.new w (N : Int) V R va vc ra rc 28).ext ((Ext.refl _).alloc (.cells #[.int .i64 9, .int .i64 (k : Int), .int .i64 e, .int .i64 g, .int .i64 px, .int .i64 py] 109))
  have hnx : NdAt ((w.alloc (.cells #[.int .i64 (N : Int), .slice va V.length vc, .slice ra R.length rc] 28)).alloc (.cells #[.int .i64 9, .int .i64 (k : Int), .int .i64 e, .int .i64 g, .int .i64 px, .int .i64 py] 109)) (w.heap.size + 1) 0 ⟨9, (k : Int), e, g, px, py⟩ := by
    have h := NdAt.new (w.alloc (.cells #[.int .i64 (N : Int), .slice va V.length vc, .slice ra R.length rc] 28)) ⟨9, (k : Int), e, g, px, py⟩ 109
    have hs : (w.alloc (.cells #[.int .i64 (N : Int), .slice va V.length vc, .slice ra R.length rc] 28)).heap.size = w.heap.size + 1 := by simp
    rw [hs] at h; exact h
  go_enter Tryz.func151, Tryz.ntmps151
  go_wp2_with fail
  refine (r13All_any N _).mono ?_
  rintro _ _ ⟨rfl, rfl⟩
  dsimp only
  generalize ((w.alloc (.cells #[.int .i64 (N : Int), .slice va V.length vc, .slice ra R.length rc] 28)).alloc (.cells #[.int .i64 9, .int .i64 (k : Int), .int .i64 e, .int .i64 g, .int .i64 px, .int .i64 py] 109)) = W0 at *
  have HM := Lib.hid (HM0.out.ext hE0)
  have HE := Lib.hid hE0
  obtain ⟨m0, m1, m2⟩ := hbx
  obtain ⟨n0, n1, n2, n3, n4, n5⟩ := hnx
  simp only [Nat.zero_add] at n1 n2 n3 n4 n5
  dsimp only at m0 m1 m2 n0 n1 n2 n3 n4 n5
  have hwb : w.heap.size + 1 < W0.heap.size := World.block_lt_of_cell? _ _ n0
  have hkl : k < R.length := by exact_mod_cast hfit
  have hki : (0 : Int) ≤ (k : Int) := by omega
  have hrr : RR W0 ra R := HM.out.rel
  obtain ⟨b, off, a', c', rfl, hb, hc, hu⟩ := hrr.get hkl
  have hrq : (nth R k).length = N := (row_in OK.out hkl).1
  rw [hrq] at hc
  have HRU : Hid (∀ m, RU (W0.drewN m) a' (nth R k)) := fun m => hu.ext ((Ext.refl _).drewN m)
  have HLQ : Hid ((nth R k).length = N) := hrq
  have HLE : Hid (N ≤ (nth R k).length) := Nat.le_of_eq hrq.symm
  clear hu hrr hrq
  go_wp2_with fail
  go_quiet ((go_at_call 183; exact Calls.quiet_of_same ((r17BoxL a' (nth R k) c' N N x _ (HRU.out _) HLE.out hn64 HLQ.out).mono fun _ _ h => ⟨h.1, h.2.symm⟩)))
  go_wp2
  go_ret
  exact ⟨by rw [HN.out]; rfl, HE.out.drewN _⟩
set_option maxRecDepth 20000 in
set_option maxHeartbeats 4000000 in
theorem r17One_10 (M : Mo) (va ra : Option Addr) (vc rc : Nat) (i e g px py : Int) (x y : BitVec 64) (w : World) (hm : RM w va ra M) (N : Nat) (ok : MoOk M N) (hi : 0 ≤ i) (hfit : i < (M.rel.length : Int)) :
    Calls Tryz.prog 151 #[.agg #[.int .i64 M.worlds, .slice va M.val.length vc, .slice ra M.rel.length rc], .agg #[.int .i64 10, .int .i64 i, .int .i64 e, .int .i64 g, .int .i64 px, .int .i64 py], .int .u64 (un x), .int .u64 (un y)] w fun en w' => Ret1 (valN M 10 i g x y).1 en w w' := by
  have hW := ok.worlds
  have hn1 := ok.one
  have hn64 := ok.most
  have hr4 := ok.rel
  have hv8 := ok.val
  have OK := Lib.hid ok
  have hT : M.worlds.toNat = N := by omega
  have HT := Lib.hid hT
  have HM0 := Lib.hid hm
  clear ok hT hm
  obtain ⟨W, V, R⟩ := M
  dsimp only at hW hr4 hv8 hfit
  subst hW
  obtain ⟨k, rfl⟩ := Int.eq_ofNat_of_zero_le hi
  have HN : Hid ((valN ⟨N, V, R⟩ 10 (k : Int) g x y).1 = allW N &&& ~~~ boxTo (nth R k) (allW N &&& ~~~ x) N) := by
    have hc : ¬ ((R.length : Int) ≤ (k : Int)) := by omega
    show (valN _ _ _ _ _ _).1 = _; rw [boxTo_dia (row_in OK.out (k := k) (by exact_mod_cast hfit)).1 (rel_ok (row_in OK.out (k := k) (by exact_mod_cast hfit)).1 hn64 (row_in OK.out (k := k) (by exact_mod_cast hfit)).2) (row_in OK.out (k := k) (by exact_mod_cast hfit)).2]; unfold valN; simp [hc]
  have hE0 : Ext w ((w.alloc (.cells #[.int .i64 (N : Int), .slice va V.length vc, .slice ra R.length rc] 28)).alloc (.cells #[.int .i64 10, .int .i64 (k : Int), .int .i64 e, .int .i64 g, .int .i64 px, .int .i64 py] 109)) := ((Ext.refl w).alloc _).alloc _
  have hbx := (MoBox.new w (N : Int) V R va vc ra rc 28).ext ((Ext.refl _).alloc (.cells #[.int .i64 10, .int .i64 (k : Int), .int .i64 e, .int .i64 g, .int .i64 px, .int .i64 py] 109))
  have hnx : NdAt ((w.alloc (.cells #[.int .i64 (N : Int), .slice va V.length vc, .slice ra R.length rc] 28)).alloc (.cells #[.int .i64 10, .int .i64 (k : Int), .int .i64 e, .int .i64 g, .int .i64 px, .int .i64 py] 109)) (w.heap.size + 1) 0 ⟨10, (k : Int), e, g, px, py⟩ := by
    have h := NdAt.new (w.alloc (.cells #[.int .i64 (N : Int), .slice va V.length vc, .slice ra R.length rc] 28)) ⟨10, (k : Int), e, g, px, py⟩ 109
    have hs : (w.alloc (.cells #[.int .i64 (N : Int), .slice va V.length vc, .slice ra R.length rc] 28)).heap.size = w.heap.size + 1 := by simp
    rw [hs] at h; exact h
  go_enter Tryz.func151, Tryz.ntmps151
  go_wp2_with fail
  refine (r13All_any N _).mono ?_
  rintro _ _ ⟨rfl, rfl⟩
  dsimp only
  generalize ((w.alloc (.cells #[.int .i64 (N : Int), .slice va V.length vc, .slice ra R.length rc] 28)).alloc (.cells #[.int .i64 10, .int .i64 (k : Int), .int .i64 e, .int .i64 g, .int .i64 px, .int .i64 py] 109)) = W0 at *
  have HM := Lib.hid (HM0.out.ext hE0)
  have HE := Lib.hid hE0
  obtain ⟨m0, m1, m2⟩ := hbx
  obtain ⟨n0, n1, n2, n3, n4, n5⟩ := hnx
  simp only [Nat.zero_add] at n1 n2 n3 n4 n5
  dsimp only at m0 m1 m2 n0 n1 n2 n3 n4 n5
  have hwb : w.heap.size + 1 < W0.heap.size := World.block_lt_of_cell? _ _ n0
  have hkl : k < R.length := by exact_mod_cast hfit
  have hki : (0 : Int) ≤ (k : Int) := by omega
  have hrr : RR W0 ra R := HM.out.rel
  obtain ⟨b, off, a', c', rfl, hb, hc, hu⟩ := hrr.get hkl
  have hrq : (nth R k).length = N := (row_in OK.out hkl).1
  rw [hrq] at hc
  have HRU : Hid (∀ m, RU (W0.drewN m) a' (nth R k)) := fun m => hu.ext ((Ext.refl _).drewN m)
  have HLQ : Hid ((nth R k).length = N) := hrq
  have HLE : Hid (N ≤ (nth R k).length) := Nat.le_of_eq hrq.symm
  clear hu hrr hrq
  go_wp2_with fail
  go_quiet ((go_at_call 183; exact Calls.quiet_of_same ((r17BoxL a' (nth R k) c' N N (allW N &&& ~~~ x) _ (HRU.out _) HLE.out hn64 HLQ.out).mono fun _ _ h => ⟨h.1, h.2.symm⟩)))
  go_wp2
  go_ret
  exact ⟨by rw [HN.out]; rfl, HE.out.drewN _⟩
end Wt

/- Walks: wittingref17.One, operators 11 to 13 (printed by gen_r17c.py). -/
namespace Wt
open Go Go.RowKit Go.Maps Go.Proofs Fm

set_option maxRecDepth 20000 in
set_option maxHeartbeats 4000000 in
theorem r17One_11 (M : Mo) (va ra : Option Addr) (vc rc : Nat) (i e g px py : Int) (x y : BitVec 64) (w : World) (hm : RM w va ra M) (N : Nat) (ok : MoOk M N) (hg : 1 ≤ g) (hfit : g < p2 M.rel.length) :
    Calls Tryz.prog 151 #[.agg #[.int .i64 M.worlds, .slice va M.val.length vc, .slice ra M.rel.length rc], .agg #[.int .i64 11, .int .i64 i, .int .i64 e, .int .i64 g, .int .i64 px, .int .i64 py], .int .u64 (un x), .int .u64 (un y)] w fun en w' => Ret1 (valN M 11 i g x y).1 en w w' := by
  have hW := ok.worlds
  have hn1 := ok.one
  have hn64 := ok.most
  have hr4 := ok.rel
  have hv8 := ok.val
  have OK := Lib.hid ok
  have hT : M.worlds.toNat = N := by omega
  have HT := Lib.hid hT
  have HM0 := Lib.hid hm
  clear ok hT hm
  obtain ⟨W, V, R⟩ := M
  dsimp only at hW hr4 hv8 hfit
  subst hW
  obtain ⟨k, rfl⟩ := Int.eq_ofNat_of_zero_le (show 0 ≤ g by omega)
  have HN : Hid ((valN ⟨N, V, R⟩ 11 i (k : Int) x y).1 = boxTo (groupOf ⟨N, V, R⟩ k) x N) := by
    have hc : ¬ (p2 R.length ≤ (k : Int)) := by omega
    show (valN _ _ _ _ _ _).1 = _; rw [boxTo_rel (group_in OK.out (by omega) hfit).1 (rel_ok (group_in OK.out (by omega) hfit).1 hn64 (group_in OK.out (by omega) hfit).2)]; unfold valN; simp [hc]
  have hE0 : Ext w ((w.alloc (.cells #[.int .i64 (N : Int), .slice va V.length vc, .slice ra R.length rc] 28)).alloc (.cells #[.int .i64 11, .int .i64 i, .int .i64 e, .int .i64 (k : Int), .int .i64 px, .int .i64 py] 109)) := ((Ext.refl w).alloc _).alloc _
  have hbx := (MoBox.new w (N : Int) V R va vc ra rc 28).ext ((Ext.refl _).alloc (.cells #[.int .i64 11, .int .i64 i, .int .i64 e, .int .i64 (k : Int), .int .i64 px, .int .i64 py] 109))
  have hnx : NdAt ((w.alloc (.cells #[.int .i64 (N : Int), .slice va V.length vc, .slice ra R.length rc] 28)).alloc (.cells #[.int .i64 11, .int .i64 i, .int .i64 e, .int .i64 (k : Int), .int .i64 px, .int .i64 py] 109)) (w.heap.size + 1) 0 ⟨11, i, e, (k : Int), px, py⟩ := by
    have h := NdAt.new (w.alloc (.cells #[.int .i64 (N : Int), .slice va V.length vc, .slice ra R.length rc] 28)) ⟨11, i, e, (k : Int), px, py⟩ 109
    have hs : (w.alloc (.cells #[.int .i64 (N : Int), .slice va V.length vc, .slice ra R.length rc] 28)).heap.size = w.heap.size + 1 := by simp
    rw [hs] at h; exact h
  go_enter Tryz.func151, Tryz.ntmps151
  go_wp2_with fail
  refine (r13All_any N _).mono ?_
  rintro _ _ ⟨rfl, rfl⟩
  dsimp only
  generalize ((w.alloc (.cells #[.int .i64 (N : Int), .slice va V.length vc, .slice ra R.length rc] 28)).alloc (.cells #[.int .i64 11, .int .i64 i, .int .i64 e, .int .i64 (k : Int), .int .i64 px, .int .i64 py] 109)) = W0 at *
  have HM := Lib.hid (HM0.out.ext hE0)
  have HE := Lib.hid hE0
  obtain ⟨m0, m1, m2⟩ := hbx
  obtain ⟨n0, n1, n2, n3, n4, n5⟩ := hnx
  simp only [Nat.zero_add] at n1 n2 n3 n4 n5
  dsimp only at m0 m1 m2 n0 n1 n2 n3 n4 n5
  have hwb : w.heap.size + 1 < W0.heap.size := World.block_lt_of_cell? _ _ n0
  have HGL : Hid (N ≤ (groupOf ⟨N, V, R⟩ k).length) := by show N ≤ _; rw [(group_in OK.out (by omega) hfit).1]; exact Nat.le_refl _
  have HG1 := Lib.hid (r13Group_any ⟨N, V, R⟩ va ra vc rc k N W0.drew (HM.out.ext ((Ext.refl _).drew)) OK.out (by omega) hfit)
  have HKP : Hid (∀ w1, Ext W0.drew w1 → w1.cell? ⟨w.heap.size, 0, none⟩ = some (.int .i64 (N : Int)) ∧ w1.cell? ⟨w.heap.size, 1, none⟩ = some (.slice va V.length vc) ∧ w1.cell? ⟨w.heap.size, 2, none⟩ = some (.slice ra R.length rc) ∧ w1.cell? ⟨w.heap.size + 1, 3, none⟩ = some (.int .i64 (k : Int))) := fun w1 e => ⟨e.cell m0, e.cell m1, e.cell m2, e.cell n3⟩
  go_wp2_with fail
  go_region_held3 (fun w' => w'.cell? ⟨w.heap.size, 0, none⟩ = some (.int .i64 (N : Int)) ∧ w'.cell? ⟨w.heap.size, 1, none⟩ = some (.slice va V.length vc) ∧ w'.cell? ⟨w.heap.size, 2, none⟩ = some (.slice ra R.length rc) ∧ w'.cell? ⟨w.heap.size + 1, 3, none⟩ = some (.int .i64 (k : Int))) (first | go_keep | exact k4)
    (first | (go_at_call 184; refine HG1.out.mono ?_; rintro en w1 ⟨a1, c1, rfl, hu1, hE1⟩; have k4 := HKP.out _ hE1) | (go_at_call 183; refine (r17Box_any a1 (groupOf ⟨N, V, R⟩ k) c1 N x _ hu1 HGL.out hn64).mono ?_; rintro _ _ ⟨rfl, rfl⟩))
  all_goals
    go_wp2
    go_ret
    exact ⟨by rw [HN.out]; rfl, HE.out.drew.trans hE1⟩
set_option maxRecDepth 20000 in
set_option maxHeartbeats 4000000 in
theorem r17One_12 (M : Mo) (va ra : Option Addr) (vc rc : Nat) (i e g px py : Int) (x y : BitVec 64) (w : World) (hm : RM w va ra M) (N : Nat) (ok : MoOk M N) (hg : 1 ≤ g) (hfit : g < p2 M.rel.length) :
    Calls Tryz.prog 151 #[.agg #[.int .i64 M.worlds, .slice va M.val.length vc, .slice ra M.rel.length rc], .agg #[.int .i64 12, .int .i64 i, .int .i64 e, .int .i64 g, .int .i64 px, .int .i64 py], .int .u64 (un x), .int .u64 (un y)] w fun en w' => Ret1 (valN M 12 i g x y).1 en w w' := by
  have hW := ok.worlds
  have hn1 := ok.one
  have hn64 := ok.most
  have hr4 := ok.rel
  have hv8 := ok.val
  have OK := Lib.hid ok
  have hT : M.worlds.toNat = N := by omega
  have HT := Lib.hid hT
  have HM0 := Lib.hid hm
  clear ok hT hm
  obtain ⟨W, V, R⟩ := M
  dsimp only at hW hr4 hv8 hfit
  subst hW
  obtain ⟨k, rfl⟩ := Int.eq_ofNat_of_zero_le (show 0 ≤ g by omega)
  have HN : Hid ((valN ⟨N, V, R⟩ 12 i (k : Int) x y).1 = boxTo (meetOf ⟨N, V, R⟩ k) x N) := by
    have hc : ¬ (p2 R.length ≤ (k : Int)) := by omega
    show (valN _ _ _ _ _ _).1 = _; rw [boxTo_rel (meet_in OK.out (by omega) hfit).1 (rel_ok (meet_in OK.out (by omega) hfit).1 hn64 (meet_in OK.out (by omega) hfit).2)]; unfold valN; simp [hc]
  have hE0 : Ext w ((w.alloc (.cells #[.int .i64 (N : Int), .slice va V.length vc, .slice ra R.length rc] 28)).alloc (.cells #[.int .i64 12, .int .i64 i, .int .i64 e, .int .i64 (k : Int), .int .i64 px, .int .i64 py] 109)) := ((Ext.refl w).alloc _).alloc _
  have hbx := (MoBox.new w (N : Int) V R va vc ra rc 28).ext ((Ext.refl _).alloc (.cells #[.int .i64 12, .int .i64 i, .int .i64 e, .int .i64 (k : Int), .int .i64 px, .int .i64 py] 109))
  have hnx : NdAt ((w.alloc (.cells #[.int .i64 (N : Int), .slice va V.length vc, .slice ra R.length rc] 28)).alloc (.cells #[.int .i64 12, .int .i64 i, .int .i64 e, .int .i64 (k : Int), .int .i64 px, .int .i64 py] 109)) (w.heap.size + 1) 0 ⟨12, i, e, (k : Int), px, py⟩ := by
    have h := NdAt.new (w.alloc (.cells #[.int .i64 (N : Int), .slice va V.length vc, .slice ra R.length rc] 28)) ⟨12, i, e, (k : Int), px, py⟩ 109
    have hs : (w.alloc (.cells #[.int .i64 (N : Int), .slice va V.length vc, .slice ra R.length rc] 28)).heap.size = w.heap.size + 1 := by simp
    rw [hs] at h; exact h
  go_enter Tryz.func151, Tryz.ntmps151
  go_wp2_with fail
  refine (r13All_any N _).mono ?_
  rintro _ _ ⟨rfl, rfl⟩
  dsimp only
  generalize ((w.alloc (.cells #[.int .i64 (N : Int), .slice va V.length vc, .slice ra R.length rc] 28)).alloc (.cells #[.int .i64 12, .int .i64 i, .int .i64 e, .int .i64 (k : Int), .int .i64 px, .int .i64 py] 109)) = W0 at *
  have HM := Lib.hid (HM0.out.ext hE0)
  have HE := Lib.hid hE0
  obtain ⟨m0, m1, m2⟩ := hbx
  obtain ⟨n0, n1, n2, n3, n4, n5⟩ := hnx
  simp only [Nat.zero_add] at n1 n2 n3 n4 n5
  dsimp only at m0 m1 m2 n0 n1 n2 n3 n4 n5
  have hwb : w.heap.size + 1 < W0.heap.size := World.block_lt_of_cell? _ _ n0
  have HGL : Hid (N ≤ (meetOf ⟨N, V, R⟩ k).length) := by show N ≤ _; rw [(meet_in OK.out (by omega) hfit).1]; exact Nat.le_refl _
  have HG1 := Lib.hid (r13Meet_any ⟨N, V, R⟩ va ra vc rc k N W0.drew (HM.out.ext ((Ext.refl _).drew)) OK.out (by omega) hfit)
  have HKP : Hid (∀ w1, Ext W0.drew w1 → w1.cell? ⟨w.heap.size, 0, none⟩ = some (.int .i64 (N : Int)) ∧ w1.cell? ⟨w.heap.size, 1, none⟩ = some (.slice va V.length vc) ∧ w1.cell? ⟨w.heap.size, 2, none⟩ = some (.slice ra R.length rc) ∧ w1.cell? ⟨w.heap.size + 1, 3, none⟩ = some (.int .i64 (k : Int))) := fun w1 e => ⟨e.cell m0, e.cell m1, e.cell m2, e.cell n3⟩
  go_wp2_with fail
  go_region_held3 (fun w' => w'.cell? ⟨w.heap.size, 0, none⟩ = some (.int .i64 (N : Int)) ∧ w'.cell? ⟨w.heap.size, 1, none⟩ = some (.slice va V.length vc) ∧ w'.cell? ⟨w.heap.size, 2, none⟩ = some (.slice ra R.length rc) ∧ w'.cell? ⟨w.heap.size + 1, 3, none⟩ = some (.int .i64 (k : Int))) (first | go_keep | exact k4)
    (first | (go_at_call 185; refine HG1.out.mono ?_; rintro en w1 ⟨a1, c1, rfl, hu1, hE1⟩; have k4 := HKP.out _ hE1) | (go_at_call 183; refine (r17Box_any a1 (meetOf ⟨N, V, R⟩ k) c1 N x _ hu1 HGL.out hn64).mono ?_; rintro _ _ ⟨rfl, rfl⟩))
  all_goals
    go_wp2
    go_ret
    exact ⟨by rw [HN.out]; rfl, HE.out.drew.trans hE1⟩
set_option maxRecDepth 20000 in
set_option maxHeartbeats 4000000 in
theorem r17One_13 (M : Mo) (va ra : Option Addr) (vc rc : Nat) (i e g px py : Int) (x y : BitVec 64) (w : World) (hm : RM w va ra M) (N : Nat) (ok : MoOk M N) (hg : 1 ≤ g) (hfit : g < p2 M.rel.length) :
    Calls Tryz.prog 151 #[.agg #[.int .i64 M.worlds, .slice va M.val.length vc, .slice ra M.rel.length rc], .agg #[.int .i64 13, .int .i64 i, .int .i64 e, .int .i64 g, .int .i64 px, .int .i64 py], .int .u64 (un x), .int .u64 (un y)] w fun en w' => Ret1 (valN M 13 i g x y).1 en w w' := by
  have hW := ok.worlds
  have hn1 := ok.one
  have hn64 := ok.most
  have hr4 := ok.rel
  have hv8 := ok.val
  have OK := Lib.hid ok
  have hT : M.worlds.toNat = N := by omega
  have HT := Lib.hid hT
  have HM0 := Lib.hid hm
  clear ok hT hm
  obtain ⟨W, V, R⟩ := M
  dsimp only at hW hr4 hv8 hfit
  subst hW
  obtain ⟨k, rfl⟩ := Int.eq_ofNat_of_zero_le (show 0 ≤ g by omega)
  have HN : Hid ((valN ⟨N, V, R⟩ 13 i (k : Int) x y).1 = comTo (groupOf ⟨N, V, R⟩ k) N x y N) := by
    have hc : ¬ (p2 R.length ≤ (k : Int)) := by omega
    show (valN _ _ _ _ _ _).1 = _; rw [comTo_cmn (group_in OK.out (by omega) hfit).1 hn64 (rel_ok (group_in OK.out (by omega) hfit).1 hn64 (group_in OK.out (by omega) hfit).2) (group_in OK.out (by omega) hfit).2]; unfold valN; simp [HT.out, hc]
  have hE0 : Ext w ((w.alloc (.cells #[.int .i64 (N : Int), .slice va V.length vc, .slice ra R.length rc] 28)).alloc (.cells #[.int .i64 13, .int .i64 i, .int .i64 e, .int .i64 (k : Int), .int .i64 px, .int .i64 py] 109)) := ((Ext.refl w).alloc _).alloc _
  have hbx := (MoBox.new w (N : Int) V R va vc ra rc 28).ext ((Ext.refl _).alloc (.cells #[.int .i64 13, .int .i64 i, .int .i64 e, .int .i64 (k : Int), .int .i64 px, .int .i64 py] 109))
  have hnx : NdAt ((w.alloc (.cells #[.int .i64 (N : Int), .slice va V.length vc, .slice ra R.length rc] 28)).alloc (.cells #[.int .i64 13, .int .i64 i, .int .i64 e, .int .i64 (k : Int), .int .i64 px, .int .i64 py] 109)) (w.heap.size + 1) 0 ⟨13, i, e, (k : Int), px, py⟩ := by
    have h := NdAt.new (w.alloc (.cells #[.int .i64 (N : Int), .slice va V.length vc, .slice ra R.length rc] 28)) ⟨13, i, e, (k : Int), px, py⟩ 109
    have hs : (w.alloc (.cells #[.int .i64 (N : Int), .slice va V.length vc, .slice ra R.length rc] 28)).heap.size = w.heap.size + 1 := by simp
    rw [hs] at h; exact h
  go_enter Tryz.func151, Tryz.ntmps151
  go_wp2_with fail
  refine (r13All_any N _).mono ?_
  rintro _ _ ⟨rfl, rfl⟩
  dsimp only
  generalize ((w.alloc (.cells #[.int .i64 (N : Int), .slice va V.length vc, .slice ra R.length rc] 28)).alloc (.cells #[.int .i64 13, .int .i64 i, .int .i64 e, .int .i64 (k : Int), .int .i64 px, .int .i64 py] 109)) = W0 at *
  have HM := Lib.hid (HM0.out.ext hE0)
  have HE := Lib.hid hE0
  obtain ⟨m0, m1, m2⟩ := hbx
  obtain ⟨n0, n1, n2, n3, n4, n5⟩ := hnx
  simp only [Nat.zero_add] at n1 n2 n3 n4 n5
  dsimp only at m0 m1 m2 n0 n1 n2 n3 n4 n5
  have hwb : w.heap.size + 1 < W0.heap.size := World.block_lt_of_cell? _ _ n0
  have HGL : Hid (N ≤ (groupOf ⟨N, V, R⟩ k).length) := by show N ≤ _; rw [(group_in OK.out (by omega) hfit).1]; exact Nat.le_refl _
  have HG1 := Lib.hid (r13Group_any ⟨N, V, R⟩ va ra vc rc k N W0.drew (HM.out.ext ((Ext.refl _).drew)) OK.out (by omega) hfit)
  have HKP : Hid (∀ w1, Ext W0.drew w1 → w1.cell? ⟨w.heap.size, 0, none⟩ = some (.int .i64 (N : Int)) ∧ w1.cell? ⟨w.heap.size, 1, none⟩ = some (.slice va V.length vc) ∧ w1.cell? ⟨w.heap.size, 2, none⟩ = some (.slice ra R.length rc) ∧ w1.cell? ⟨w.heap.size + 1, 3, none⟩ = some (.int .i64 (k : Int))) := fun w1 e => ⟨e.cell m0, e.cell m1, e.cell m2, e.cell n3⟩
  go_wp2_with fail
  go_region_held3 (fun w' => w'.cell? ⟨w.heap.size, 0, none⟩ = some (.int .i64 (N : Int)) ∧ w'.cell? ⟨w.heap.size, 1, none⟩ = some (.slice va V.length vc) ∧ w'.cell? ⟨w.heap.size, 2, none⟩ = some (.slice ra R.length rc) ∧ w'.cell? ⟨w.heap.size + 1, 3, none⟩ = some (.int .i64 (k : Int))) (first | go_keep | exact k4)
    (first | (go_at_call 184; refine HG1.out.mono ?_; rintro en w1 ⟨a1, c1, rfl, hu1, hE1⟩; have k4 := HKP.out _ hE1) | (go_at_call 186; refine (r17common_any a1 (groupOf ⟨N, V, R⟩ k) c1 N x y _ hu1 HGL.out hn64).mono ?_; rintro _ _ ⟨rfl, rfl⟩))
  all_goals
    go_wp2
    go_ret
    exact ⟨by rw [HN.out]; rfl, HE.out.drew.trans hE1⟩
end Wt

/- wittingref17.One at all operators (printed by gen_r17c.py). -/
namespace Wt
open Go Go.RowKit Go.Maps Go.Proofs Fm

/-- The set of a node of a model that it fits. -/
theorem r17One_any (M : Mo) (va ra : Option Addr) (vc rc : Nat) (n : Nd) (x y : BitVec 64) (w : World) (hm : RM w va ra M) (N : Nat) (ok : MoOk M N) (hn : NdOk n) (hfit : (valN M n.op n.i n.g x y).2 = true) :
    Calls Tryz.prog 151 #[.agg #[.int .i64 M.worlds, .slice va M.val.length vc, .slice ra M.rel.length rc], .agg #[.int .i64 n.op, .int .i64 n.i, .int .i64 n.e, .int .i64 n.g, .int .i64 n.x, .int .i64 n.y], .int .u64 (un x), .int .u64 (un y)] w fun en w' => Ret1 (valN M n.op n.i n.g x y).1 en w w' := by
  obtain ⟨o, i, e, g, px, py⟩ := n
  have h1 := hn.fact
  have h2 := hn.agent
  have h3 := hn.group
  dsimp only at hfit h1 h2 h3 ⊢
  by_cases ho : o < 1 ∨ 13 < o
  · rw [valN_no M i g x y ho] at hfit; cases hfit
  · rcases (show o = 1 ∨ o = 2 ∨ o = 3 ∨ o = 4 ∨ o = 5 ∨ o = 6 ∨ o = 7 ∨ o = 8 ∨ o = 9 ∨ o = 10 ∨ o = 11 ∨ o = 12 ∨ o = 13 by omega) with rfl | rfl | rfl | rfl | rfl | rfl | rfl | rfl | rfl | rfl | rfl | rfl | rfl
    · exact r17One_1 M va ra vc rc i e g px py x y w hm N ok
    · exact r17One_2 M va ra vc rc i e g px py x y w hm N ok
    · exact r17One_3 M va ra vc rc i e g px py x y w hm N ok (h1 rfl).1 (Int.not_le.1 fun hc => by simp [valN, hc] at hfit)
    · exact r17One_4 M va ra vc rc i e g px py x y w hm N ok
    · exact r17One_5 M va ra vc rc i e g px py x y w hm N ok
    · exact r17One_6 M va ra vc rc i e g px py x y w hm N ok
    · exact r17One_7 M va ra vc rc i e g px py x y w hm N ok
    · exact r17One_8 M va ra vc rc i e g px py x y w hm N ok
    · exact r17One_9 M va ra vc rc i e g px py x y w hm N ok (h2 rfl).1 (Int.not_le.1 fun hc => by simp [valN, hc] at hfit)
    · exact r17One_10 M va ra vc rc i e g px py x y w hm N ok (h2 rfl).1 (Int.not_le.1 fun hc => by simp [valN, hc] at hfit)
    · exact r17One_11 M va ra vc rc i e g px py x y w hm N ok (h3 rfl).1 (Int.not_le.1 fun hc => by simp [valN, hc] at hfit)
    · exact r17One_12 M va ra vc rc i e g px py x y w hm N ok (h3 rfl).1 (Int.not_le.1 fun hc => by simp [valN, hc] at hfit)
    · exact r17One_13 M va ra vc rc i e g px py x y w hm N ok (h3 rfl).1 (Int.not_le.1 fun hc => by simp [valN, hc] at hfit)
end Wt
