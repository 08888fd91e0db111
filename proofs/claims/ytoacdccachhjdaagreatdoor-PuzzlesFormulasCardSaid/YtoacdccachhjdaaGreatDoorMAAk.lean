/- Walks: checker.value (printed by gen_ckb.py). -/
import Derived.Test.YtoacdccachhjdaaGreatDoorMAAi
namespace Wt
open Go Go.RowKit Go.Proofs Fm

theorem allOnes_shr (n : Nat) (h1 : 1 ≤ n) (h : n ≤ 64) : 18446744073709551615#64 >>> (64 - n) = allW n := by
  refine bt_ext fun k hk => ?_
  rw [bt_allW]
  have e : (18446744073709551615#64 : BitVec 64) = BitVec.allOnes 64 := by decide
  rw [e]
  unfold bt
  rw [BitVec.getLsbD_ushiftRight, BitVec.getLsbD_allOnes, Bool.eq_iff_iff]
  simp; omega
/-- All worlds, as the code computes them. -/
theorem div_max (n : Nat) (h1 : 1 ≤ n) (h : n ≤ 64) : (18446744073709551615 : Int) / 2 ^ (64 - n) = un (allW n) := by
  rw [← allOnes_shr n h1 h]
  unfold un
  rw [BitVec.toNat_ushiftRight, Nat.shiftRight_eq_div_pow]
  simp
theorem sub64 (n : Nat) (h1 : 1 ≤ n) (h : n ≤ 64) : IntKind.i64.wrap (64 - (n : Int)) = 64 - (n : Int) := IntWalk.i64_in _ (by omega)
def RetV (p : BitVec 64 × Bool) (e : Ending) (w w' : World) : Prop := e = .returned (.tuple #[.int .u64 (un p.1), .bool p.2]) ∧ Ext w w'

set_option maxRecDepth 20000 in
set_option maxHeartbeats 2000000 in
theorem value_1 (M : Mo) (va ra : Option Addr) (vc rc : Nat) (i e g px py : Int) (x y : BitVec 64) (w : World) (hm : RM w va ra M) (N : Nat) (ok : MoOk M N) :
    Calls Tryz.prog 144 #[.agg #[.int .i64 M.worlds, .slice va M.val.length vc, .slice ra M.rel.length rc], .agg #[.int .i64 1, .int .i64 i, .int .i64 e, .int .i64 g, .int .i64 px, .int .i64 py], .int .u64 (un x), .int .u64 (un y)] w fun en w' => RetV (valN M 1 i g x y) en w w' := by
  have hW := ok.worlds
  have hn1 := ok.one
  have hn64 := ok.most
  have hr4 := ok.rel
  have hv8 := ok.val
  have hsh := div_max N hn1 hn64
  have hs64 := sub64 N hn1 hn64
  have hE0 := ((Ext.refl w).alloc (.cells #[.int .i64 M.worlds, .slice va M.val.length vc, .slice ra M.rel.length rc] 28)).alloc (.cells #[.int .i64 (1), .int .i64 i, .int .i64 e, .int .i64 g, .int .i64 px, .int .i64 py] 109)
  have HE := Lib.hid hE0
  have HM := Lib.hid (hm.ext hE0)
  have OK := Lib.hid ok
  have hT : M.worlds.toNat = N := by omega
  have HT := Lib.hid hT
  clear hE0 ok hT hm
  obtain ⟨W, V, R⟩ := M
  dsimp only at hW hr4 hv8
  subst hW
  have hN : valN ⟨N, V, R⟩ 1 i g x y = (allW N, true) := by
    have h0 := HT.out
    dsimp only at h0
    unfold valN; simp
  have HN := Lib.hid hN
  clear hN
  go_enter Tryz.func144, Tryz.ntmps144
  go_wp2
  go_ret2
  exact ⟨by rw [HN.out]; rfl, HE.out⟩

set_option maxRecDepth 20000 in
set_option maxHeartbeats 2000000 in
theorem value_2 (M : Mo) (va ra : Option Addr) (vc rc : Nat) (i e g px py : Int) (x y : BitVec 64) (w : World) (hm : RM w va ra M) (N : Nat) (ok : MoOk M N) :
    Calls Tryz.prog 144 #[.agg #[.int .i64 M.worlds, .slice va M.val.length vc, .slice ra M.rel.length rc], .agg #[.int .i64 2, .int .i64 i, .int .i64 e, .int .i64 g, .int .i64 px, .int .i64 py], .int .u64 (un x), .int .u64 (un y)] w fun en w' => RetV (valN M 2 i g x y) en w w' := by
  have hW := ok.worlds
  have hn1 := ok.one
  have hn64 := ok.most
  have hr4 := ok.rel
  have hv8 := ok.val
  have hsh := div_max N hn1 hn64
  have hs64 := sub64 N hn1 hn64
  have hE0 := ((Ext.refl w).alloc (.cells #[.int .i64 M.worlds, .slice va M.val.length vc, .slice ra M.rel.length rc] 28)).alloc (.cells #[.int .i64 (2), .int .i64 i, .int .i64 e, .int .i64 g, .int .i64 px, .int .i64 py] 109)
  have HE := Lib.hid hE0
  have HM := Lib.hid (hm.ext hE0)
  have OK := Lib.hid ok
  have hT : M.worlds.toNat = N := by omega
  have HT := Lib.hid hT
  clear hE0 ok hT hm
  obtain ⟨W, V, R⟩ := M
  dsimp only at hW hr4 hv8
  subst hW
  have hN : valN ⟨N, V, R⟩ 2 i g x y = (0#64, true) := by
    have h0 := HT.out
    dsimp only at h0
    unfold valN; simp
  have HN := Lib.hid hN
  clear hN
  go_enter Tryz.func144, Tryz.ntmps144
  go_wp2
  go_ret2
  exact ⟨by rw [HN.out]; rfl, HE.out⟩

set_option maxRecDepth 20000 in
set_option maxHeartbeats 2000000 in
theorem value_4 (M : Mo) (va ra : Option Addr) (vc rc : Nat) (i e g px py : Int) (x y : BitVec 64) (w : World) (hm : RM w va ra M) (N : Nat) (ok : MoOk M N) :
    Calls Tryz.prog 144 #[.agg #[.int .i64 M.worlds, .slice va M.val.length vc, .slice ra M.rel.length rc], .agg #[.int .i64 4, .int .i64 i, .int .i64 e, .int .i64 g, .int .i64 px, .int .i64 py], .int .u64 (un x), .int .u64 (un y)] w fun en w' => RetV (valN M 4 i g x y) en w w' := by
  have hW := ok.worlds
  have hn1 := ok.one
  have hn64 := ok.most
  have hr4 := ok.rel
  have hv8 := ok.val
  have hsh := div_max N hn1 hn64
  have hs64 := sub64 N hn1 hn64
  have hE0 := ((Ext.refl w).alloc (.cells #[.int .i64 M.worlds, .slice va M.val.length vc, .slice ra M.rel.length rc] 28)).alloc (.cells #[.int .i64 (4), .int .i64 i, .int .i64 e, .int .i64 g, .int .i64 px, .int .i64 py] 109)
  have HE := Lib.hid hE0
  have HM := Lib.hid (hm.ext hE0)
  have OK := Lib.hid ok
  have hT : M.worlds.toNat = N := by omega
  have HT := Lib.hid hT
  clear hE0 ok hT hm
  obtain ⟨W, V, R⟩ := M
  dsimp only at hW hr4 hv8
  subst hW
  have hN : valN ⟨N, V, R⟩ 4 i g x y = (allW N &&& ~~~ x, true) := by
    have h0 := HT.out
    dsimp only at h0
    unfold valN; simp
  have HN := Lib.hid hN
  clear hN
  go_enter Tryz.func144, Tryz.ntmps144
  go_wp2
  go_ret2
  exact ⟨by rw [HN.out]; rfl, HE.out⟩

set_option maxRecDepth 20000 in
set_option maxHeartbeats 2000000 in
theorem value_5 (M : Mo) (va ra : Option Addr) (vc rc : Nat) (i e g px py : Int) (x y : BitVec 64) (w : World) (hm : RM w va ra M) (N : Nat) (ok : MoOk M N) :
    Calls Tryz.prog 144 #[.agg #[.int .i64 M.worlds, .slice va M.val.length vc, .slice ra M.rel.length rc], .agg #[.int .i64 5, .int .i64 i, .int .i64 e, .int .i64 g, .int .i64 px, .int .i64 py], .int .u64 (un x), .int .u64 (un y)] w fun en w' => RetV (valN M 5 i g x y) en w w' := by
  have hW := ok.worlds
  have hn1 := ok.one
  have hn64 := ok.most
  have hr4 := ok.rel
  have hv8 := ok.val
  have hsh := div_max N hn1 hn64
  have hs64 := sub64 N hn1 hn64
  have hE0 := ((Ext.refl w).alloc (.cells #[.int .i64 M.worlds, .slice va M.val.length vc, .slice ra M.rel.length rc] 28)).alloc (.cells #[.int .i64 (5), .int .i64 i, .int .i64 e, .int .i64 g, .int .i64 px, .int .i64 py] 109)
  have HE := Lib.hid hE0
  have HM := Lib.hid (hm.ext hE0)
  have OK := Lib.hid ok
  have hT : M.worlds.toNat = N := by omega
  have HT := Lib.hid hT
  clear hE0 ok hT hm
  obtain ⟨W, V, R⟩ := M
  dsimp only at hW hr4 hv8
  subst hW
  have hN : valN ⟨N, V, R⟩ 5 i g x y = (x &&& y, true) := by
    have h0 := HT.out
    dsimp only at h0
    unfold valN; simp
  have HN := Lib.hid hN
  clear hN
  go_enter Tryz.func144, Tryz.ntmps144
  go_wp2
  go_ret2
  exact ⟨by rw [HN.out]; rfl, HE.out⟩

set_option maxRecDepth 20000 in
set_option maxHeartbeats 2000000 in
theorem value_6 (M : Mo) (va ra : Option Addr) (vc rc : Nat) (i e g px py : Int) (x y : BitVec 64) (w : World) (hm : RM w va ra M) (N : Nat) (ok : MoOk M N) :
    Calls Tryz.prog 144 #[.agg #[.int .i64 M.worlds, .slice va M.val.length vc, .slice ra M.rel.length rc], .agg #[.int .i64 6, .int .i64 i, .int .i64 e, .int .i64 g, .int .i64 px, .int .i64 py], .int .u64 (un x), .int .u64 (un y)] w fun en w' => RetV (valN M 6 i g x y) en w w' := by
  have hW := ok.worlds
  have hn1 := ok.one
  have hn64 := ok.most
  have hr4 := ok.rel
  have hv8 := ok.val
  have hsh := div_max N hn1 hn64
  have hs64 := sub64 N hn1 hn64
  have hE0 := ((Ext.refl w).alloc (.cells #[.int .i64 M.worlds, .slice va M.val.length vc, .slice ra M.rel.length rc] 28)).alloc (.cells #[.int .i64 (6), .int .i64 i, .int .i64 e, .int .i64 g, .int .i64 px, .int .i64 py] 109)
  have HE := Lib.hid hE0
  have HM := Lib.hid (hm.ext hE0)
  have OK := Lib.hid ok
  have hT : M.worlds.toNat = N := by omega
  have HT := Lib.hid hT
  clear hE0 ok hT hm
  obtain ⟨W, V, R⟩ := M
  dsimp only at hW hr4 hv8
  subst hW
  have hN : valN ⟨N, V, R⟩ 6 i g x y = (x ||| y, true) := by
    have h0 := HT.out
    dsimp only at h0
    unfold valN; simp
  have HN := Lib.hid hN
  clear hN
  go_enter Tryz.func144, Tryz.ntmps144
  go_wp2
  go_ret2
  exact ⟨by rw [HN.out]; rfl, HE.out⟩

set_option maxRecDepth 20000 in
set_option maxHeartbeats 2000000 in
theorem value_7 (M : Mo) (va ra : Option Addr) (vc rc : Nat) (i e g px py : Int) (x y : BitVec 64) (w : World) (hm : RM w va ra M) (N : Nat) (ok : MoOk M N) :
    Calls Tryz.prog 144 #[.agg #[.int .i64 M.worlds, .slice va M.val.length vc, .slice ra M.rel.length rc], .agg #[.int .i64 7, .int .i64 i, .int .i64 e, .int .i64 g, .int .i64 px, .int .i64 py], .int .u64 (un x), .int .u64 (un y)] w fun en w' => RetV (valN M 7 i g x y) en w w' := by
  have hW := ok.worlds
  have hn1 := ok.one
  have hn64 := ok.most
  have hr4 := ok.rel
  have hv8 := ok.val
  have hsh := div_max N hn1 hn64
  have hs64 := sub64 N hn1 hn64
  have hE0 := ((Ext.refl w).alloc (.cells #[.int .i64 M.worlds, .slice va M.val.length vc, .slice ra M.rel.length rc] 28)).alloc (.cells #[.int .i64 (7), .int .i64 i, .int .i64 e, .int .i64 g, .int .i64 px, .int .i64 py] 109)
  have HE := Lib.hid hE0
  have HM := Lib.hid (hm.ext hE0)
  have OK := Lib.hid ok
  have hT : M.worlds.toNat = N := by omega
  have HT := Lib.hid hT
  clear hE0 ok hT hm
  obtain ⟨W, V, R⟩ := M
  dsimp only at hW hr4 hv8
  subst hW
  have hN : valN ⟨N, V, R⟩ 7 i g x y = ((allW N &&& ~~~ x) ||| y, true) := by
    have h0 := HT.out
    dsimp only at h0
    unfold valN; simp
  have HN := Lib.hid hN
  clear hN
  go_enter Tryz.func144, Tryz.ntmps144
  go_wp2
  go_ret2
  exact ⟨by rw [HN.out]; rfl, HE.out⟩

set_option maxRecDepth 20000 in
set_option maxHeartbeats 2000000 in
theorem value_8 (M : Mo) (va ra : Option Addr) (vc rc : Nat) (i e g px py : Int) (x y : BitVec 64) (w : World) (hm : RM w va ra M) (N : Nat) (ok : MoOk M N) :
    Calls Tryz.prog 144 #[.agg #[.int .i64 M.worlds, .slice va M.val.length vc, .slice ra M.rel.length rc], .agg #[.int .i64 8, .int .i64 i, .int .i64 e, .int .i64 g, .int .i64 px, .int .i64 py], .int .u64 (un x), .int .u64 (un y)] w fun en w' => RetV (valN M 8 i g x y) en w w' := by
  have hW := ok.worlds
  have hn1 := ok.one
  have hn64 := ok.most
  have hr4 := ok.rel
  have hv8 := ok.val
  have hsh := div_max N hn1 hn64
  have hs64 := sub64 N hn1 hn64
  have hE0 := ((Ext.refl w).alloc (.cells #[.int .i64 M.worlds, .slice va M.val.length vc, .slice ra M.rel.length rc] 28)).alloc (.cells #[.int .i64 (8), .int .i64 i, .int .i64 e, .int .i64 g, .int .i64 px, .int .i64 py] 109)
  have HE := Lib.hid hE0
  have HM := Lib.hid (hm.ext hE0)
  have OK := Lib.hid ok
  have hT : M.worlds.toNat = N := by omega
  have HT := Lib.hid hT
  clear hE0 ok hT hm
  obtain ⟨W, V, R⟩ := M
  dsimp only at hW hr4 hv8
  subst hW
  have hN : valN ⟨N, V, R⟩ 8 i g x y = (allW N &&& ~~~ (x ^^^ y), true) := by
    have h0 := HT.out
    dsimp only at h0
    unfold valN; simp
  have HN := Lib.hid hN
  clear hN
  go_enter Tryz.func144, Tryz.ntmps144
  go_wp2
  go_ret2
  exact ⟨by rw [HN.out]; rfl, HE.out⟩

set_option maxRecDepth 20000 in
set_option maxHeartbeats 2000000 in
theorem value_3 (M : Mo) (va ra : Option Addr) (vc rc : Nat) (i e g px py : Int) (x y : BitVec 64) (w : World) (hm : RM w va ra M) (N : Nat) (ok : MoOk M N) (hi : 0 ≤ i) :
    Calls Tryz.prog 144 #[.agg #[.int .i64 M.worlds, .slice va M.val.length vc, .slice ra M.rel.length rc], .agg #[.int .i64 3, .int .i64 i, .int .i64 e, .int .i64 g, .int .i64 px, .int .i64 py], .int .u64 (un x), .int .u64 (un y)] w fun en w' => RetV (valN M 3 i g x y) en w w' := by
  have hW := ok.worlds
  have hn1 := ok.one
  have hn64 := ok.most
  have hr4 := ok.rel
  have hv8 := ok.val
  have hsh := div_max N hn1 hn64
  have hs64 := sub64 N hn1 hn64
  have hE0 := ((Ext.refl w).alloc (.cells #[.int .i64 M.worlds, .slice va M.val.length vc, .slice ra M.rel.length rc] 28)).alloc (.cells #[.int .i64 (3), .int .i64 i, .int .i64 e, .int .i64 g, .int .i64 px, .int .i64 py] 109)
  have HE := Lib.hid hE0
  have HM := Lib.hid (hm.ext hE0)
  have OK := Lib.hid ok
  have hT : M.worlds.toNat = N := by omega
  have HT := Lib.hid hT
  clear hE0 ok hT hm
  obtain ⟨W, V, R⟩ := M
  dsimp only at hW hr4 hv8
  subst hW
  obtain ⟨k, rfl⟩ := Int.eq_ofNat_of_zero_le hi
  by_cases hk : k < V.length
  · have hN : valN ⟨N, V, R⟩ 3 k g x y = (nth V k, true) := by unfold valN; simp; omega
    have HN := Lib.hid hN
    clear hN
    obtain ⟨b, off, rfl, hb, hc⟩ := HM.out.val.get (k := k) hk
    go_enter Tryz.func144, Tryz.ntmps144
    go_wp2
    go_ret2
    exact ⟨by rw [HN.out]; rfl, HE.out⟩
  · have hN : valN ⟨N, V, R⟩ 3 k g x y = (0#64, false) := by unfold valN; simp; omega
    have HN := Lib.hid hN
    clear hN
    go_enter Tryz.func144, Tryz.ntmps144
    go_wp2
    go_ret2
    exact ⟨by rw [HN.out]; rfl, HE.out⟩

set_option maxRecDepth 20000 in
set_option maxHeartbeats 2000000 in
theorem value_9 (M : Mo) (va ra : Option Addr) (vc rc : Nat) (i e g px py : Int) (x y : BitVec 64) (w : World) (hm : RM w va ra M) (N : Nat) (ok : MoOk M N) (hi : 0 ≤ i) :
    Calls Tryz.prog 144 #[.agg #[.int .i64 M.worlds, .slice va M.val.length vc, .slice ra M.rel.length rc], .agg #[.int .i64 9, .int .i64 i, .int .i64 e, .int .i64 g, .int .i64 px, .int .i64 py], .int .u64 (un x), .int .u64 (un y)] w fun en w' => RetV (valN M 9 i g x y) en w w' := by
  have hW := ok.worlds
  have hn1 := ok.one
  have hn64 := ok.most
  have hr4 := ok.rel
  have hv8 := ok.val
  have hsh := div_max N hn1 hn64
  have hs64 := sub64 N hn1 hn64
  have hE0 := ((Ext.refl w).alloc (.cells #[.int .i64 M.worlds, .slice va M.val.length vc, .slice ra M.rel.length rc] 28)).alloc (.cells #[.int .i64 (9), .int .i64 i, .int .i64 e, .int .i64 g, .int .i64 px, .int .i64 py] 109)
  have HE := Lib.hid hE0
  have HM := Lib.hid (hm.ext hE0)
  have OK := Lib.hid ok
  have hT : M.worlds.toNat = N := by omega
  have HT := Lib.hid hT
  clear hE0 ok hT hm
  obtain ⟨W, V, R⟩ := M
  dsimp only at hW hr4 hv8
  subst hW
  obtain ⟨k, rfl⟩ := Int.eq_ofNat_of_zero_le hi
  by_cases hk : k < R.length
  · have hN : valN ⟨N, V, R⟩ 9 k g x y = (relBox (nth R k) x, true) := by unfold valN; simp; omega
    have HN := Lib.hid hN
    clear hN
    obtain ⟨b, off, a', c', rfl, hb, hc, hu⟩ := HM.out.rel.get (k := k) hk
    go_enter Tryz.func144, Tryz.ntmps144
    go_wp2_with (go_at_call 174; refine (relBox_any _ _ _ x _ hu).mono ?_; rintro en w1 ⟨rfl, rfl⟩)
    go_ret2
    exact ⟨by rw [HN.out]; rfl, HE.out⟩
  · have hN : valN ⟨N, V, R⟩ 9 k g x y = (0#64, false) := by unfold valN; simp; omega
    have HN := Lib.hid hN
    clear hN
    go_enter Tryz.func144, Tryz.ntmps144
    go_wp2
    go_ret2
    exact ⟨by rw [HN.out]; rfl, HE.out⟩

set_option maxRecDepth 20000 in
set_option maxHeartbeats 2000000 in
theorem value_10 (M : Mo) (va ra : Option Addr) (vc rc : Nat) (i e g px py : Int) (x y : BitVec 64) (w : World) (hm : RM w va ra M) (N : Nat) (ok : MoOk M N) (hi : 0 ≤ i) :
    Calls Tryz.prog 144 #[.agg #[.int .i64 M.worlds, .slice va M.val.length vc, .slice ra M.rel.length rc], .agg #[.int .i64 10, .int .i64 i, .int .i64 e, .int .i64 g, .int .i64 px, .int .i64 py], .int .u64 (un x), .int .u64 (un y)] w fun en w' => RetV (valN M 10 i g x y) en w w' := by
  have hW := ok.worlds
  have hn1 := ok.one
  have hn64 := ok.most
  have hr4 := ok.rel
  have hv8 := ok.val
  have hsh := div_max N hn1 hn64
  have hs64 := sub64 N hn1 hn64
  have hE0 := ((Ext.refl w).alloc (.cells #[.int .i64 M.worlds, .slice va M.val.length vc, .slice ra M.rel.length rc] 28)).alloc (.cells #[.int .i64 (10), .int .i64 i, .int .i64 e, .int .i64 g, .int .i64 px, .int .i64 py] 109)
  have HE := Lib.hid hE0
  have HM := Lib.hid (hm.ext hE0)
  have OK := Lib.hid ok
  have hT : M.worlds.toNat = N := by omega
  have HT := Lib.hid hT
  clear hE0 ok hT hm
  obtain ⟨W, V, R⟩ := M
  dsimp only at hW hr4 hv8
  subst hW
  obtain ⟨k, rfl⟩ := Int.eq_ofNat_of_zero_le hi
  by_cases hk : k < R.length
  · have hN : valN ⟨N, V, R⟩ 10 k g x y = (relDia (nth R k) x, true) := by unfold valN; simp; omega
    have HN := Lib.hid hN
    clear hN
    obtain ⟨b, off, a', c', rfl, hb, hc, hu⟩ := HM.out.rel.get (k := k) hk
    go_enter Tryz.func144, Tryz.ntmps144
    go_wp2_with (go_at_call 175; refine (relDia_any _ _ _ x _ hu).mono ?_; rintro en w1 ⟨rfl, rfl⟩)
    go_ret2
    exact ⟨by rw [HN.out]; rfl, HE.out⟩
  · have hN : valN ⟨N, V, R⟩ 10 k g x y = (0#64, false) := by unfold valN; simp; omega
    have HN := Lib.hid hN
    clear hN
    go_enter Tryz.func144, Tryz.ntmps144
    go_wp2
    go_ret2
    exact ⟨by rw [HN.out]; rfl, HE.out⟩

set_option maxRecDepth 20000 in
set_option maxHeartbeats 2000000 in
theorem value_11 (M : Mo) (va ra : Option Addr) (vc rc : Nat) (i e g px py : Int) (x y : BitVec 64) (w : World) (hm : RM w va ra M) (N : Nat) (ok : MoOk M N) (hg : 0 ≤ g) :
    Calls Tryz.prog 144 #[.agg #[.int .i64 M.worlds, .slice va M.val.length vc, .slice ra M.rel.length rc], .agg #[.int .i64 11, .int .i64 i, .int .i64 e, .int .i64 g, .int .i64 px, .int .i64 py], .int .u64 (un x), .int .u64 (un y)] w fun en w' => RetV (valN M 11 i g x y) en w w' := by
  have hW := ok.worlds
  have hn1 := ok.one
  have hn64 := ok.most
  have hr4 := ok.rel
  have hv8 := ok.val
  have hsh := div_max N hn1 hn64
  have hs64 := sub64 N hn1 hn64
  have hE0 := ((Ext.refl w).alloc (.cells #[.int .i64 M.worlds, .slice va M.val.length vc, .slice ra M.rel.length rc] 28)).alloc (.cells #[.int .i64 (11), .int .i64 i, .int .i64 e, .int .i64 g, .int .i64 px, .int .i64 py] 109)
  have HE := Lib.hid hE0
  have HM := Lib.hid (hm.ext hE0)
  have OK := Lib.hid ok
  have hT : M.worlds.toNat = N := by omega
  have HT := Lib.hid hT
  clear hE0 ok hT hm
  obtain ⟨W, V, R⟩ := M
  dsimp only at hW hr4 hv8
  subst hW
  obtain ⟨k, rfl⟩ := Int.eq_ofNat_of_zero_le hg
  have hop : ((w.alloc (.cells #[.int .i64 (N : Int), .slice va V.length vc, .slice ra R.length rc] 28)).alloc (.cells #[.int .i64 (11), .int .i64 i, .int .i64 e, .int .i64 (k : Int), .int .i64 px, .int .i64 py] 109)).cell? ⟨w.heap.size + 1, 0, none⟩ = some (.int .i64 11) := by simp
  have hrl : R.length < 63 := by omega
  have hgl : (groupOf ⟨N, V, R⟩ k).length ≤ N := gather_le _ _ _ OK.out
  have HGL := Lib.hid hgl
  clear hgl
  by_cases hk : (k : Int) < p2 R.length
  · have hN : valN ⟨N, V, R⟩ 11 i k x y = (relBox (groupOf ⟨N, V, R⟩ k) x, true) := by
      unfold valN; simp; omega
    have HN := Lib.hid hN
    clear hN
    go_enter Tryz.func144, Tryz.ntmps144
    go_wp2_with fail
    go_quiet (fail)
    go_wp2_with (first | (go_at_call 177; refine (group_any ⟨N, V, R⟩ va ra vc rc k _ (HM.out.ext ((Ext.refl _).drewN _))).mono ?_; rintro en w1 ⟨a1, c1, rfl, hu1, hE1⟩; have q := hE1.cell hop) | (go_at_call 174; refine (relBox_any _ _ _ x _ hu1).mono ?_; rintro en w2 ⟨rfl, rfl⟩))
    go_ret2
    exact ⟨by rw [HN.out]; rfl, (HE.out.drewN _).trans hE1⟩
  · have hN : valN ⟨N, V, R⟩ 11 i k x y = (0#64, false) := by unfold valN; simp; omega
    have HN := Lib.hid hN
    clear hN
    go_enter Tryz.func144, Tryz.ntmps144
    go_wp2_with fail
    go_quiet (fail)
    go_wp2
    go_ret2
    exact ⟨by rw [HN.out]; rfl, HE.out.drewN _⟩

set_option maxRecDepth 20000 in
set_option maxHeartbeats 2000000 in
theorem value_12 (M : Mo) (va ra : Option Addr) (vc rc : Nat) (i e g px py : Int) (x y : BitVec 64) (w : World) (hm : RM w va ra M) (N : Nat) (ok : MoOk M N) (hg : 0 ≤ g) :
    Calls Tryz.prog 144 #[.agg #[.int .i64 M.worlds, .slice va M.val.length vc, .slice ra M.rel.length rc], .agg #[.int .i64 12, .int .i64 i, .int .i64 e, .int .i64 g, .int .i64 px, .int .i64 py], .int .u64 (un x), .int .u64 (un y)] w fun en w' => RetV (valN M 12 i g x y) en w w' := by
  have hW := ok.worlds
  have hn1 := ok.one
  have hn64 := ok.most
  have hr4 := ok.rel
  have hv8 := ok.val
  have hsh := div_max N hn1 hn64
  have hs64 := sub64 N hn1 hn64
  have hE0 := ((Ext.refl w).alloc (.cells #[.int .i64 M.worlds, .slice va M.val.length vc, .slice ra M.rel.length rc] 28)).alloc (.cells #[.int .i64 (12), .int .i64 i, .int .i64 e, .int .i64 g, .int .i64 px, .int .i64 py] 109)
  have HE := Lib.hid hE0
  have HM := Lib.hid (hm.ext hE0)
  have OK := Lib.hid ok
  have hT : M.worlds.toNat = N := by omega
  have HT := Lib.hid hT
  clear hE0 ok hT hm
  obtain ⟨W, V, R⟩ := M
  dsimp only at hW hr4 hv8
  subst hW
  obtain ⟨k, rfl⟩ := Int.eq_ofNat_of_zero_le hg
  have hop : ((w.alloc (.cells #[.int .i64 (N : Int), .slice va V.length vc, .slice ra R.length rc] 28)).alloc (.cells #[.int .i64 (12), .int .i64 i, .int .i64 e, .int .i64 (k : Int), .int .i64 px, .int .i64 py] 109)).cell? ⟨w.heap.size + 1, 0, none⟩ = some (.int .i64 12) := by simp
  have hrl : R.length < 63 := by omega
  have hgl : (groupOf ⟨N, V, R⟩ k).length ≤ N := gather_le _ _ _ OK.out
  have HGL := Lib.hid hgl
  clear hgl
  by_cases hk : (k : Int) < p2 R.length
  · have hN : valN ⟨N, V, R⟩ 12 i k x y = (relBox (meetOf ⟨N, V, R⟩ k) x, true) := by
      unfold valN; simp; omega
    have HN := Lib.hid hN
    clear hN
    go_enter Tryz.func144, Tryz.ntmps144
    go_wp2_with fail
    go_quiet (fail)
    go_wp2_with (first | (go_at_call 176; refine (meet_any ⟨N, V, R⟩ va ra vc rc k _ (HM.out.ext ((Ext.refl _).drewN _))).mono ?_; rintro en w1 ⟨a1, c1, rfl, hu1, hE1⟩; have q := hE1.cell hop) | (go_at_call 174; refine (relBox_any _ _ _ x _ hu1).mono ?_; rintro en w2 ⟨rfl, rfl⟩))
    go_ret2
    exact ⟨by rw [HN.out]; rfl, (HE.out.drewN _).trans hE1⟩
  · have hN : valN ⟨N, V, R⟩ 12 i k x y = (0#64, false) := by unfold valN; simp; omega
    have HN := Lib.hid hN
    clear hN
    go_enter Tryz.func144, Tryz.ntmps144
    go_wp2_with fail
    go_quiet (fail)
    go_wp2
    go_ret2
    exact ⟨by rw [HN.out]; rfl, HE.out.drewN _⟩

set_option maxRecDepth 20000 in
set_option maxHeartbeats 2000000 in
theorem value_13 (M : Mo) (va ra : Option Addr) (vc rc : Nat) (i e g px py : Int) (x y : BitVec 64) (w : World) (hm : RM w va ra M) (N : Nat) (ok : MoOk M N) (hg : 0 ≤ g) :
    Calls Tryz.prog 144 #[.agg #[.int .i64 M.worlds, .slice va M.val.length vc, .slice ra M.rel.length rc], .agg #[.int .i64 13, .int .i64 i, .int .i64 e, .int .i64 g, .int .i64 px, .int .i64 py], .int .u64 (un x), .int .u64 (un y)] w fun en w' => RetV (valN M 13 i g x y) en w w' := by
  have hW := ok.worlds
  have hn1 := ok.one
  have hn64 := ok.most
  have hr4 := ok.rel
  have hv8 := ok.val
  have hsh := div_max N hn1 hn64
  have hs64 := sub64 N hn1 hn64
  have hE0 := ((Ext.refl w).alloc (.cells #[.int .i64 M.worlds, .slice va M.val.length vc, .slice ra M.rel.length rc] 28)).alloc (.cells #[.int .i64 (13), .int .i64 i, .int .i64 e, .int .i64 g, .int .i64 px, .int .i64 py] 109)
  have HE := Lib.hid hE0
  have HM := Lib.hid (hm.ext hE0)
  have OK := Lib.hid ok
  have hT : M.worlds.toNat = N := by omega
  have HT := Lib.hid hT
  clear hE0 ok hT hm
  obtain ⟨W, V, R⟩ := M
  dsimp only at hW hr4 hv8
  subst hW
  obtain ⟨k, rfl⟩ := Int.eq_ofNat_of_zero_le hg
  have hop : ((w.alloc (.cells #[.int .i64 (N : Int), .slice va V.length vc, .slice ra R.length rc] 28)).alloc (.cells #[.int .i64 (13), .int .i64 i, .int .i64 e, .int .i64 (k : Int), .int .i64 px, .int .i64 py] 109)).cell? ⟨w.heap.size + 1, 0, none⟩ = some (.int .i64 13) := by simp
  have hrl : R.length < 63 := by omega
  have hgl : (groupOf ⟨N, V, R⟩ k).length ≤ N := gather_le _ _ _ OK.out
  have HGL := Lib.hid hgl
  clear hgl
  by_cases hk : (k : Int) < p2 R.length
  · have hN : valN ⟨N, V, R⟩ 13 i k x y = (cmn (groupOf ⟨N, V, R⟩ k) N x y, true) := by
      unfold valN; simp; omega
    have HN := Lib.hid hN
    clear hN
    go_enter Tryz.func144, Tryz.ntmps144
    go_wp2_with fail
    go_quiet (fail)
    go_wp2_with (first | (go_at_call 177; refine (group_any ⟨N, V, R⟩ va ra vc rc k _ (HM.out.ext ((Ext.refl _).drewN _))).mono ?_; rintro en w1 ⟨a1, c1, rfl, hu1, hE1⟩; have q := hE1.cell hop) | (go_at_call 178; refine (common_any _ _ _ N x y _ hu1 (by have := HGL.out; omega)).mono ?_; rintro en w2 ⟨rfl, rfl⟩))
    go_ret2
    exact ⟨by rw [HN.out]; rfl, (HE.out.drewN _).trans hE1⟩
  · have hN : valN ⟨N, V, R⟩ 13 i k x y = (0#64, false) := by unfold valN; simp; omega
    have HN := Lib.hid hN
    clear hN
    go_enter Tryz.func144, Tryz.ntmps144
    go_wp2_with fail
    go_quiet (fail)
    go_wp2
    go_ret2
    exact ⟨by rw [HN.out]; rfl, HE.out.drewN _⟩

set_option maxRecDepth 20000 in
set_option maxHeartbeats 2000000 in
theorem value_other (o : Int) (M : Mo) (va ra : Option Addr) (vc rc : Nat) (i e g px py : Int) (x y : BitVec 64) (w : World) (hm : RM w va ra M) (N : Nat) (ok : MoOk M N) (ho : o < 1 ∨ 13 < o) :
    Calls Tryz.prog 144 #[.agg #[.int .i64 M.worlds, .slice va M.val.length vc, .slice ra M.rel.length rc], .agg #[.int .i64 o, .int .i64 i, .int .i64 e, .int .i64 g, .int .i64 px, .int .i64 py], .int .u64 (un x), .int .u64 (un y)] w fun en w' => RetV (valN M o i g x y) en w w' := by
  have hW := ok.worlds
  have hn1 := ok.one
  have hn64 := ok.most
  have hr4 := ok.rel
  have hv8 := ok.val
  have hsh := div_max N hn1 hn64
  have hs64 := sub64 N hn1 hn64
  have hE0 := ((Ext.refl w).alloc (.cells #[.int .i64 M.worlds, .slice va M.val.length vc, .slice ra M.rel.length rc] 28)).alloc (.cells #[.int .i64 (o), .int .i64 i, .int .i64 e, .int .i64 g, .int .i64 px, .int .i64 py] 109)
  have HE := Lib.hid hE0
  have HM := Lib.hid (hm.ext hE0)
  have OK := Lib.hid ok
  have hT : M.worlds.toNat = N := by omega
  have HT := Lib.hid hT
  clear hE0 ok hT hm
  obtain ⟨W, V, R⟩ := M
  dsimp only at hW hr4 hv8
  subst hW
  have hN : valN ⟨N, V, R⟩ o i g x y = (0#64, false) := by
    unfold valN
    repeat rw [if_neg (by omega)]
  have HN := Lib.hid hN
  clear hN
  have o1 : (o == 1) = false := by simp; omega
  have o2 : (o == 2) = false := by simp; omega
  have o3 : (o == 3) = false := by simp; omega
  have o4 : (o == 4) = false := by simp; omega
  have o5 : (o == 5) = false := by simp; omega
  have o6 : (o == 6) = false := by simp; omega
  have o7 : (o == 7) = false := by simp; omega
  have o8 : (o == 8) = false := by simp; omega
  have o9 : (o == 9) = false := by simp; omega
  have o10 : (o == 10) = false := by simp; omega
  have o11 : (o == 11) = false := by simp; omega
  have o12 : (o == 12) = false := by simp; omega
  have o13 : (o == 13) = false := by simp; omega
  clear ho
  go_enter Tryz.func144, Tryz.ntmps144
  go_wp2
  go_ret2
  exact ⟨by rw [HN.out]; rfl, HE.out⟩

set_option maxHeartbeats 1000000 in
theorem value_any (M : Mo) (va ra : Option Addr) (vc rc : Nat) (n : Nd) (x y : BitVec 64) (w : World) (hm : RM w va ra M) (N : Nat) (ok : MoOk M N) (hi : 0 ≤ n.i) (hg : 0 ≤ n.g) :
    Calls Tryz.prog 144 #[.agg #[.int .i64 M.worlds, .slice va M.val.length vc, .slice ra M.rel.length rc], .agg #[.int .i64 n.op, .int .i64 n.i, .int .i64 n.e, .int .i64 n.g, .int .i64 n.x, .int .i64 n.y], .int .u64 (un x), .int .u64 (un y)] w fun en w' => RetV (valN M n.op n.i n.g x y) en w w' := by
  obtain ⟨o, i, e, g, px, py⟩ := n
  dsimp only at hi hg ⊢
  by_cases ho : o < 1 ∨ 13 < o
  · exact value_other o M va ra vc rc i e g px py x y w hm N ok ho
  · rcases (show o = 1 ∨ o = 2 ∨ o = 3 ∨ o = 4 ∨ o = 5 ∨ o = 6 ∨ o = 7 ∨ o = 8 ∨ o = 9 ∨ o = 10 ∨ o = 11 ∨ o = 12 ∨ o = 13 by omega) with rfl | rfl | rfl | rfl | rfl | rfl | rfl | rfl | rfl | rfl | rfl | rfl | rfl
    · exact value_1 M va ra vc rc i e g px py x y w hm N ok
    · exact value_2 M va ra vc rc i e g px py x y w hm N ok
    · exact value_3 M va ra vc rc i e g px py x y w hm N ok hi
    · exact value_4 M va ra vc rc i e g px py x y w hm N ok
    · exact value_5 M va ra vc rc i e g px py x y w hm N ok
    · exact value_6 M va ra vc rc i e g px py x y w hm N ok
    · exact value_7 M va ra vc rc i e g px py x y w hm N ok
    · exact value_8 M va ra vc rc i e g px py x y w hm N ok
    · exact value_9 M va ra vc rc i e g px py x y w hm N ok hi
    · exact value_10 M va ra vc rc i e g px py x y w hm N ok hi
    · exact value_11 M va ra vc rc i e g px py x y w hm N ok hg
    · exact value_12 M va ra vc rc i e g px py x y w hm N ok hg
    · exact value_13 M va ra vc rc i e g px py x y w hm N ok hg
end Wt
