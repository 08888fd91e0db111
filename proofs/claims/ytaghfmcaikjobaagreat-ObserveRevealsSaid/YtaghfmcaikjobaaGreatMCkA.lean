/- Walks: checker.common, request. -/
import Derived.Test.YtaghfmcaikjobaaGreatMBld
import Derived.StillTailTactics
import Derived.Deep.RegionWith
import Derived.RegionTactic
import Derived.WalkKit
namespace Wt
open Go Go.RowKit Go.Proofs Fm

def bvOf (v : Value) : Nat := match v with | .int _ z => z.toNat | _ => 0
theorem bvOf_un (s : BitVec 64) : bvOf (.int .u64 (un s)) = s.toNat := by simp [bvOf, un]
set_option maxHeartbeats 1000000 in
theorem common_any (a : Option Addr) (r : List (BitVec 64)) (cc : Nat) (n : Nat) (c s : BitVec 64) (w : World) (hr : RU w a r) (hn : r.length ≤ n) :
    Calls Tryz.prog 54 #[.slice a r.length cc, .int .u64 (un (allW n)), .int .u64 (un c), .int .u64 (un s)] w fun e w' => e = .returned (.int .u64 (un (cmn r n c s))) ∧ w = w' := by
  have hl := hr.len
  have HS := Lib.hid (cmn_of r n hn c s)
  have HM := Lib.hid (cmnI_step r n hn c s)
  go_enter Tryz.func54, Tryz.ntmps54
  go_wp2
  go_loop [9] (fun o => ∃ k : Nat, o = .int .u64 (un (cmnI r n c s k))) (fun o => bvOf o)
  case atStart => exact ⟨0, rfl⟩
  case round =>
    obtain ⟨k, rfl⟩ := hrel
    by_cases hq : cmnI r n c s (k + 1) = cmnI r n c s k
    · have hq2 : (cmnI r n c s (k + 1) == cmnI r n c s k) = true := by simp [hq]
      have HQ := Lib.hid hq
      clear hq
      go_wp2_with (go_at_call 50; refine (relBox_any _ _ _ ((allW n &&& ~~~ c) ||| (s &&& cmnI r n c s k)) _ hr).mono ?_; rintro e w1 ⟨rfl, rfl⟩; rw [show relBox r ((allW n &&& ~~~ c) ||| (s &&& cmnI r n c s k)) = cmnI r n c s (k + 1) from rfl])
      go_ret
      exact ⟨by rw [← HS.out k HQ.out]; rfl, rfl⟩
    · have hq2 : (cmnI r n c s (k + 1) == cmnI r n c s k) = false := by simp [hq]
      have hlt := sub_toNat_lt (HM.out k) hq
      have HQ := Lib.hid hlt
      clear hq hlt
      go_wp2_with (go_at_call 50; refine (relBox_any _ _ _ ((allW n &&& ~~~ c) ||| (s &&& cmnI r n c s k)) _ hr).mono ?_; rintro e w1 ⟨rfl, rfl⟩; rw [show relBox r ((allW n &&& ~~~ c) ||| (s &&& cmnI r n c s k)) = cmnI r n c s (k + 1) from rfl])
      go_round
      case rel => exact ⟨k + 1, rfl⟩
      case measure => rw [bvOf_un, bvOf_un]; exact HQ.out
/-- The error of a request. -/
def reqErr (M : Mo) (f : List Nd) : Int :=
  if moCheck M ≠ 0 then moCheck M else if fCheck f ≠ 0 then fCheck f else if 16 ≤ fFrags f then 10 else if fFits f M.rel.length M.val.length = false then 2 else 0
set_option maxRecDepth 100000 in
theorem andNot15 (k : Nat) (h : k < 512) : ((k &&& 4294967280 : Nat) = 0) ↔ k < 16 := by
  have : ∀ k : _root_.Fin 512, (((k.val &&& 4294967280 : Nat) = 0) ↔ k.val < 16) := by decide +kernel
  exact this ⟨k, h⟩
set_option maxHeartbeats 1000000 in
theorem request_any (M : Mo) (va ra : Option Addr) (vc rc : Nat) (fa : Option Addr) (fc : Nat) (f : List Nd) (w : World) (hm : RM w va ra M) (hf : RN w fa f) :
    Calls Tryz.prog 32 #[.agg #[.int .i64 M.worlds, .slice va M.val.length vc, .slice ra M.rel.length rc], .slice fa f.length fc] w fun e w' => e = .returned (.int .i64 (reqErr M f)) ∧ Ext w w' := by
  have hE0 := (Ext.refl w).alloc (.cells #[.int .i64 M.worlds, .slice va M.val.length vc, .slice ra M.rel.length rc] 25)
  have hm0 := hm.ext hE0
  obtain ⟨m0, m1, m2⟩ := MoBox.new w M.worlds M.val M.rel va vc ra rc 25
  have HE := Lib.hid hE0
  have HF := Lib.hid hf
  have hvl := hm.val.len
  have hrl := hm.rel.len
  clear hE0 hf hm
  by_cases h1 : moCheck M = 0
  · have H1 := Lib.hid h1
    by_cases h2 : fCheck f = 0
    · have H2 := Lib.hid h2
      have hfr := unionL_lt fragN fragN_lt (fCompact f)
      have hfr2 : fFrags f < 512 := hfr
      have han : bits .andNot .i64 (fFrags f : Int) 15 = ((fFrags f &&& 4294967280 : Nat) : Int) := andNot_nat (fFrags f) 15 (by omega) (by omega)
      by_cases h3 : 16 ≤ fFrags f
      · have hn : reqErr M f = 10 := by unfold reqErr; rw [if_neg (by simp [h1]), if_neg (by simp [h2]), if_pos h3]
        have HN := Lib.hid hn
        have hq : (((fFrags f &&& 4294967280 : Nat) : Int) != 0) = true := by
          have := andNot15 (fFrags f) hfr2
          simp; omega
        clear h1 h2 h3 hn hfr hfr2
        go_enter Tryz.func32, Tryz.ntmps32
        go_wp2_with (first | (go_at_call 24; refine (modelCheck_any M va ra vc rc _ hm0).mono ?_; rintro e w1 ⟨rfl, hE1⟩; rw [H1.out]; have q0 := hE1.cell m0; have q1 := hE1.cell m1; have q2 := hE1.cell m2; clear m0 m1 m2) | (go_at_call 43; refine (check_any _ _ f _ (HF.out.ext (HE.out.trans hE1))).mono ?_; rintro e w2 ⟨rfl, hE2⟩; rw [H2.out]; have p0 := hE2.cell q0; have p1 := hE2.cell q1; have p2 := hE2.cell q2; clear q0 q1 q2; have hA := (HE.out.trans hE1).trans hE2) | (go_at_call 44; refine (frags_any _ _ f _ (HF.out.ext hA)).mono ?_; rintro e w3 ⟨rfl, hE3⟩))
        go_ret
        exact ⟨by rw [HN.out]; rfl, hA.trans hE3⟩
      · have hq : (((fFrags f &&& 4294967280 : Nat) : Int) != 0) = false := by
          have := andNot15 (fFrags f) hfr2
          simp; omega
        cases h4 : fFits f M.rel.length M.val.length
        · have hn : reqErr M f = 2 := by unfold reqErr; rw [if_neg (by simp [h1]), if_neg (by simp [h2]), if_neg h3, if_pos h4]
          have HN := Lib.hid hn
          have H4 := Lib.hid h4
          clear h1 h2 h3 hn hfr hfr2 h4
          go_enter Tryz.func32, Tryz.ntmps32
          go_wp2_with (first | (go_at_call 24; refine (modelCheck_any M va ra vc rc _ hm0).mono ?_; rintro e w1 ⟨rfl, hE1⟩; rw [H1.out]; have q0 := hE1.cell m0; have q1 := hE1.cell m1; have q2 := hE1.cell m2; clear m0 m1 m2) | (go_at_call 43; refine (check_any _ _ f _ (HF.out.ext (HE.out.trans hE1))).mono ?_; rintro e w2 ⟨rfl, hE2⟩; rw [H2.out]; have p0 := hE2.cell q0; have p1 := hE2.cell q1; have p2 := hE2.cell q2; clear q0 q1 q2; have hA := (HE.out.trans hE1).trans hE2) | (go_at_call 44; refine (frags_any _ _ f _ (HF.out.ext hA)).mono ?_; rintro e w3 ⟨rfl, hE3⟩; have s0 := hE3.cell p0; have s1 := hE3.cell p1; have s2 := hE3.cell p2; clear p0 p1 p2; have hB := hA.trans hE3) | (go_at_call 45; refine (fits_any _ _ f _ _ _ (HF.out.ext hB)).mono ?_; rintro e w4 ⟨rfl, hE4⟩; rw [H4.out]))
          go_ret
          exact ⟨by rw [HN.out]; rfl, hB.trans hE4⟩
        · have hn : reqErr M f = 0 := by unfold reqErr; rw [if_neg (by simp [h1]), if_neg (by simp [h2]), if_neg h3, if_neg (by simp [h4])]
          have HN := Lib.hid hn
          have H4 := Lib.hid h4
          clear h1 h2 h3 hn hfr hfr2 h4
          go_enter Tryz.func32, Tryz.ntmps32
          go_wp2_with (first | (go_at_call 24; refine (modelCheck_any M va ra vc rc _ hm0).mono ?_; rintro e w1 ⟨rfl, hE1⟩; rw [H1.out]; have q0 := hE1.cell m0; have q1 := hE1.cell m1; have q2 := hE1.cell m2; clear m0 m1 m2) | (go_at_call 43; refine (check_any _ _ f _ (HF.out.ext (HE.out.trans hE1))).mono ?_; rintro e w2 ⟨rfl, hE2⟩; rw [H2.out]; have p0 := hE2.cell q0; have p1 := hE2.cell q1; have p2 := hE2.cell q2; clear q0 q1 q2; have hA := (HE.out.trans hE1).trans hE2) | (go_at_call 44; refine (frags_any _ _ f _ (HF.out.ext hA)).mono ?_; rintro e w3 ⟨rfl, hE3⟩; have s0 := hE3.cell p0; have s1 := hE3.cell p1; have s2 := hE3.cell p2; clear p0 p1 p2; have hB := hA.trans hE3) | (go_at_call 45; refine (fits_any _ _ f _ _ _ (HF.out.ext hB)).mono ?_; rintro e w4 ⟨rfl, hE4⟩; rw [H4.out]))
          go_ret
          exact ⟨by rw [HN.out]; rfl, hB.trans hE4⟩
    · have hn : reqErr M f = fCheck f := by unfold reqErr; rw [if_neg (by simp [h1]), if_pos h2]
      have HN := Lib.hid hn
      have hq2 : (fCheck f != 0) = true := by simp [h2]
      clear h1 h2 hn
      go_enter Tryz.func32, Tryz.ntmps32
      go_wp2_with (first | (go_at_call 24; refine (modelCheck_any M va ra vc rc _ hm0).mono ?_; rintro e w1 ⟨rfl, hE1⟩; rw [H1.out]; have q0 := hE1.cell m0; have q1 := hE1.cell m1; have q2 := hE1.cell m2; clear m0 m1 m2) | (go_at_call 43; refine (check_any _ _ f _ (HF.out.ext (HE.out.trans hE1))).mono ?_; rintro e w2 ⟨rfl, hE2⟩))
      go_ret
      exact ⟨by rw [HN.out]; rfl, (HE.out.trans hE1).trans hE2⟩
  · have hn : reqErr M f = moCheck M := by unfold reqErr; rw [if_pos h1]
    have HN := Lib.hid hn
    have hq2 : (moCheck M != 0) = true := by simp [h1]
    clear h1 hn
    go_enter Tryz.func32, Tryz.ntmps32
    go_wp2_with (go_at_call 24; refine (modelCheck_any M va ra vc rc _ hm0).mono ?_; rintro e w1 ⟨rfl, hE1⟩)
    go_ret
    exact ⟨by rw [HN.out]; rfl, HE.out.trans hE1⟩
end Wt

/- Walks: checker.value (printed by gen_ckb.py). -/
namespace Wt
open Go Go.RowKit Go.Proofs Fm

theorem allOnes_shr (n : Nat) (h1 : 1 ≤ n) (h : n ≤ 64) : 18446744073709551615#64 >>> (64 - n) = allW n := by
  refine bt_ext fun k hk => ?_
  rw [bt_allW]
  have e : (18446744073709551615#64 : BitVec 64) = BitVec.allOnes 64 := by decide
  rw [e]
  unfold bt
  rw [BitVec.getLsbD_ushiftRight, BitVec.getLsbD_allOnes, Bool.eq_iff_iff]
  simp; omega
/-- All worlds, as the code computes them. -/
theorem div_max (n : Nat) (h1 : 1 ≤ n) (h : n ≤ 64) : (18446744073709551615 : Int) / 2 ^ (64 - n) = un (allW n) := by
  rw [← allOnes_shr n h1 h]
  unfold un
  rw [BitVec.toNat_ushiftRight, Nat.shiftRight_eq_div_pow]
  simp
theorem sub64 (n : Nat) (h1 : 1 ≤ n) (h : n ≤ 64) : IntKind.i64.wrap (64 - (n : Int)) = 64 - (n : Int) := IntWalk.i64_in _ (by omega)
def RetV (p : BitVec 64 × Bool) (e : Ending) (w w' : World) : Prop := e = .returned (.tuple #[.int .u64 (un p.1), .bool p.2]) ∧ Ext w w'

set_option maxRecDepth 20000 in
set_option maxHeartbeats 2000000 in
theorem value_1 (M : Mo) (va ra : Option Addr) (vc rc : Nat) (i e g px py : Int) (x y : BitVec 64) (w : World) (hm : RM w va ra M) (N : Nat) (ok : MoOk M N) :
    Calls Tryz.prog 33 #[.agg #[.int .i64 M.worlds, .slice va M.val.length vc, .slice ra M.rel.length rc], .agg #[.int .i64 1, .int .i64 i, .int .i64 e, .int .i64 g, .int .i64 px, .int .i64 py], .int .u64 (un x), .int .u64 (un y)] w fun en w' => RetV (valN M 1 i g x y) en w w' := by
  have hW := ok.worlds
  have hn1 := ok.one
  have hn64 := ok.most
  have hr4 := ok.rel
  have hv8 := ok.val
  have hsh := div_max N hn1 hn64
  have hs64 := sub64 N hn1 hn64
  have hE0 := ((Ext.refl w).alloc (.cells #[.int .i64 M.worlds, .slice va M.val.length vc, .slice ra M.rel.length rc] 25)).alloc (.cells #[.int .i64 (1), .int .i64 i, .int .i64 e, .int .i64 g, .int .i64 px, .int .i64 py] 62)
  have HE := Lib.hid hE0
  have HM := Lib.hid (hm.ext hE0)
  have OK := Lib.hid ok
  have hT : M.worlds.toNat = N := by omega
  have HT := Lib.hid hT
  clear hE0 ok hT hm
  obtain ⟨W, V, R⟩ := M
  dsimp only at hW hr4 hv8
  subst hW
  have hN : valN ⟨N, V, R⟩ 1 i g x y = (allW N, true) := by
    have h0 := HT.out
    dsimp only at h0
    unfold valN; simp
  have HN := Lib.hid hN
  clear hN
  go_enter Tryz.func33, Tryz.ntmps33
  go_wp2
  go_ret2
  exact ⟨by rw [HN.out]; rfl, HE.out⟩

set_option maxRecDepth 20000 in
set_option maxHeartbeats 2000000 in
theorem value_2 (M : Mo) (va ra : Option Addr) (vc rc : Nat) (i e g px py : Int) (x y : BitVec 64) (w : World) (hm : RM w va ra M) (N : Nat) (ok : MoOk M N) :
    Calls Tryz.prog 33 #[.agg #[.int .i64 M.worlds, .slice va M.val.length vc, .slice ra M.rel.length rc], .agg #[.int .i64 2, .int .i64 i, .int .i64 e, .int .i64 g, .int .i64 px, .int .i64 py], .int .u64 (un x), .int .u64 (un y)] w fun en w' => RetV (valN M 2 i g x y) en w w' := by
  have hW := ok.worlds
  have hn1 := ok.one
  have hn64 := ok.most
  have hr4 := ok.rel
  have hv8 := ok.val
  have hsh := div_max N hn1 hn64
  have hs64 := sub64 N hn1 hn64
  have hE0 := ((Ext.refl w).alloc (.cells #[.int .i64 M.worlds, .slice va M.val.length vc, .slice ra M.rel.length rc] 25)).alloc (.cells #[.int .i64 (2), .int .i64 i, .int .i64 e, .int .i64 g, .int .i64 px, .int .i64 py] 62)
  have HE := Lib.hid hE0
  have HM := Lib.hid (hm.ext hE0)
  have OK := Lib.hid ok
  have hT : M.worlds.toNat = N := by omega
  have HT := Lib.hid hT
  clear hE0 ok hT hm
  obtain ⟨W, V, R⟩ := M
  dsimp only at hW hr4 hv8
  subst hW
  have hN : valN ⟨N, V, R⟩ 2 i g x y = (0#64, true) := by
    have h0 := HT.out
    dsimp only at h0
    unfold valN; simp
  have HN := Lib.hid hN
  clear hN
  go_enter Tryz.func33, Tryz.ntmps33
  go_wp2
  go_ret2
  exact ⟨by rw [HN.out]; rfl, HE.out⟩

set_option maxRecDepth 20000 in
set_option maxHeartbeats 2000000 in
theorem value_4 (M : Mo) (va ra : Option Addr) (vc rc : Nat) (i e g px py : Int) (x y : BitVec 64) (w : World) (hm : RM w va ra M) (N : Nat) (ok : MoOk M N) :
    Calls Tryz.prog 33 #[.agg #[.int .i64 M.worlds, .slice va M.val.length vc, .slice ra M.rel.length rc], .agg #[.int .i64 4, .int .i64 i, .int .i64 e, .int .i64 g, .int .i64 px, .int .i64 py], .int .u64 (un x), .int .u64 (un y)] w fun en w' => RetV (valN M 4 i g x y) en w w' := by
  have hW := ok.worlds
  have hn1 := ok.one
  have hn64 := ok.most
  have hr4 := ok.rel
  have hv8 := ok.val
  have hsh := div_max N hn1 hn64
  have hs64 := sub64 N hn1 hn64
  have hE0 := ((Ext.refl w).alloc (.cells #[.int .i64 M.worlds, .slice va M.val.length vc, .slice ra M.rel.length rc] 25)).alloc (.cells #[.int .i64 (4), .int .i64 i, .int .i64 e, .int .i64 g, .int .i64 px, .int .i64 py] 62)
  have HE := Lib.hid hE0
  have HM := Lib.hid (hm.ext hE0)
  have OK := Lib.hid ok
  have hT : M.worlds.toNat = N := by omega
  have HT := Lib.hid hT
  clear hE0 ok hT hm
  obtain ⟨W, V, R⟩ := M
  dsimp only at hW hr4 hv8
  subst hW
  have hN : valN ⟨N, V, R⟩ 4 i g x y = (allW N &&& ~~~ x, true) := by
    have h0 := HT.out
    dsimp only at h0
    unfold valN; simp
  have HN := Lib.hid hN
  clear hN
  go_enter Tryz.func33, Tryz.ntmps33
  go_wp2
  go_ret2
  exact ⟨by rw [HN.out]; rfl, HE.out⟩

set_option maxRecDepth 20000 in
set_option maxHeartbeats 2000000 in
theorem value_5 (M : Mo) (va ra : Option Addr) (vc rc : Nat) (i e g px py : Int) (x y : BitVec 64) (w : World) (hm : RM w va ra M) (N : Nat) (ok : MoOk M N) :
    Calls Tryz.prog 33 #[.agg #[.int .i64 M.worlds, .slice va M.val.length vc, .slice ra M.rel.length rc], .agg #[.int .i64 5, .int .i64 i, .int .i64 e, .int .i64 g, .int .i64 px, .int .i64 py], .int .u64 (un x), .int .u64 (un y)] w fun en w' => RetV (valN M 5 i g x y) en w w' := by
  have hW := ok.worlds
  have hn1 := ok.one
  have hn64 := ok.most
  have hr4 := ok.rel
  have hv8 := ok.val
  have hsh := div_max N hn1 hn64
  have hs64 := sub64 N hn1 hn64
  have hE0 := ((Ext.refl w).alloc (.cells #[.int .i64 M.worlds, .slice va M.val.length vc, .slice ra M.rel.length rc] 25)).alloc (.cells #[.int .i64 (5), .int .i64 i, .int .i64 e, .int .i64 g, .int .i64 px, .int .i64 py] 62)
  have HE := Lib.hid hE0
  have HM := Lib.hid (hm.ext hE0)
  have OK := Lib.hid ok
  have hT : M.worlds.toNat = N := by omega
  have HT := Lib.hid hT
  clear hE0 ok hT hm
  obtain ⟨W, V, R⟩ := M
  dsimp only at hW hr4 hv8
  subst hW
  have hN : valN ⟨N, V, R⟩ 5 i g x y = (x &&& y, true) := by
    have h0 := HT.out
    dsimp only at h0
    unfold valN; simp
  have HN := Lib.hid hN
  clear hN
  go_enter Tryz.func33, Tryz.ntmps33
  go_wp2
  go_ret2
  exact ⟨by rw [HN.out]; rfl, HE.out⟩

set_option maxRecDepth 20000 in
set_option maxHeartbeats 2000000 in
theorem value_6 (M : Mo) (va ra : Option Addr) (vc rc : Nat) (i e g px py : Int) (x y : BitVec 64) (w : World) (hm : RM w va ra M) (N : Nat) (ok : MoOk M N) :
    Calls Tryz.prog 33 #[.agg #[.int .i64 M.worlds, .slice va M.val.length vc, .slice ra M.rel.length rc], .agg #[.int .i64 6, .int .i64 i, .int .i64 e, .int .i64 g, .int .i64 px, .int .i64 py], .int .u64 (un x), .int .u64 (un y)] w fun en w' => RetV (valN M 6 i g x y) en w w' := by
  have hW := ok.worlds
  have hn1 := ok.one
  have hn64 := ok.most
  have hr4 := ok.rel
  have hv8 := ok.val
  have hsh := div_max N hn1 hn64
  have hs64 := sub64 N hn1 hn64
  have hE0 := ((Ext.refl w).alloc (.cells #[.int .i64 M.worlds, .slice va M.val.length vc, .slice ra M.rel.length rc] 25)).alloc (.cells #[.int .i64 (6), .int .i64 i, .int .i64 e, .int .i64 g, .int .i64 px, .int .i64 py] 62)
  have HE := Lib.hid hE0
  have HM := Lib.hid (hm.ext hE0)
  have OK := Lib.hid ok
  have hT : M.worlds.toNat = N := by omega
  have HT := Lib.hid hT
  clear hE0 ok hT hm
  obtain ⟨W, V, R⟩ := M
  dsimp only at hW hr4 hv8
  subst hW
  have hN : valN ⟨N, V, R⟩ 6 i g x y = (x ||| y, true) := by
    have h0 := HT.out
    dsimp only at h0
    unfold valN; simp
  have HN := Lib.hid hN
  clear hN
  go_enter Tryz.func33, Tryz.ntmps33
  go_wp2
  go_ret2
  exact ⟨by rw [HN.out]; rfl, HE.out⟩

set_option maxRecDepth 20000 in
set_option maxHeartbeats 2000000 in
theorem value_7 (M : Mo) (va ra : Option Addr) (vc rc : Nat) (i e g px py : Int) (x y : BitVec 64) (w : World) (hm : RM w va ra M) (N : Nat) (ok : MoOk M N) :
    Calls Tryz.prog 33 #[.agg #[.int .i64 M.worlds, .slice va M.val.length vc, .slice ra M.rel.length rc], .agg #[.int .i64 7, .int .i64 i, .int .i64 e, .int .i64 g, .int .i64 px, .int .i64 py], .int .u64 (un x), .int .u64 (un y)] w fun en w' => RetV (valN M 7 i g x y) en w w' := by
  have hW := ok.worlds
  have hn1 := ok.one
  have hn64 := ok.most
  have hr4 := ok.rel
  have hv8 := ok.val
  have hsh := div_max N hn1 hn64
  have hs64 := sub64 N hn1 hn64
  have hE0 := ((Ext.refl w).alloc (.cells #[.int .i64 M.worlds, .slice va M.val.length vc, .slice ra M.rel.length rc] 25)).alloc (.cells #[.int .i64 (7), .int .i64 i, .int .i64 e, .int .i64 g, .int .i64 px, .int .i64 py] 62)
  have HE := Lib.hid hE0
  have HM := Lib.hid (hm.ext hE0)
  have OK := Lib.hid ok
  have hT : M.worlds.toNat = N := by omega
  have HT := Lib.hid hT
  clear hE0 ok hT hm
  obtain ⟨W, V, R⟩ := M
  dsimp only at hW hr4 hv8
  subst hW
  have hN : valN ⟨N, V, R⟩ 7 i g x y = ((allW N &&& ~~~ x) ||| y, true) := by
    have h0 := HT.out
    dsimp only at h0
    unfold valN; simp
  have HN := Lib.hid hN
  clear hN
  go_enter Tryz.func33, Tryz.ntmps33
  go_wp2
  go_ret2
  exact ⟨by rw [HN.out]; rfl, HE.out⟩

set_option maxRecDepth 20000 in
set_option maxHeartbeats 2000000 in
theorem value_8 (M : Mo) (va ra : Option Addr) (vc rc : Nat) (i e g px py : Int) (x y : BitVec 64) (w : World) (hm : RM w va ra M) (N : Nat) (ok : MoOk M N) :
    Calls Tryz.prog 33 #[.agg #[.int .i64 M.worlds, .slice va M.val.length vc, .slice ra M.rel.length rc], .agg #[.int .i64 8, .int .i64 i, .int .i64 e, .int .i64 g, .int .i64 px, .int .i64 py], .int .u64 (un x), .int .u64 (un y)] w fun en w' => RetV (valN M 8 i g x y) en w w' := by
  have hW := ok.worlds
  have hn1 := ok.one
  have hn64 := ok.most
  have hr4 := ok.rel
  have hv8 := ok.val
  have hsh := div_max N hn1 hn64
  have hs64 := sub64 N hn1 hn64
  have hE0 := ((Ext.refl w).alloc (.cells #[.int .i64 M.worlds, .slice va M.val.length vc, .slice ra M.rel.length rc] 25)).alloc (.cells #[.int .i64 (8), .int .i64 i, .int .i64 e, .int .i64 g, .int .i64 px, .int .i64 py] 62)
  have HE := Lib.hid hE0
  have HM := Lib.hid (hm.ext hE0)
  have OK := Lib.hid ok
  have hT : M.worlds.toNat = N := by omega
  have HT := Lib.hid hT
  clear hE0 ok hT hm
  obtain ⟨W, V, R⟩ := M
  dsimp only at hW hr4 hv8
  subst hW
  have hN : valN ⟨N, V, R⟩ 8 i g x y = (allW N &&& ~~~ (x ^^^ y), true) := by
    have h0 := HT.out
    dsimp only at h0
    unfold valN; simp
  have HN := Lib.hid hN
  clear hN
  go_enter Tryz.func33, Tryz.ntmps33
  go_wp2
  go_ret2
  exact ⟨by rw [HN.out]; rfl, HE.out⟩

set_option maxRecDepth 20000 in
set_option maxHeartbeats 2000000 in
theorem value_3 (M : Mo) (va ra : Option Addr) (vc rc : Nat) (i e g px py : Int) (x y : BitVec 64) (w : World) (hm : RM w va ra M) (N : Nat) (ok : MoOk M N) (hi : 0 ≤ i) :
    Calls Tryz.prog 33 #[.agg #[.int .i64 M.worlds, .slice va M.val.length vc, .slice ra M.rel.length rc], .agg #[.int .i64 3, .int .i64 i, .int .i64 e, .int .i64 g, .int .i64 px, .int .i64 py], .int .u64 (un x), .int .u64 (un y)] w fun en w' => RetV (valN M 3 i g x y) en w w' := by
  have hW := ok.worlds
  have hn1 := ok.one
  have hn64 := ok.most
  have hr4 := ok.rel
  have hv8 := ok.val
  have hsh := div_max N hn1 hn64
  have hs64 := sub64 N hn1 hn64
  have hE0 := ((Ext.refl w).alloc (.cells #[.int .i64 M.worlds, .slice va M.val.length vc, .slice ra M.rel.length rc] 25)).alloc (.cells #[.int .i64 (3), .int .i64 i, .int .i64 e, .int .i64 g, .int .i64 px, .int .i64 py] 62)
  have HE := Lib.hid hE0
  have HM := Lib.hid (hm.ext hE0)
  have OK := Lib.hid ok
  have hT : M.worlds.toNat = N := by omega
  have HT := Lib.hid hT
  clear hE0 ok hT hm
  obtain ⟨W, V, R⟩ := M
  dsimp only at hW hr4 hv8
  subst hW
  obtain ⟨k, rfl⟩ := Int.eq_ofNat_of_zero_le hi
  by_cases hk : k < V.length
  · have hN : valN ⟨N, V, R⟩ 3 k g x y = (nth V k, true) := by unfold valN; simp; omega
    have HN := Lib.hid hN
    clear hN
    obtain ⟨b, off, rfl, hb, hc⟩ := HM.out.val.get (k := k) hk
    go_enter Tryz.func33, Tryz.ntmps33
    go_wp2
    go_ret2
    exact ⟨by rw [HN.out]; rfl, HE.out⟩
  · have hN : valN ⟨N, V, R⟩ 3 k g x y = (0#64, false) := by unfold valN; simp; omega
    have HN := Lib.hid hN
    clear hN
    go_enter Tryz.func33, Tryz.ntmps33
    go_wp2
    go_ret2
    exact ⟨by rw [HN.out]; rfl, HE.out⟩

set_option maxRecDepth 20000 in
set_option maxHeartbeats 2000000 in
theorem value_9 (M : Mo) (va ra : Option Addr) (vc rc : Nat) (i e g px py : Int) (x y : BitVec 64) (w : World) (hm : RM w va ra M) (N : Nat) (ok : MoOk M N) (hi : 0 ≤ i) :
    Calls Tryz.prog 33 #[.agg #[.int .i64 M.worlds, .slice va M.val.length vc, .slice ra M.rel.length rc], .agg #[.int .i64 9, .int .i64 i, .int .i64 e, .int .i64 g, .int .i64 px, .int .i64 py], .int .u64 (un x), .int .u64 (un y)] w fun en w' => RetV (valN M 9 i g x y) en w w' := by
  have hW := ok.worlds
  have hn1 := ok.one
  have hn64 := ok.most
  have hr4 := ok.rel
  have hv8 := ok.val
  have hsh := div_max N hn1 hn64
  have hs64 := sub64 N hn1 hn64
  have hE0 := ((Ext.refl w).alloc (.cells #[.int .i64 M.worlds, .slice va M.val.length vc, .slice ra M.rel.length rc] 25)).alloc (.cells #[.int .i64 (9), .int .i64 i, .int .i64 e, .int .i64 g, .int .i64 px, .int .i64 py] 62)
  have HE := Lib.hid hE0
  have HM := Lib.hid (hm.ext hE0)
  have OK := Lib.hid ok
  have hT : M.worlds.toNat = N := by omega
  have HT := Lib.hid hT
  clear hE0 ok hT hm
  obtain ⟨W, V, R⟩ := M
  dsimp only at hW hr4 hv8
  subst hW
  obtain ⟨k, rfl⟩ := Int.eq_ofNat_of_zero_le hi
  by_cases hk : k < R.length
  · have hN : valN ⟨N, V, R⟩ 9 k g x y = (relBox (nth R k) x, true) := by unfold valN; simp; omega
    have HN := Lib.hid hN
    clear hN
    obtain ⟨b, off, a', c', rfl, hb, hc, hu⟩ := HM.out.rel.get (k := k) hk
    go_enter Tryz.func33, Tryz.ntmps33
    go_wp2_with (go_at_call 50; refine (relBox_any _ _ _ x _ hu).mono ?_; rintro en w1 ⟨rfl, rfl⟩)
    go_ret2
    exact ⟨by rw [HN.out]; rfl, HE.out⟩
  · have hN : valN ⟨N, V, R⟩ 9 k g x y = (0#64, false) := by unfold valN; simp; omega
    have HN := Lib.hid hN
    clear hN
    go_enter Tryz.func33, Tryz.ntmps33
    go_wp2
    go_ret2
    exact ⟨by rw [HN.out]; rfl, HE.out⟩

set_option maxRecDepth 20000 in
set_option maxHeartbeats 2000000 in
theorem value_10 (M : Mo) (va ra : Option Addr) (vc rc : Nat) (i e g px py : Int) (x y : BitVec 64) (w : World) (hm : RM w va ra M) (N : Nat) (ok : MoOk M N) (hi : 0 ≤ i) :
    Calls Tryz.prog 33 #[.agg #[.int .i64 M.worlds, .slice va M.val.length vc, .slice ra M.rel.length rc], .agg #[.int .i64 10, .int .i64 i, .int .i64 e, .int .i64 g, .int .i64 px, .int .i64 py], .int .u64 (un x), .int .u64 (un y)] w fun en w' => RetV (valN M 10 i g x y) en w w' := by
  have hW := ok.worlds
  have hn1 := ok.one
  have hn64 := ok.most
  have hr4 := ok.rel
  have hv8 := ok.val
  have hsh := div_max N hn1 hn64
  have hs64 := sub64 N hn1 hn64
  have hE0 := ((Ext.refl w).alloc (.cells #[.int .i64 M.worlds, .slice va M.val.length vc, .slice ra M.rel.length rc] 25)).alloc (.cells #[.int .i64 (10), .int .i64 i, .int .i64 e, .int .i64 g, .int .i64 px, .int .i64 py] 62)
  have HE := Lib.hid hE0
  have HM := Lib.hid (hm.ext hE0)
  have OK := Lib.hid ok
  have hT : M.worlds.toNat = N := by omega
  have HT := Lib.hid hT
  clear hE0 ok hT hm
  obtain ⟨W, V, R⟩ := M
  dsimp only at hW hr4 hv8
  subst hW
  obtain ⟨k, rfl⟩ := Int.eq_ofNat_of_zero_le hi
  by_cases hk : k < R.length
  · have hN : valN ⟨N, V, R⟩ 10 k g x y = (relDia (nth R k) x, true) := by unfold valN; simp; omega
    have HN := Lib.hid hN
    clear hN
    obtain ⟨b, off, a', c', rfl, hb, hc, hu⟩ := HM.out.rel.get (k := k) hk
    go_enter Tryz.func33, Tryz.ntmps33
    go_wp2_with (go_at_call 51; refine (relDia_any _ _ _ x _ hu).mono ?_; rintro en w1 ⟨rfl, rfl⟩)
    go_ret2
    exact ⟨by rw [HN.out]; rfl, HE.out⟩
  · have hN : valN ⟨N, V, R⟩ 10 k g x y = (0#64, false) := by unfold valN; simp; omega
    have HN := Lib.hid hN
    clear hN
    go_enter Tryz.func33, Tryz.ntmps33
    go_wp2
    go_ret2
    exact ⟨by rw [HN.out]; rfl, HE.out⟩

set_option maxRecDepth 20000 in
set_option maxHeartbeats 2000000 in
theorem value_11 (M : Mo) (va ra : Option Addr) (vc rc : Nat) (i e g px py : Int) (x y : BitVec 64) (w : World) (hm : RM w va ra M) (N : Nat) (ok : MoOk M N) (hg : 0 ≤ g) :
    Calls Tryz.prog 33 #[.agg #[.int .i64 M.worlds, .slice va M.val.length vc, .slice ra M.rel.length rc], .agg #[.int .i64 11, .int .i64 i, .int .i64 e, .int .i64 g, .int .i64 px, .int .i64 py], .int .u64 (un x), .int .u64 (un y)] w fun en w' => RetV (valN M 11 i g x y) en w w' := by
  have hW := ok.worlds
  have hn1 := ok.one
  have hn64 := ok.most
  have hr4 := ok.rel
  have hv8 := ok.val
  have hsh := div_max N hn1 hn64
  have hs64 := sub64 N hn1 hn64
  have hE0 := ((Ext.refl w).alloc (.cells #[.int .i64 M.worlds, .slice va M.val.length vc, .slice ra M.rel.length rc] 25)).alloc (.cells #[.int .i64 (11), .int .i64 i, .int .i64 e, .int .i64 g, .int .i64 px, .int .i64 py] 62)
  have HE := Lib.hid hE0
  have HM := Lib.hid (hm.ext hE0)
  have OK := Lib.hid ok
  have hT : M.worlds.toNat = N := by omega
  have HT := Lib.hid hT
  clear hE0 ok hT hm
  obtain ⟨W, V, R⟩ := M
  dsimp only at hW hr4 hv8
  subst hW
  obtain ⟨k, rfl⟩ := Int.eq_ofNat_of_zero_le hg
  have hop : ((w.alloc (.cells #[.int .i64 (N : Int), .slice va V.length vc, .slice ra R.length rc] 25)).alloc (.cells #[.int .i64 (11), .int .i64 i, .int .i64 e, .int .i64 (k : Int), .int .i64 px, .int .i64 py] 62)).cell? ⟨w.heap.size + 1, 0, none⟩ = some (.int .i64 11) := by simp
  have hrl : R.length < 63 := by omega
  have hgl : (groupOf ⟨N, V, R⟩ k).length ≤ N := gather_le _ _ _ OK.out
  have HGL := Lib.hid hgl
  clear hgl
  by_cases hk : (k : Int) < p2 R.length
  · have hN : valN ⟨N, V, R⟩ 11 i k x y = (relBox (groupOf ⟨N, V, R⟩ k) x, true) := by
      unfold valN; simp; omega
    have HN := Lib.hid hN
    clear hN
    go_enter Tryz.func33, Tryz.ntmps33
    go_wp2_with fail
    go_quiet (fail)
    go_wp2_with (first | (go_at_call 53; refine (group_any ⟨N, V, R⟩ va ra vc rc k _ (HM.out.ext ((Ext.refl _).drewN _))).mono ?_; rintro en w1 ⟨a1, c1, rfl, hu1, hE1⟩; have q := hE1.cell hop) | (go_at_call 50; refine (relBox_any _ _ _ x _ hu1).mono ?_; rintro en w2 ⟨rfl, rfl⟩))
    go_ret2
    exact ⟨by rw [HN.out]; rfl, (HE.out.drewN _).trans hE1⟩
  · have hN : valN ⟨N, V, R⟩ 11 i k x y = (0#64, false) := by unfold valN; simp; omega
    have HN := Lib.hid hN
    clear hN
    go_enter Tryz.func33, Tryz.ntmps33
    go_wp2_with fail
    go_quiet (fail)
    go_wp2
    go_ret2
    exact ⟨by rw [HN.out]; rfl, HE.out.drewN _⟩

set_option maxRecDepth 20000 in
set_option maxHeartbeats 2000000 in
theorem value_12 (M : Mo) (va ra : Option Addr) (vc rc : Nat) (i e g px py : Int) (x y : BitVec 64) (w : World) (hm : RM w va ra M) (N : Nat) (ok : MoOk M N) (hg : 0 ≤ g) :
    Calls Tryz.prog 33 #[.agg #[.int .i64 M.worlds, .slice va M.val.length vc, .slice ra M.rel.length rc], .agg #[.int .i64 12, .int .i64 i, .int .i64 e, .int .i64 g, .int .i64 px, .int .i64 py], .int .u64 (un x), .int .u64 (un y)] w fun en w' => RetV (valN M 12 i g x y) en w w' := by
  have hW := ok.worlds
  have hn1 := ok.one
  have hn64 := ok.most
  have hr4 := ok.rel
  have hv8 := ok.val
  have hsh := div_max N hn1 hn64
  have hs64 := sub64 N hn1 hn64
  have hE0 := ((Ext.refl w).alloc (.cells #[.int .i64 M.worlds, .slice va M.val.length vc, .slice ra M.rel.length rc] 25)).alloc (.cells #[.int .i64 (12), .int .i64 i, .int .i64 e, .int .i64 g, .int .i64 px, .int .i64 py] 62)
  have HE := Lib.hid hE0
  have HM := Lib.hid (hm.ext hE0)
  have OK := Lib.hid ok
  have hT : M.worlds.toNat = N := by omega
  have HT := Lib.hid hT
  clear hE0 ok hT hm
  obtain ⟨W, V, R⟩ := M
  dsimp only at hW hr4 hv8
  subst hW
  obtain ⟨k, rfl⟩ := Int.eq_ofNat_of_zero_le hg
  have hop : ((w.alloc (.cells #[.int .i64 (N : Int), .slice va V.length vc, .slice ra R.length rc] 25)).alloc (.cells #[.int .i64 (12), .int .i64 i, .int .i64 e, .int .i64 (k : Int), .int .i64 px, .int .i64 py] 62)).cell? ⟨w.heap.size + 1, 0, none⟩ = some (.int .i64 12) := by simp
  have hrl : R.length < 63 := by omega
  have hgl : (groupOf ⟨N, V, R⟩ k).length ≤ N := gather_le _ _ _ OK.out
  have HGL := Lib.hid hgl
  clear hgl
  by_cases hk : (k : Int) < p2 R.length
  · have hN : valN ⟨N, V, R⟩ 12 i k x y = (relBox (meetOf ⟨N, V, R⟩ k) x, true) := by
      unfold valN; simp; omega
    have HN := Lib.hid hN
    clear hN
    go_enter Tryz.func33, Tryz.ntmps33
    go_wp2_with fail
    go_quiet (fail)
    go_wp2_with (first | (go_at_call 52; refine (meet_any ⟨N, V, R⟩ va ra vc rc k _ (HM.out.ext ((Ext.refl _).drewN _))).mono ?_; rintro en w1 ⟨a1, c1, rfl, hu1, hE1⟩; have q := hE1.cell hop) | (go_at_call 50; refine (relBox_any _ _ _ x _ hu1).mono ?_; rintro en w2 ⟨rfl, rfl⟩))
    go_ret2
    exact ⟨by rw [HN.out]; rfl, (HE.out.drewN _).trans hE1⟩
  · have hN : valN ⟨N, V, R⟩ 12 i k x y = (0#64, false) := by unfold valN; simp; omega
    have HN := Lib.hid hN
    clear hN
    go_enter Tryz.func33, Tryz.ntmps33
    go_wp2_with fail
    go_quiet (fail)
    go_wp2
    go_ret2
    exact ⟨by rw [HN.out]; rfl, HE.out.drewN _⟩

set_option maxRecDepth 20000 in
set_option maxHeartbeats 2000000 in
theorem value_13 (M : Mo) (va ra : Option Addr) (vc rc : Nat) (i e g px py : Int) (x y : BitVec 64) (w : World) (hm : RM w va ra M) (N : Nat) (ok : MoOk M N) (hg : 0 ≤ g) :
    Calls Tryz.prog 33 #[.agg #[.int .i64 M.worlds, .slice va M.val.length vc, .slice ra M.rel.length rc], .agg #[.int .i64 13, .int .i64 i, .int .i64 e, .int .i64 g, .int .i64 px, .int .i64 py], .int .u64 (un x), .int .u64 (un y)] w fun en w' => RetV (valN M 13 i g x y) en w w' := by
  have hW := ok.worlds
  have hn1 := ok.one
  have hn64 := ok.most
  have hr4 := ok.rel
  have hv8 := ok.val
  have hsh := div_max N hn1 hn64
  have hs64 := sub64 N hn1 hn64
  have hE0 := ((Ext.refl w).alloc (.cells #[.int .i64 M.worlds, .slice va M.val.length vc, .slice ra M.rel.length rc] 25)).alloc (.cells #[.int .i64 (13), .int .i64 i, .int .i64 e, .int .i64 g, .int .i64 px, .int .i64 py] 62)
  have HE := Lib.hid hE0
  have HM := Lib.hid (hm.ext hE0)
  have OK := Lib.hid ok
  have hT : M.worlds.toNat = N := by omega
  have HT := Lib.hid hT
  clear hE0 ok hT hm
  obtain ⟨W, V, R⟩ := M
  dsimp only at hW hr4 hv8
  subst hW
  obtain ⟨k, rfl⟩ := Int.eq_ofNat_of_zero_le hg
  have hop : ((w.alloc (.cells #[.int .i64 (N : Int), .slice va V.length vc, .slice ra R.length rc] 25)).alloc (.cells #[.int .i64 (13), .int .i64 i, .int .i64 e, .int .i64 (k : Int), .int .i64 px, .int .i64 py] 62)).cell? ⟨w.heap.size + 1, 0, none⟩ = some (.int .i64 13) := by simp
  have hrl : R.length < 63 := by omega
  have hgl : (groupOf ⟨N, V, R⟩ k).length ≤ N := gather_le _ _ _ OK.out
  have HGL := Lib.hid hgl
  clear hgl
  by_cases hk : (k : Int) < p2 R.length
  · have hN : valN ⟨N, V, R⟩ 13 i k x y = (cmn (groupOf ⟨N, V, R⟩ k) N x y, true) := by
      unfold valN; simp; omega
    have HN := Lib.hid hN
    clear hN
    go_enter Tryz.func33, Tryz.ntmps33
    go_wp2_with fail
    go_quiet (fail)
    go_wp2_with (first | (go_at_call 53; refine (group_any ⟨N, V, R⟩ va ra vc rc k _ (HM.out.ext ((Ext.refl _).drewN _))).mono ?_; rintro en w1 ⟨a1, c1, rfl, hu1, hE1⟩; have q := hE1.cell hop) | (go_at_call 54; refine (common_any _ _ _ N x y _ hu1 (by have := HGL.out; omega)).mono ?_; rintro en w2 ⟨rfl, rfl⟩))
    go_ret2
    exact ⟨by rw [HN.out]; rfl, (HE.out.drewN _).trans hE1⟩
  · have hN : valN ⟨N, V, R⟩ 13 i k x y = (0#64, false) := by unfold valN; simp; omega
    have HN := Lib.hid hN
    clear hN
    go_enter Tryz.func33, Tryz.ntmps33
    go_wp2_with fail
    go_quiet (fail)
    go_wp2
    go_ret2
    exact ⟨by rw [HN.out]; rfl, HE.out.drewN _⟩

set_option maxRecDepth 20000 in
set_option maxHeartbeats 2000000 in
theorem value_other (o : Int) (M : Mo) (va ra : Option Addr) (vc rc : Nat) (i e g px py : Int) (x y : BitVec 64) (w : World) (hm : RM w va ra M) (N : Nat) (ok : MoOk M N) (ho : o < 1 ∨ 13 < o) :
    Calls Tryz.prog 33 #[.agg #[.int .i64 M.worlds, .slice va M.val.length vc, .slice ra M.rel.length rc], .agg #[.int .i64 o, .int .i64 i, .int .i64 e, .int .i64 g, .int .i64 px, .int .i64 py], .int .u64 (un x), .int .u64 (un y)] w fun en w' => RetV (valN M o i g x y) en w w' := by
  have hW := ok.worlds
  have hn1 := ok.one
  have hn64 := ok.most
  have hr4 := ok.rel
  have hv8 := ok.val
  have hsh := div_max N hn1 hn64
  have hs64 := sub64 N hn1 hn64
  have hE0 := ((Ext.refl w).alloc (.cells #[.int .i64 M.worlds, .slice va M.val.length vc, .slice ra M.rel.length rc] 25)).alloc (.cells #[.int .i64 (o), .int .i64 i, .int .i64 e, .int .i64 g, .int .i64 px, .int .i64 py] 62)
  have HE := Lib.hid hE0
  have HM := Lib.hid (hm.ext hE0)
  have OK := Lib.hid ok
  have hT : M.worlds.toNat = N := by omega
  have HT := Lib.hid hT
  clear hE0 ok hT hm
  obtain ⟨W, V, R⟩ := M
  dsimp only at hW hr4 hv8
  subst hW
  have hN : valN ⟨N, V, R⟩ o i g x y = (0#64, false) := by
    unfold valN
    repeat rw [if_neg (by omega)]
  have HN := Lib.hid hN
  clear hN
  have o1 : (o == 1) = false := by simp; omega
  have o2 : (o == 2) = false := by simp; omega
  have o3 : (o == 3) = false := by simp; omega
  have o4 : (o == 4) = false := by simp; omega
  have o5 : (o == 5) = false := by simp; omega
  have o6 : (o == 6) = false := by simp; omega
  have o7 : (o == 7) = false := by simp; omega
  have o8 : (o == 8) = false := by simp; omega
  have o9 : (o == 9) = false := by simp; omega
  have o10 : (o == 10) = false := by simp; omega
  have o11 : (o == 11) = false := by simp; omega
  have o12 : (o == 12) = false := by simp; omega
  have o13 : (o == 13) = false := by simp; omega
  clear ho
  go_enter Tryz.func33, Tryz.ntmps33
  go_wp2
  go_ret2
  exact ⟨by rw [HN.out]; rfl, HE.out⟩

set_option maxHeartbeats 1000000 in
theorem value_any (M : Mo) (va ra : Option Addr) (vc rc : Nat) (n : Nd) (x y : BitVec 64) (w : World) (hm : RM w va ra M) (N : Nat) (ok : MoOk M N) (hi : 0 ≤ n.i) (hg : 0 ≤ n.g) :
    Calls Tryz.prog 33 #[.agg #[.int .i64 M.worlds, .slice va M.val.length vc, .slice ra M.rel.length rc], .agg #[.int .i64 n.op, .int .i64 n.i, .int .i64 n.e, .int .i64 n.g, .int .i64 n.x, .int .i64 n.y], .int .u64 (un x), .int .u64 (un y)] w fun en w' => RetV (valN M n.op n.i n.g x y) en w w' := by
  obtain ⟨o, i, e, g, px, py⟩ := n
  dsimp only at hi hg ⊢
  by_cases ho : o < 1 ∨ 13 < o
  · exact value_other o M va ra vc rc i e g px py x y w hm N ok ho
  · rcases (show o = 1 ∨ o = 2 ∨ o = 3 ∨ o = 4 ∨ o = 5 ∨ o = 6 ∨ o = 7 ∨ o = 8 ∨ o = 9 ∨ o = 10 ∨ o = 11 ∨ o = 12 ∨ o = 13 by omega) with rfl | rfl | rfl | rfl | rfl | rfl | rfl | rfl | rfl | rfl | rfl | rfl | rfl
    · exact value_1 M va ra vc rc i e g px py x y w hm N ok
    · exact value_2 M va ra vc rc i e g px py x y w hm N ok
    · exact value_3 M va ra vc rc i e g px py x y w hm N ok hi
    · exact value_4 M va ra vc rc i e g px py x y w hm N ok
    · exact value_5 M va ra vc rc i e g px py x y w hm N ok
    · exact value_6 M va ra vc rc i e g px py x y w hm N ok
    · exact value_7 M va ra vc rc i e g px py x y w hm N ok
    · exact value_8 M va ra vc rc i e g px py x y w hm N ok
    · exact value_9 M va ra vc rc i e g px py x y w hm N ok hi
    · exact value_10 M va ra vc rc i e g px py x y w hm N ok hi
    · exact value_11 M va ra vc rc i e g px py x y w hm N ok hg
    · exact value_12 M va ra vc rc i e g px py x y w hm N ok hg
    · exact value_13 M va ra vc rc i e g px py x y w hm N ok hg
end Wt

/- Rows that a call owns, over any element of one cell; plain laws on the sets of the nodes of a formula. -/
namespace Wt
open Go Go.RowKit Go.Proofs Fm

section
variable {α : Type} {w w' : World} {base T n : Nat} {enc : α → Value} {l : List α}
/-- A slice (never nil here) that the call owns holds a list. -/
structure OG (w : World) (base T : Nat) (enc : α → Value) (g n c : Nat) (l : List α) : Prop where
  len : l.length = n
  row : w.ownsRow base T 1 (.slice (some ⟨g, 0, none⟩) n c) n (l.map enc)
theorem OG.base_le {g c : Nat} (h : OG w base T enc g n c l) : base ≤ g := (h.row.lt g rfl).1
theorem OG.lt {g c : Nat} (h : OG w base T enc g n c l) : g < w.heap.size := (h.row.lt g rfl).2
theorem OG.cell [Inhabited α] {g c : Nat} (h : OG w base T enc g n c l) {k : Nat} (hk : k < n) : w.cell? ⟨g, k, none⟩ = some (enc (nth l k)) := by
  have hl := h.len
  rw [h.row.cellAt k (by omega), List.getElem?_map, nth_eq l k (by omega)]
  simp [show k < l.length by omega]
theorem OG.frozen {g c : Nat} (h : OG w base T enc g n c l) (k : Nat) : w.frozen? ⟨g, k, none⟩ = false := h.row.frozenAt k
theorem OG.set {g c : Nat} (h : OG w base T enc g n c l) (k : Nat) (s : α) : OG (w.setCell ⟨g, k, none⟩ (enc s)) base T enc g n c (l.set k s) :=
  ⟨by rw [List.length_set]; exact h.len, by rw [List.map_set]; exact (h.row.stored k (enc s)).1⟩
theorem OG.ext {g c : Nat} (h : OG w base T enc g n c l) (e : Ext w w') : OG w' base T enc g n c l :=
  ⟨h.len, h.row.kept (row := none) ⟨e.os, e.tape, e.output, e.size, fun k hk _ => e.block k hk⟩ (by simp [Value.ownBlock])⟩
theorem OG.other {g c g2 : Nat} (h : OG w base T enc g n c l) (k : Nat) (u : Value) (hne : g ≠ g2) : OG (w.setCell ⟨g2, k, none⟩ u) base T enc g n c l :=
  ⟨h.len, h.row.kept (row := some g2) ⟨rfl, rfl, rfl, by simp, fun j _ hj => heap_setCell_other w ⟨g2, k, none⟩ j u (fun e => hj (by simp [e]))⟩ (by simp [Value.ownBlock, hne])⟩
theorem OG.made (w : World) (n : Nat) (z : α) (hb : base ≤ w.heap.size) (hn : n ≤ 140737488355328) : OG (w.alloc (.cells (madeCells #[enc z] n) T)) base T enc w.heap.size n n (List.replicate n z) := by
  refine ⟨by simp, ?_⟩
  have h := World.ownsRow_lit (base := base) (e := T) (size := 1) w (madeCells #[enc z] n) n hb (by unfold maxLen; omega) (by simp [madeCells])
  rw [toList_madeCells_one] at h
  rw [List.map_replicate]
  exact h
end
theorem RU_of_OG {w : World} {base T g n c : Nat} {l : List (BitVec 64)} (h : OG w base T uv g n c l) (hn : n ≤ 140737488355328) : RU w (some ⟨g, 0, none⟩) l := by
  have hl := h.len
  refine ⟨by omega, fun k hk => ⟨g, 0, rfl, ?_⟩⟩
  rw [Nat.zero_add]
  exact h.cell (by omega)
theorem RB_of_OG {w : World} {base T g n c : Nat} {l : List Bool} (h : OG w base T Value.bool g n c l) (hn : n ≤ 140737488355328) : RB w (some ⟨g, 0, none⟩) l := by
  have hl := h.len
  refine ⟨by omega, fun k hk => ⟨g, 0, rfl, ?_⟩⟩
  rw [Nat.zero_add]
  exact h.cell (by omega)

/-- A list of which the first k are done. -/
def doneL {α : Type} (n k : Nat) (f : Nat → α) (z : α) : List α := (List.range n).map fun j => if j < k then f j else z
section
variable {α : Type} (n k : Nat) (f : Nat → α) (z : α)
theorem doneL_length : (doneL n k f z).length = n := by simp [doneL]
theorem doneL_nth [Inhabited α] {j : Nat} (hj : j < n) : nth (doneL n k f z) j = if j < k then f j else z := by
  rw [nth_eq _ _ (by rw [doneL_length]; exact hj)]
  simp [doneL]
theorem doneL_zero : doneL n 0 f z = List.replicate n z := by
  unfold doneL
  simp [List.map_const']
theorem doneL_set (hk : k < n) : (doneL n k f z).set k (f k) = doneL n (k + 1) f z := by
  apply List.ext_getElem?
  intro i
  rw [List.getElem?_set]
  by_cases e : k = i
  · subst e
    rw [if_pos rfl, if_pos (by rw [doneL_length]; exact hk)]
    simp [doneL, hk]
  · rw [if_neg e]
    unfold doneL
    rw [List.getElem?_map, List.getElem?_map]
    by_cases hi : i < n
    · rw [List.getElem?_range hi]
      simp only [Option.map_some]
      by_cases h : i < k
      · rw [if_pos h, if_pos (by omega)]
      · rw [if_neg h, if_neg (by omega)]
    · rw [List.getElem?_eq_none (by simpa using hi)]; rfl
theorem doneL_skip (hf : f k = z) : doneL n k f z = doneL n (k + 1) f z := by
  unfold doneL
  apply List.map_congr_left
  intro j _
  by_cases h : j < k
  · rw [if_pos h, if_pos (by omega)]
  · rw [if_neg h]
    by_cases h2 : j = k
    · subst h2; rw [if_pos (by omega), hf]
    · rw [if_neg (by omega)]
theorem doneL_all : doneL n n f z = (List.range n).map f := by
  unfold doneL
  apply List.map_congr_left
  intro j hj
  rw [if_pos (by simpa using hj)]
end

theorem valN_no (M : Mo) {o : Int} (i g : Int) (x y : BitVec 64) (h : o < 1 ∨ 13 < o) : valN M o i g x y = (0#64, false) := by
  unfold valN
  repeat rw [if_neg (by omega)]
theorem valN_false (M : Mo) (o i g : Int) (x y : BitVec 64) (h : (valN M o i g x y).2 = false) : (valN M o i g x y).1 = 0#64 := by
  by_cases ho : o < 1 ∨ 13 < o
  · rw [valN_no M i g x y ho]
  · rcases (show o = 1 ∨ o = 2 ∨ o = 3 ∨ o = 4 ∨ o = 5 ∨ o = 6 ∨ o = 7 ∨ o = 8 ∨ o = 9 ∨ o = 10 ∨ o = 11 ∨ o = 12 ∨ o = 13 by omega) with rfl | rfl | rfl | rfl | rfl | rfl | rfl | rfl | rfl | rfl | rfl | rfl | rfl
    all_goals
      simp [valN] at h ⊢
      try (split at h <;> simp_all)
theorem semT_false (M : Mo) (t : Fm) (h : (semT M t).2 = false) : (semT M t).1 = 0#64 := by
  cases t with
  | leaf o i e g => exact valN_false _ _ _ _ _ _ h
  | un o i e g x =>
    unfold semT at h ⊢
    split
    · rename_i hc; rw [if_pos hc] at h; exact valN_false _ _ _ _ _ _ h
    · rfl
  | bin o i e g x y =>
    unfold semT at h ⊢
    split
    · rename_i hc; rw [if_pos hc] at h; exact valN_false _ _ _ _ _ _ h
    · rfl
/-- Is an operator one of two operands, of those that the checker knows? -/
def bin2 (o : Int) : Prop := (5 ≤ o ∧ o ≤ 8) ∨ o = 13
section
variable {f : List Nd} (hw : Wf f) (M : Mo) {k : Nat} (hk : k < f.length)
include hw hk
theorem nd_op : 1 ≤ (nth f k).op ∧ (nth f k).op ≤ 21 := by
  have := (nodeErr_ok (hw k hk)).1
  rcases useOf_cases _ this with h | h | h | h | h | h | h | h | h | h | h | h | h | h | h | h | h | h | h | h | h <;> omega
theorem nd_i : 0 ≤ (nth f k).i := by
  obtain ⟨h1, _, _, h4, h5⟩ := nodeErr_ok (hw k hk)
  obtain ⟨fr, h' | h' | h' | h' | h' | h' | h' | h' | h'⟩ := useOf_pat _ h1 <;> rw [h'] at h4 h5 <;> simp [needless, wide, outs] at h4 h5 <;> omega
theorem nd_g : 0 ≤ (nth f k).g := by
  obtain ⟨h1, _, _, h4, h5⟩ := nodeErr_ok (hw k hk)
  obtain ⟨fr, h' | h' | h' | h' | h' | h' | h' | h' | h'⟩ := useOf_pat _ h1 <;> rw [h'] at h4 h5 <;> simp [needless, wide, outs] at h4 h5 <;> omega
theorem nd_x : ∃ X : Nat, (nth f k).x = X ∧ X < f.length ∧ (4 ≤ (nth f k).op → X < k) := by
  by_cases hx : (useOf (nth f k).op).1.x = true
  · obtain ⟨h0, h1⟩ := hw.x_lt hk hx
    exact ⟨(nth f k).x.toNat, by omega, by omega, fun _ => h1⟩
  · refine ⟨0, by rw [hw.x_zero hk (by simpa using hx)]; rfl, by omega, fun h => ?_⟩
    exfalso
    apply hx
    have := (nodeErr_ok (hw k hk)).1
    rcases useOf_cases _ this with e | e | e | e | e | e | e | e | e | e | e | e | e | e | e | e | e | e | e | e | e <;> rw [e] at h ⊢ <;> first | rfl | omega
theorem nd_y : ∃ Y : Nat, (nth f k).y = Y ∧ Y < f.length ∧ (bin2 (nth f k).op → Y < k) := by
  by_cases hy : (useOf (nth f k).op).1.y = true
  · obtain ⟨h0, h1⟩ := hw.y_lt hk hy
    exact ⟨(nth f k).y.toNat, by omega, by omega, fun _ => h1⟩
  · refine ⟨0, by rw [hw.y_zero hk (by simpa using hy)]; rfl, by omega, fun h => ?_⟩
    exfalso
    apply hy
    unfold bin2 at h
    rcases (show (nth f k).op = 5 ∨ (nth f k).op = 6 ∨ (nth f k).op = 7 ∨ (nth f k).op = 8 ∨ (nth f k).op = 13 by omega) with e | e | e | e | e <;> rw [e] <;> rfl
/-- The set of a leaf. -/
theorem sem_leaf (x y : BitVec 64) (ho : (nth f k).op < 4) : semT M (trAt f k) = valN M (nth f k).op (nth f k).i (nth f k).g x y := by
  have h1 := nd_op hw hk
  have e : (useOf (nth f k).op).1.x = false := by
    rcases (show (nth f k).op = 1 ∨ (nth f k).op = 2 ∨ (nth f k).op = 3 by omega) with e | e | e <;> rw [e] <;> rfl
  rw [trAt_leaf hk e]
  show valN M _ _ _ _ _ = _
  rcases (show (nth f k).op = 1 ∨ (nth f k).op = 2 ∨ (nth f k).op = 3 by omega) with e | e | e <;> rw [e] <;> simp [valN]
theorem sem_un {X : Nat} (hX : (nth f k).x = X) (y : BitVec 64) (ho : 4 ≤ (nth f k).op) (hb : ¬ bin2 (nth f k).op) :
    semT M (trAt f k) = if (semT M (trAt f X)).2 then valN M (nth f k).op (nth f k).i (nth f k).g (semT M (trAt f X)).1 y else (0#64, false) := by
  have h1 := nd_op hw hk
  unfold bin2 at hb
  by_cases h13 : 13 < (nth f k).op
  · rw [valN_no M _ _ _ _ (.inr h13), ite_self]
    by_cases hx : (useOf (nth f k).op).1.x = true
    · by_cases hy : (useOf (nth f k).op).1.y = true
      · rw [trAt_bin hw hk hy]; simp only [semT]; rw [valN_no M _ _ _ _ (.inr h13), ite_self]
      · rw [trAt_un hw hk hx (by simpa using hy)]; simp only [semT]; rw [valN_no M _ _ _ _ (.inr h13), ite_self]
    · rw [trAt_leaf hk (by simpa using hx)]; exact valN_no M _ _ _ _ (.inr h13)
  · have e : (useOf (nth f k).op).1.x = true ∧ (useOf (nth f k).op).1.y = false := by
      rcases (show (nth f k).op = 4 ∨ (nth f k).op = 9 ∨ (nth f k).op = 10 ∨ (nth f k).op = 11 ∨ (nth f k).op = 12 by omega) with e | e | e | e | e <;> rw [e] <;> exact ⟨rfl, rfl⟩
    rw [trAt_un hw hk e.1 e.2, hX]
    simp only [semT, Int.toNat_natCast]
    rcases (show (nth f k).op = 4 ∨ (nth f k).op = 9 ∨ (nth f k).op = 10 ∨ (nth f k).op = 11 ∨ (nth f k).op = 12 by omega) with e | e | e | e | e <;> rw [e] <;> simp [valN]
theorem sem_bin {X Y : Nat} (hX : (nth f k).x = X) (hY : (nth f k).y = Y) (hb : bin2 (nth f k).op) :
    semT M (trAt f k) = if (semT M (trAt f X)).2 && (semT M (trAt f Y)).2 then valN M (nth f k).op (nth f k).i (nth f k).g (semT M (trAt f X)).1 (semT M (trAt f Y)).1 else (0#64, false) := by
  unfold bin2 at hb
  have e : (useOf (nth f k).op).1.y = true := by
    rcases (show (nth f k).op = 5 ∨ (nth f k).op = 6 ∨ (nth f k).op = 7 ∨ (nth f k).op = 8 ∨ (nth f k).op = 13 by omega) with e | e | e | e | e <;> rw [e] <;> rfl
  rw [trAt_bin hw hk e, hX, hY]
  simp only [semT, Int.toNat_natCast]
end
end Wt

/- A law on regions that draw their order: pure operations are taken first, then the operations that only read (in the order of the text), and what is left goes by the walk's own law. -/
namespace Wt
open Go

section
variable {P : Program} {ops : Array Oper} {md : Region.Mode} {w : World}

/-- Every head operation that is not yet listed is waited for, within the head or by the first of the tail. -/
def sinkG (md : Region.Mode) (ops : Array Oper) (n : Nat) (L0 : Array Bool) : Bool :=
  (List.range n).all fun i => L0.getD i false || (List.range (n + 1)).any fun j => decide (i < j) && Region.waitsFor md ops j i
/-- Every operation of the tail but its first waits for one of the tail before it. -/
def chainG (md : Region.Mode) (ops : Array Oper) (n : Nat) : Bool :=
  (List.range ops.size).all fun t => decide (t ≤ n) || (List.range t).any fun s => decide (n ≤ s) && Region.waitsFor md ops t s
structure InvG (md : Region.Mode) (ops : Array Oper) (n : Nat) (L0 listed : Array Bool) : Prop where
  size : listed.size = ops.size
  closed : ∀ j oj, ops[j]? = some oj → listed.getD j false = true → ∀ e ∈ oj.after, Region.binds md e = true → listed.getD e.on false = true
  tail : ∀ t, n ≤ t → t < ops.size → listed.getD t true = false
  pre : ∀ j, L0.getD j false = true → listed.getD j false = true
theorem InvG.set {n i : Nat} {L0 listed : Array Bool} (inv : InvG md ops n L0 listed) (hi : i ∈ Region.ready md ops listed) (hin : i < n) : InvG md ops n L0 (listed.setIfInBounds i true) := by
  obtain ⟨_, oi, hoi, hall⟩ := mem_ready.1 hi
  refine ⟨by simp [inv.size], fun j oj hj hl e he hb => ?_, fun t ht ht' => by rw [getD_set_ne true (by omega)]; exact inv.tail t ht ht', fun j hj => getD_set_true (inv.pre j hj)⟩
  by_cases hij : i = j
  · subst hij
    have : oj = oi := Option.some.inj (hj.symm.trans hoi)
    subst this
    exact getD_set_true (hall e he hb)
  · rw [getD_set_ne false hij] at hl
    exact getD_set_true (inv.closed j oj hj hl e he hb)
theorem tail_waitsG {n : Nat} {L0 listed : Array Bool} (hs : sinkG md ops n L0 = true) (hc : chainG md ops n = true) (hn : n < ops.size) (inv : InvG md ops n L0 listed) :
    ∀ (d i : Nat), n - i = d → i < n → listed.getD i true = false → ∀ t, n ≤ t → t ∉ Region.ready md ops listed := by
  intro d
  induction d using Nat.strongRecOn with
  | _ d ih =>
    intro i hd hi hun t ht hr
    obtain ⟨_, ot, hot, hall⟩ := mem_ready.1 hr
    have htlt : t < ops.size := (Array.getElem?_eq_some_iff.1 hot).1
    by_cases htn : t = n
    · subst htn
      have h1 := List.all_eq_true.1 hs i (List.mem_range.2 hi)
      rw [Bool.or_eq_true] at h1
      rcases h1 with h1 | h1
      · have := inv.pre i h1
        rw [getD_both hun] at this
        cases this
      · obtain ⟨j, hj, hj2⟩ := List.any_eq_true.1 h1
        simp only [Bool.and_eq_true, decide_eq_true_eq] at hj2
        obtain ⟨oj, hoj, e, he, hb, hon⟩ := Region.waitsFor_spec hj2.2
        have hjle : j ≤ t := by have := List.mem_range.1 hj; omega
        by_cases hjt : j = t
        · subst hjt
          have : oj = ot := Option.some.inj (hoj.symm.trans hot)
          subst this
          have h2 := hall e he hb
          rw [hon, getD_both hun] at h2
          cases h2
        · cases hl : listed.getD j false with
          | true =>
            have h2 := inv.closed j oj hoj hl e he hb
            rw [hon, getD_both hun] at h2
            cases h2
          | false =>
            have hjs : j < listed.size := by rw [inv.size]; omega
            exact ih (t - j) (by omega) j rfl (by omega) (getD_in hjs hl) t (Nat.le_refl _) hr
    · have h1 := List.all_eq_true.1 hc t (List.mem_range.2 htlt)
      rw [Bool.or_eq_true] at h1
      rcases h1 with h1 | h1
      · simp only [decide_eq_true_eq] at h1; omega
      · obtain ⟨s, hsr, hs2⟩ := List.any_eq_true.1 h1
        simp only [Bool.and_eq_true, decide_eq_true_eq] at hs2
        obtain ⟨o', ho', e, he, hb, hon⟩ := Region.waitsFor_spec hs2.2
        have : o' = ot := Option.some.inj (ho'.symm.trans hot)
        subst this
        have h2 := hall e he hb
        have := List.mem_range.1 hsr
        rw [hon, getD_both (inv.tail s hs2.1 (by omega))] at h2
        cases h2
theorem wpAnyL_firstG {n i : Nat} {oi : Oper} {v : Value} {L0 : Array Bool} {L : Array Bool → Act → Prop} (hi : ops[i]? = some oi) (hsel : ∀ (j : Nat) (o : Oper) cs b, ops[j]? = some o → o.op ≠ .select cs b)
    (hs : sinkG md ops n L0 = true) (hc : chainG md ops n = true) (hn : n < ops.size) (hin : i < n)
    (hdone : ∀ listed a, L listed a → ∀ j ∈ Region.ready md ops listed, n ≤ j) :
    ∀ (f : Nat) (listed : Array Bool) (a : Act), InvG md ops n L0 listed →
      (∀ j oj, ops[j]? = some oj → j ≠ i → listed.getD j true = false → (∀ e ∈ oj.after, Region.binds md e = true → e.on ≠ i) → oi.apart ops oj = true) →
      i ∈ Region.ready md ops listed → YieldsAt P ops w oi v a →
      wpAnyL P md ops w n L f (listed.setIfInBounds i true) (a.put oi.dst v) → wpAnyL P md ops w n L (f + 1) listed a := by
  intro f
  induction f with
  | zero =>
    intro listed a inv _ hr hy H
    have hun := (mem_ready.1 hr).1
    refine ⟨fun h => (by rw [h] at hr; cases hr), fun j hj => ?_⟩
    have hjn : j < n := by
      rcases Nat.lt_or_ge j n with h | h
      · exact h
      · exact absurd hj (tail_waitsG hs hc hn inv _ i rfl hin hun j h)
    refine ⟨hjn, ?_⟩
    by_cases hji : j = i
    · subst hji; exact hy.stOp hi H
    · have := hdone _ _ H j (ready_mono hj hji)
      omega
  | succ f ih =>
    intro listed a inv hfree hr hy H
    have hun := (mem_ready.1 hr).1
    refine ⟨fun h => (by rw [h] at hr; cases hr), fun j hj => ?_⟩
    have hjn : j < n := by
      rcases Nat.lt_or_ge j n with h | h
      · exact h
      · exact absurd hj (tail_waitsG hs hc hn inv _ i rfl hin hun j h)
    refine ⟨hjn, ?_⟩
    by_cases hji : j = i
    · subst hji; exact hy.stOp hi H
    · have h1 := (H.2 j (ready_mono hj hji)).2
      obtain ⟨hjun, oj, hoj, hall⟩ := mem_ready.1 hj
      have hnot : ∀ e ∈ oj.after, Region.binds md e = true → e.on ≠ i := fun e he hb heq => by
        have h1 := hall e he hb
        rw [heq, getD_both hun] at h1
        cases h1
      have h2 := stOp_put hoj (hfree j oj hoj hji hjun hnot) (fun cs b => hsel i oi cs b hi) (fun cs b => hsel j oj cs b hoj) hy h1
      have hfree' : ∀ k ok, ops[k]? = some ok → k ≠ i → (listed.setIfInBounds j true).getD k true = false →
          (∀ e ∈ ok.after, Region.binds md e = true → e.on ≠ i) → oi.apart ops ok = true := fun k ok hk hki hun hno => by
        refine hfree k ok hk hki ?_ hno
        by_cases hjk : j = k
        · subst hjk; exact hjun
        · rw [getD_set_ne true hjk] at hun; exact hun
      refine stOp_mono (fun a' h3 => ih (listed.setIfInBounds j true) a' (inv.set hj hjn) hfree' (ready_mono hr (Ne.symm hji)) h3.1 ?_) h2
      rw [Array.setIfInBounds_comm _ _ hji]
      exact h3.2
/-- The head, number by number. -/
def headG (md : Region.Mode) (ops : Array Oper) (n : Nat) : List Nat → Array Bool → Bool
  | [], listed => (Region.ready md ops listed).all fun j => decide (n ≤ j)
  | k :: ks, listed => decide (k < n) && (Region.ready md ops listed).contains k && Region.free md ops listed k && headG md ops n ks (listed.setIfInBounds k true)
def setAll : List Nat → Array Bool → Array Bool
  | [], L => L
  | k :: ks, L => setAll ks (L.setIfInBounds k true)
theorem wpAnyL_headG {n : Nat} {L0 : Array Bool} {Lq : Act → Prop} (hsel : Region.noSelect ops = true) (hs : sinkG md ops n L0 = true) (hc : chainG md ops n = true) (hn : n < ops.size) (LF : Array Bool)
    (hF : ∀ j ∈ Region.ready md ops LF, n ≤ j) :
    ∀ (ks : List Nat) (l : List Oper) (listed : Array Bool) (a : Act), (ks.map fun k => ops[k]?) = l.map some → setAll ks listed = LF → InvG md ops n L0 listed →
    headG md ops n ks listed = true → wpStill P ops w Lq l a →
    wpAnyL P md ops w n (fun listed' a' => listed' = LF ∧ Lq a') ks.length listed a
  | [], l, listed, a, hl, hF2, inv, hB, h => by
    have : l = [] := by simpa using hl.symm
    subst this
    exact ⟨hF2, h⟩
  | k :: ks, [], listed, a, hl, hF2, inv, hB, h => by simp at hl
  | k :: ks, o :: l, listed, a, hl, hF2, inv, hB, h => by
    simp only [List.map_cons, List.cons.injEq] at hl
    obtain ⟨h0, hl⟩ := hl
    simp only [headG, Bool.and_eq_true, decide_eq_true_eq] at hB
    obtain ⟨⟨⟨hkn, hr⟩, hf⟩, hB'⟩ := hB
    have hr' : k ∈ Region.ready md ops listed := by simpa using hr
    have hst : stOp P ops w k (wpStill P ops w Lq l) a := by unfold stOp; simp only [h0]; exact h
    obtain ⟨v, hy, hK⟩ := yieldsAt_of_stOp h0 hst
    exact wpAnyL_firstG h0 (Region.noSelect_spec hsel) hs hc hn hkn (fun listed' a' hL => by rw [hL.1]; exact hF) ks.length listed a inv (Region.free_spec h0 hf) hr' hy
      (wpAnyL_headG hsel hs hc hn LF hF ks l _ _ hl hF2 (inv.set hr' hkn) hB' hK)
/-- Is a listing closed: what a listed operation waits for is listed? -/
def closedG (md : Region.Mode) (ops : Array Oper) (listed : Array Bool) : Bool :=
  (List.range ops.size).all fun j => !listed.getD j false || (match ops[j]? with | some oj => oj.after.all fun e => !Region.binds md e || listed.getD e.on false | none => true)
def tailG (ops : Array Oper) (n : Nat) (listed : Array Bool) : Bool := (List.range ops.size).all fun t => decide (t < n) || !listed.getD t true
/-- All that is asked of a region and of a listing of it. -/
def regG (md : Region.Mode) (ops : Array Oper) (n : Nat) (ks : List Nat) (listed : Array Bool) : Bool :=
  Region.noSelect ops && sinkG md ops n listed && chainG md ops n && decide (n < ops.size) && headG md ops n ks listed && closedG md ops listed && tailG ops n listed && decide (listed.size = ops.size) && (Region.ready md ops (setAll ks listed)).all fun j => decide (n ≤ j)
theorem wpAny_headG {n : Nat} (ks : List Nat) (g : Nat) {l : List Oper} {listed : Array Bool} {a : Act} {Q : Exit → Act → World → Prop} (hB : regG md ops n ks listed = true) (hl : (ks.map fun k => ops[k]?) = l.map some)
    (h : wpStill P ops w (fun a' => wpAny P md ops Q g (setAll ks listed) a' w) l a) : wpAny P md ops Q (ks.length + g) listed a w := by
  simp only [regG, Bool.and_eq_true, decide_eq_true_eq] at hB
  obtain ⟨⟨⟨⟨⟨⟨⟨⟨hsel, hs⟩, hc⟩, hn⟩, hh⟩, hcl⟩, ht⟩, hsz⟩, hF⟩ := hB
  have inv : InvG md ops n listed listed := by
    refine ⟨hsz, fun j oj hj hlj e he hb => ?_, fun t h1 h2 => ?_, fun _ h => h⟩
    · have := List.all_eq_true.1 hcl j (List.mem_range.2 (Array.getElem?_eq_some_iff.1 hj).1)
      rw [hlj, hj] at this
      simp only [Bool.not_true, Bool.false_or] at this
      have := Array.all_eq_true'.1 this e he
      rw [hb] at this
      simpa using this
    · have := List.all_eq_true.1 ht t (List.mem_range.2 h2)
      simp only [Bool.or_eq_true, decide_eq_true_eq, Bool.not_eq_true'] at this
      rcases this with h | h
      · omega
      · exact h
  exact wpAny_of_head (fun listed' a' hL => by rw [hL.1]; exact hL.2) _ _ _
    (wpAnyL_headG hsel hs hc hn (setAll ks listed) (fun j hj => by simpa using List.all_eq_true.1 hF j hj) ks l listed a hl rfl inv hh h)
/-- What is left comes up one by one, in the given order: it goes as a plain list. -/
def seqG (md : Region.Mode) (ops : Array Oper) : List Nat → Array Bool → Bool
  | [], listed => (Region.ready md ops listed).isEmpty
  | k :: ks, listed => decide (Region.ready md ops listed = [k]) && seqG md ops ks (listed.setIfInBounds k true)
theorem wpAny_of_seqG {Q : Exit → Act → World → Prop} : ∀ (ks : List Nat) (l : List Oper) (listed : Array Bool) (a : Act) (w : World), (ks.map fun k => ops[k]?) = l.map some →
    seqG md ops ks listed = true → wpList P ops Q l a w → wpAny P md ops Q ks.length listed a w
  | [], l, listed, a, w, hl, hB, h => by
    have : l = [] := by simpa using hl.symm
    subst this
    exact ⟨by simpa [seqG] using hB, h⟩
  | k :: ks, [], _, _, _, hl, _, _ => by simp at hl
  | k :: ks, o :: l, listed, a, w, hl, hB, h => by
    simp only [List.map_cons, List.cons.injEq] at hl
    obtain ⟨h0, hl⟩ := hl
    simp only [seqG, Bool.and_eq_true, decide_eq_true_eq] at hB
    refine ⟨fun h1 => (by rw [hB.1] at h1; cases h1), fun i hi => ?_⟩
    rw [hB.1] at hi
    have hik : i = k := by simpa using hi
    subst hik
    have hw : wpOp P ops Q i (wpList P ops Q l) a w := by unfold wpOp; simp only [h0]; exact h
    exact wpOp_mono (fun a' w' h' => wpAny_of_seqG ks l _ a' w' hl hB.2 h') hw
end
section
variable {P : Program} {L : List Oper} {md : Region.Mode} {w : World}
/-- The operation of a number. -/
inductive OpAt : List Oper → Nat → Oper → Prop where
  | here {o : Oper} {l : List Oper} : OpAt (o :: l) 0 o
  | next {o o' : Oper} {l : List Oper} {k : Nat} (h : OpAt l k o) : OpAt (o' :: l) (k + 1) o
theorem OpAt.eq {L : List Oper} {k : Nat} {o : Oper} (h : OpAt L k o) : L[k]? = some o := by
  induction h with
  | here => rfl
  | next _ ih => exact List.getElem?_cons_succ.trans ih
/-- The operations of these numbers. -/
inductive Picks (L : List Oper) : List Nat → List Oper → Prop where
  | nil : Picks L [] []
  | cons {k : Nat} {ks : List Nat} {o : Oper} {l : List Oper} (h : OpAt L k o) (t : Picks L ks l) : Picks L (k :: ks) (o :: l)
theorem Picks.eq {L : List Oper} {ks : List Nat} {l : List Oper} (h : Picks L ks l) : (ks.map fun k => L[k]?) = l.map some := by
  induction h with
  | nil => rfl
  | cons h _ ih => simp only [List.map_cons, h.eq, ih]
theorem get_toArray (ks : List Nat) : (ks.map fun k => L.toArray[k]?) = ks.map fun k => L[k]? := by simp
/-- The same, with the region's operations as a list: so that each is met as it is written. -/
theorem wpAny_headL {n : Nat} (ks : List Nat) (g : Nat) {l : List Oper} {listed : Array Bool} {a : Act} {Q : Exit → Act → World → Prop} (hB : regG md L.toArray n ks listed = true) (hl : Picks L ks l)
    (h : wpStill P L.toArray w (fun a' => wpAny P md L.toArray Q g (setAll ks listed) a' w) l a) : wpAny P md L.toArray Q (ks.length + g) listed a w :=
  wpAny_headG ks g hB ((get_toArray ks).trans hl.eq) h
theorem wpAny_of_seqL {Q : Exit → Act → World → Prop} (ks : List Nat) (l : List Oper) (listed : Array Bool) (a : Act) (w : World) (hl : Picks L ks l)
    (hB : seqG md L.toArray ks listed = true) (h : wpList P L.toArray Q l a w) : wpAny P md L.toArray Q ks.length listed a w :=
  wpAny_of_seqG ks l listed a w ((get_toArray ks).trans hl.eq) hB h
end
end Wt
