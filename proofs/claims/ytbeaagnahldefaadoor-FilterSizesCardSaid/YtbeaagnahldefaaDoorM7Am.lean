/- Walks: formula's constructors (printed by gen_bldb.py). -/
import Derived.Test.YtbeaagnahldefaaDoorM7Al
import Derived.Test.YtbeaagnahldefaaDoorM7Aj
namespace Wt
open Go Go.RowKit Go.Maps Go.Proofs Fm

theorem RNN.one (w : World) (fa : Option Addr) (fc : Nat) (f : List Nd) (T : Nat) (h : RN w fa f) : RNN (w.alloc (.cells #[.slice fa f.length fc] T)) (some ⟨w.heap.size, 0, none⟩) [f] :=
  ⟨by simp, fun k hk => by
    obtain rfl : k = 0 := by simp at hk; omega
    exact ⟨w.heap.size, 0, fa, fc, rfl, by simp, by simp [nth], h.ext ((Ext.refl w).alloc _)⟩⟩
theorem RNN.two (w : World) (fa ga : Option Addr) (fc gc : Nat) (f g : List Nd) (T : Nat) (h : RN w fa f) (h2 : RN w ga g) : RNN (w.alloc (.cells #[.slice fa f.length fc, .slice ga g.length gc] T)) (some ⟨w.heap.size, 0, none⟩) [f, g] :=
  ⟨by simp, fun k hk => by
    rcases (show k = 0 ∨ k = 1 by simp at hk; omega) with rfl | rfl
    · exact ⟨w.heap.size, 0, fa, fc, rfl, by simp, by simp [nth], h.ext ((Ext.refl w).alloc _)⟩
    · exact ⟨w.heap.size, 0, ga, gc, rfl, by simp, by simp [nth], h2.ext ((Ext.refl w).alloc _)⟩⟩
set_option maxHeartbeats 1000000 in
theorem cFact_any (a : Int) (w : World) :
    Calls Tryd.prog 25 #[.int .i64 a] w fun e w' => RetN (fB ⟨3, a, 0, 0, 0, 0⟩ []) e w w' := by
  have H := Lib.hid (build_any ⟨3, a, 0, 0, 0, 0⟩ none 0 [] w (RNN.nil _ _) (by decide))
  go_enter Tryd.func25, Tryd.ntmps25
  go_wp2_with (go_at_call 67; go_loud (refine H.out.mono ?_; rintro e w1 ⟨a1, c1, rfl, h1, hE⟩))
  go_ret
  exact ⟨a1, c1, rfl, h1, hE⟩
set_option maxHeartbeats 1000000 in
theorem cPoss_any (a : Int) (fa : Option Addr) (fc : Nat) (f : List Nd) (w : World) (hf : RN w fa f) :
    Calls Tryd.prog 26 #[.int .i64 a, .slice fa f.length fc] w fun e w' => RetN (fB ⟨10, a, 0, 0, 0, 0⟩ [f]) e w w' := by
  have H := Lib.hid (build_any ⟨10, a, 0, 0, 0, 0⟩ (some ⟨w.heap.size, 0, none⟩) 1 [f] _ (RNN.one w fa fc f 26 hf) (by simp))
  go_enter Tryd.func26, Tryd.ntmps26
  go_wp2_with (go_at_call 67; go_loud (refine H.out.mono ?_; rintro e w1 ⟨a1, c1, rfl, h1, hE⟩))
  go_ret
  exact ⟨a1, c1, rfl, h1, ((Ext.refl w).alloc _).trans hE⟩
set_option maxHeartbeats 1000000 in
/-- The formula of a fact lies in memory of its own. -/
theorem cFact_fresh (a : Int) (w : World) :
    Calls Tryd.prog 25 #[.int .i64 a] w fun e w' => RetNF (fB ⟨3, a, 0, 0, 0, 0⟩ []) e w w' := by
  have H := Lib.hid (build_fresh ⟨3, a, 0, 0, 0, 0⟩ none 0 [] w (RNN.nil _ _) (by decide))
  go_enter Tryd.func25, Tryd.ntmps25
  go_wp2_with (go_at_call 67; go_loud (refine H.out.mono ?_; rintro e w1 ⟨a1, c1, rfl, h1, hfr, hE⟩))
  go_ret
  exact ⟨a1, c1, rfl, h1, hfr, hE⟩
end Wt

/- Walks: checker.common, request. -/
namespace Wt
open Go Go.RowKit Go.Proofs Fm

def bvOf (v : Value) : Nat := match v with | .int _ z => z.toNat | _ => 0
theorem bvOf_un (s : BitVec 64) : bvOf (.int .u64 (un s)) = s.toNat := by simp [bvOf, un]
set_option maxHeartbeats 1000000 in
theorem common_any (a : Option Addr) (r : List (BitVec 64)) (cc : Nat) (n : Nat) (c s : BitVec 64) (w : World) (hr : RU w a r) (hn : r.length ≤ n) :
    Calls Tryd.prog 109 #[.slice a r.length cc, .int .u64 (un (allW n)), .int .u64 (un c), .int .u64 (un s)] w fun e w' => e = .returned (.int .u64 (un (cmn r n c s))) ∧ w = w' := by
  have hl := hr.len
  have HS := Lib.hid (cmn_of r n hn c s)
  have HM := Lib.hid (cmnI_step r n hn c s)
  go_enter Tryd.func109, Tryd.ntmps109
  go_wp2
  go_loop [9] (fun o => ∃ k : Nat, o = .int .u64 (un (cmnI r n c s k))) (fun o => bvOf o)
  case atStart => exact ⟨0, rfl⟩
  case round =>
    obtain ⟨k, rfl⟩ := hrel
    by_cases hq : cmnI r n c s (k + 1) = cmnI r n c s k
    · have hq2 : (cmnI r n c s (k + 1) == cmnI r n c s k) = true := by simp [hq]
      have HQ := Lib.hid hq
      clear hq
      go_wp2_with (go_at_call 105; refine (relBox_any _ _ _ ((allW n &&& ~~~ c) ||| (s &&& cmnI r n c s k)) _ hr).mono ?_; rintro e w1 ⟨rfl, rfl⟩; rw [show relBox r ((allW n &&& ~~~ c) ||| (s &&& cmnI r n c s k)) = cmnI r n c s (k + 1) from rfl])
      go_ret
      exact ⟨by rw [← HS.out k HQ.out]; rfl, rfl⟩
    · have hq2 : (cmnI r n c s (k + 1) == cmnI r n c s k) = false := by simp [hq]
      have hlt := sub_toNat_lt (HM.out k) hq
      have HQ := Lib.hid hlt
      clear hq hlt
      go_wp2_with (go_at_call 105; refine (relBox_any _ _ _ ((allW n &&& ~~~ c) ||| (s &&& cmnI r n c s k)) _ hr).mono ?_; rintro e w1 ⟨rfl, rfl⟩; rw [show relBox r ((allW n &&& ~~~ c) ||| (s &&& cmnI r n c s k)) = cmnI r n c s (k + 1) from rfl])
      go_round
      case rel => exact ⟨k + 1, rfl⟩
      case measure => rw [bvOf_un, bvOf_un]; exact HQ.out
/-- The error of a request. -/
def reqErr (M : Mo) (f : List Nd) : Int :=
  if moCheck M ≠ 0 then moCheck M else if fCheck f ≠ 0 then fCheck f else if 16 ≤ fFrags f then 10 else if fFits f M.rel.length M.val.length = false then 2 else 0
set_option maxRecDepth 100000 in
theorem andNot15 (k : Nat) (h : k < 512) : ((k &&& 4294967280 : Nat) = 0) ↔ k < 16 := by
  have : ∀ k : _root_.Fin 512, (((k.val &&& 4294967280 : Nat) = 0) ↔ k.val < 16) := by decide +kernel
  exact this ⟨k, h⟩
set_option maxHeartbeats 1000000 in
theorem request_any (M : Mo) (va ra : Option Addr) (vc rc : Nat) (fa : Option Addr) (fc : Nat) (f : List Nd) (w : World) (hm : RM w va ra M) (hf : RN w fa f) :
    Calls Tryd.prog 78 #[.agg #[.int .i64 M.worlds, .slice va M.val.length vc, .slice ra M.rel.length rc], .slice fa f.length fc] w fun e w' => e = .returned (.int .i64 (reqErr M f)) ∧ Ext w w' := by
  have hE0 := (Ext.refl w).alloc (.cells #[.int .i64 M.worlds, .slice va M.val.length vc, .slice ra M.rel.length rc] 25)
  have hm0 := hm.ext hE0
  obtain ⟨m0, m1, m2⟩ := MoBox.new w M.worlds M.val M.rel va vc ra rc 25
  have HE := Lib.hid hE0
  have HF := Lib.hid hf
  have hvl := hm.val.len
  have hrl := hm.rel.len
  clear hE0 hf hm
  by_cases h1 : moCheck M = 0
  · have H1 := Lib.hid h1
    by_cases h2 : fCheck f = 0
    · have H2 := Lib.hid h2
      have hfr := unionL_lt fragN fragN_lt (fCompact f)
      have hfr2 : fFrags f < 512 := hfr
      have han : bits .andNot .i64 (fFrags f : Int) 15 = ((fFrags f &&& 4294967280 : Nat) : Int) := andNot_nat (fFrags f) 15 (by omega) (by omega)
      by_cases h3 : 16 ≤ fFrags f
      · have hn : reqErr M f = 10 := by unfold reqErr; rw [if_neg (by simp [h1]), if_neg (by simp [h2]), if_pos h3]
        have HN := Lib.hid hn
        have hq : (((fFrags f &&& 4294967280 : Nat) : Int) != 0) = true := by
          have := andNot15 (fFrags f) hfr2
          simp; omega
        clear h1 h2 h3 hn hfr hfr2
        go_enter Tryd.func78, Tryd.ntmps78
        go_wp2_with (first | (go_at_call 48; refine (modelCheck_any M va ra vc rc _ hm0).mono ?_; rintro e w1 ⟨rfl, hE1⟩; rw [H1.out]; have q0 := hE1.cell m0; have q1 := hE1.cell m1; have q2 := hE1.cell m2; clear m0 m1 m2) | (go_at_call 69; refine (check_any _ _ f _ (HF.out.ext (HE.out.trans hE1))).mono ?_; rintro e w2 ⟨rfl, hE2⟩; rw [H2.out]; have p0 := hE2.cell q0; have p1 := hE2.cell q1; have p2 := hE2.cell q2; clear q0 q1 q2; have hA := (HE.out.trans hE1).trans hE2) | (go_at_call 70; refine (frags_any _ _ f _ (HF.out.ext hA)).mono ?_; rintro e w3 ⟨rfl, hE3⟩))
        go_ret
        exact ⟨by rw [HN.out]; rfl, hA.trans hE3⟩
      · have hq : (((fFrags f &&& 4294967280 : Nat) : Int) != 0) = false := by
          have := andNot15 (fFrags f) hfr2
          simp; omega
        cases h4 : fFits f M.rel.length M.val.length
        · have hn : reqErr M f = 2 := by unfold reqErr; rw [if_neg (by simp [h1]), if_neg (by simp [h2]), if_neg h3, if_pos h4]
          have HN := Lib.hid hn
          have H4 := Lib.hid h4
          clear h1 h2 h3 hn hfr hfr2 h4
          go_enter Tryd.func78, Tryd.ntmps78
          go_wp2_with (first | (go_at_call 48; refine (modelCheck_any M va ra vc rc _ hm0).mono ?_; rintro e w1 ⟨rfl, hE1⟩; rw [H1.out]; have q0 := hE1.cell m0; have q1 := hE1.cell m1; have q2 := hE1.cell m2; clear m0 m1 m2) | (go_at_call 69; refine (check_any _ _ f _ (HF.out.ext (HE.out.trans hE1))).mono ?_; rintro e w2 ⟨rfl, hE2⟩; rw [H2.out]; have p0 := hE2.cell q0; have p1 := hE2.cell q1; have p2 := hE2.cell q2; clear q0 q1 q2; have hA := (HE.out.trans hE1).trans hE2) | (go_at_call 70; refine (frags_any _ _ f _ (HF.out.ext hA)).mono ?_; rintro e w3 ⟨rfl, hE3⟩; have s0 := hE3.cell p0; have s1 := hE3.cell p1; have s2 := hE3.cell p2; clear p0 p1 p2; have hB := hA.trans hE3) | (go_at_call 95; refine (fits_any _ _ f _ _ _ (HF.out.ext hB)).mono ?_; rintro e w4 ⟨rfl, hE4⟩; rw [H4.out]))
          go_ret
          exact ⟨by rw [HN.out]; rfl, hB.trans hE4⟩
        · have hn : reqErr M f = 0 := by unfold reqErr; rw [if_neg (by simp [h1]), if_neg (by simp [h2]), if_neg h3, if_neg (by simp [h4])]
          have HN := Lib.hid hn
          have H4 := Lib.hid h4
          clear h1 h2 h3 hn hfr hfr2 h4
          go_enter Tryd.func78, Tryd.ntmps78
          go_wp2_with (first | (go_at_call 48; refine (modelCheck_any M va ra vc rc _ hm0).mono ?_; rintro e w1 ⟨rfl, hE1⟩; rw [H1.out]; have q0 := hE1.cell m0; have q1 := hE1.cell m1; have q2 := hE1.cell m2; clear m0 m1 m2) | (go_at_call 69; refine (check_any _ _ f _ (HF.out.ext (HE.out.trans hE1))).mono ?_; rintro e w2 ⟨rfl, hE2⟩; rw [H2.out]; have p0 := hE2.cell q0; have p1 := hE2.cell q1; have p2 := hE2.cell q2; clear q0 q1 q2; have hA := (HE.out.trans hE1).trans hE2) | (go_at_call 70; refine (frags_any _ _ f _ (HF.out.ext hA)).mono ?_; rintro e w3 ⟨rfl, hE3⟩; have s0 := hE3.cell p0; have s1 := hE3.cell p1; have s2 := hE3.cell p2; clear p0 p1 p2; have hB := hA.trans hE3) | (go_at_call 95; refine (fits_any _ _ f _ _ _ (HF.out.ext hB)).mono ?_; rintro e w4 ⟨rfl, hE4⟩; rw [H4.out]))
          go_ret
          exact ⟨by rw [HN.out]; rfl, hB.trans hE4⟩
    · have hn : reqErr M f = fCheck f := by unfold reqErr; rw [if_neg (by simp [h1]), if_pos h2]
      have HN := Lib.hid hn
      have hq2 : (fCheck f != 0) = true := by simp [h2]
      clear h1 h2 hn
      go_enter Tryd.func78, Tryd.ntmps78
      go_wp2_with (first | (go_at_call 48; refine (modelCheck_any M va ra vc rc _ hm0).mono ?_; rintro e w1 ⟨rfl, hE1⟩; rw [H1.out]; have q0 := hE1.cell m0; have q1 := hE1.cell m1; have q2 := hE1.cell m2; clear m0 m1 m2) | (go_at_call 69; refine (check_any _ _ f _ (HF.out.ext (HE.out.trans hE1))).mono ?_; rintro e w2 ⟨rfl, hE2⟩))
      go_ret
      exact ⟨by rw [HN.out]; rfl, (HE.out.trans hE1).trans hE2⟩
  · have hn : reqErr M f = moCheck M := by unfold reqErr; rw [if_pos h1]
    have HN := Lib.hid hn
    have hq2 : (moCheck M != 0) = true := by simp [h1]
    clear h1 hn
    go_enter Tryd.func78, Tryd.ntmps78
    go_wp2_with (go_at_call 48; refine (modelCheck_any M va ra vc rc _ hm0).mono ?_; rintro e w1 ⟨rfl, hE1⟩)
    go_ret
    exact ⟨by rw [HN.out]; rfl, HE.out.trans hE1⟩
end Wt
