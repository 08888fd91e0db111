/- Walks: wittingref17.Check, fits. -/
import Derived.Test.YtdnpgadkklgjeaaCkA
import Derived.Test.YtdnpgadkklgjeaaSemB
namespace Wt
open Go Go.RowKit Go.Maps Go.Proofs Fm

set_option maxHeartbeats 1000000 in
theorem r17Check_any (M : Mo) (va ra : Option Addr) (vc rc : Nat) (fa : Option Addr) (fc : Nat) (f : List Nd) (w : World) (hm : RM w va ra M) (hf : RN w fa f) :
    Calls Try.prog 41 #[.agg #[.int .i64 M.worlds, .slice va M.val.length vc, .slice ra M.rel.length rc], .slice fa f.length fc, .int .i64 15] w fun e w' => e = .returned (.int .i64 (reqErr M f)) ∧ Ext w w' := by
  have hE0 := (Ext.refl w).alloc (.cells #[.int .i64 M.worlds, .slice va M.val.length vc, .slice ra M.rel.length rc] 25)
  have hm0 := hm.ext hE0
  obtain ⟨m0, m1, m2⟩ := MoBox.new w M.worlds M.val M.rel va vc ra rc 25
  have HE := Lib.hid hE0
  have HF := Lib.hid hf
  have hvl := hm.val.len
  have hrl := hm.rel.len
  clear hE0 hf hm
  by_cases h1 : moCheck M = 0
  · have H1 := Lib.hid h1
    by_cases h2 : fCheck f = 0
    · have H2 := Lib.hid h2
      have hfr := unionL_lt fragN fragN_lt (fCompact f)
      have hfr2 : fFrags f < 512 := hfr
      have han : bits .andNot .i64 (fFrags f : Int) 15 = ((fFrags f &&& 4294967280 : Nat) : Int) := andNot_nat (fFrags f) 15 (by omega) (by omega)
      by_cases h3 : 16 ≤ fFrags f
      · have hn : reqErr M f = 10 := by unfold reqErr; rw [if_neg (by simp [h1]), if_neg (by simp [h2]), if_pos h3]
        have HN := Lib.hid hn
        have hq : (((fFrags f &&& 4294967280 : Nat) : Int) != 0) = true := by
          have := andNot15 (fFrags f) hfr2
          simp; omega
        clear h1 h2 h3 hn hfr hfr2
        go_enter Try.func41, Try.ntmps41
        go_wp2_with (first | (go_at_call 21; refine (r13Check_any M va ra vc rc _ hm0).mono ?_; rintro e w1 ⟨rfl, hE1⟩; rw [H1.out]; have q0 := hE1.cell m0; have q1 := hE1.cell m1; have q2 := hE1.cell m2; clear m0 m1 m2) | (go_at_call 52; refine (r5Check_any _ _ f _ (HF.out.ext (HE.out.trans hE1))).mono ?_; rintro e w2 ⟨rfl, hE2⟩; rw [H2.out]; have p0 := hE2.cell q0; have p1 := hE2.cell q1; have p2 := hE2.cell q2; clear q0 q1 q2; have hA := (HE.out.trans hE1).trans hE2) | (go_at_call 53; refine (r5Frags_any _ _ f _ (HF.out.ext hA)).mono ?_; rintro e w3 ⟨rfl, hE3⟩))
        go_ret
        exact ⟨by rw [HN.out]; rfl, hA.trans hE3⟩
      · have hq : (((fFrags f &&& 4294967280 : Nat) : Int) != 0) = false := by
          have := andNot15 (fFrags f) hfr2
          simp; omega
        cases h4 : fFits f M.rel.length M.val.length
        · have hn : reqErr M f = 2 := by unfold reqErr; rw [if_neg (by simp [h1]), if_neg (by simp [h2]), if_neg h3, if_pos h4]
          have HN := Lib.hid hn
          have H4 := Lib.hid h4
          clear h1 h2 h3 hn hfr hfr2 h4
          go_enter Try.func41, Try.ntmps41
          go_wp2_with (first | (go_at_call 21; refine (r13Check_any M va ra vc rc _ hm0).mono ?_; rintro e w1 ⟨rfl, hE1⟩; rw [H1.out]; have q0 := hE1.cell m0; have q1 := hE1.cell m1; have q2 := hE1.cell m2; clear m0 m1 m2) | (go_at_call 52; refine (r5Check_any _ _ f _ (HF.out.ext (HE.out.trans hE1))).mono ?_; rintro e w2 ⟨rfl, hE2⟩; rw [H2.out]; have p0 := hE2.cell q0; have p1 := hE2.cell q1; have p2 := hE2.cell q2; clear q0 q1 q2; have hA := (HE.out.trans hE1).trans hE2) | (go_at_call 53; refine (r5Frags_any _ _ f _ (HF.out.ext hA)).mono ?_; rintro e w3 ⟨rfl, hE3⟩; have s0 := hE3.cell p0; have s1 := hE3.cell p1; have s2 := hE3.cell p2; clear p0 p1 p2; have hB := hA.trans hE3) | (go_at_call 54; refine (r5Fits_any _ _ f _ _ _ (HF.out.ext hB)).mono ?_; rintro e w4 ⟨rfl, hE4⟩; rw [H4.out]))
          go_ret
          exact ⟨by rw [HN.out]; rfl, hB.trans hE4⟩
        · have hn : reqErr M f = 0 := by unfold reqErr; rw [if_neg (by simp [h1]), if_neg (by simp [h2]), if_neg h3, if_neg (by simp [h4])]
          have HN := Lib.hid hn
          have H4 := Lib.hid h4
          clear h1 h2 h3 hn hfr hfr2 h4
          go_enter Try.func41, Try.ntmps41
          go_wp2_with (first | (go_at_call 21; refine (r13Check_any M va ra vc rc _ hm0).mono ?_; rintro e w1 ⟨rfl, hE1⟩; rw [H1.out]; have q0 := hE1.cell m0; have q1 := hE1.cell m1; have q2 := hE1.cell m2; clear m0 m1 m2) | (go_at_call 52; refine (r5Check_any _ _ f _ (HF.out.ext (HE.out.trans hE1))).mono ?_; rintro e w2 ⟨rfl, hE2⟩; rw [H2.out]; have p0 := hE2.cell q0; have p1 := hE2.cell q1; have p2 := hE2.cell q2; clear q0 q1 q2; have hA := (HE.out.trans hE1).trans hE2) | (go_at_call 53; refine (r5Frags_any _ _ f _ (HF.out.ext hA)).mono ?_; rintro e w3 ⟨rfl, hE3⟩; have s0 := hE3.cell p0; have s1 := hE3.cell p1; have s2 := hE3.cell p2; clear p0 p1 p2; have hB := hA.trans hE3) | (go_at_call 54; refine (r5Fits_any _ _ f _ _ _ (HF.out.ext hB)).mono ?_; rintro e w4 ⟨rfl, hE4⟩; rw [H4.out]))
          go_ret
          exact ⟨by rw [HN.out]; rfl, hB.trans hE4⟩
    · have hn : reqErr M f = fCheck f := by unfold reqErr; rw [if_neg (by simp [h1]), if_pos h2]
      have HN := Lib.hid hn
      have hq2 : (fCheck f != 0) = true := by simp [h2]
      clear h1 h2 hn
      go_enter Try.func41, Try.ntmps41
      go_wp2_with (first | (go_at_call 21; refine (r13Check_any M va ra vc rc _ hm0).mono ?_; rintro e w1 ⟨rfl, hE1⟩; rw [H1.out]; have q0 := hE1.cell m0; have q1 := hE1.cell m1; have q2 := hE1.cell m2; clear m0 m1 m2) | (go_at_call 52; refine (r5Check_any _ _ f _ (HF.out.ext (HE.out.trans hE1))).mono ?_; rintro e w2 ⟨rfl, hE2⟩))
      go_ret
      exact ⟨by rw [HN.out]; rfl, (HE.out.trans hE1).trans hE2⟩
  · have hn : reqErr M f = moCheck M := by unfold reqErr; rw [if_pos h1]
    have HN := Lib.hid hn
    have hq2 : (moCheck M != 0) = true := by simp [h1]
    clear h1 hn
    go_enter Try.func41, Try.ntmps41
    go_wp2_with (go_at_call 21; refine (r13Check_any M va ra vc rc _ hm0).mono ?_; rintro e w1 ⟨rfl, hE1⟩)
    go_ret
    exact ⟨by rw [HN.out]; rfl, HE.out.trans hE1⟩
/-- Is a node static, and does it fit a model? -/
def fitsOf (M : Mo) (L : List Nd) : Bool := decide (fFrags L < 16) && fFits L M.rel.length M.val.length
set_option maxHeartbeats 2000000 in
theorem r17fits_any (M : Mo) (va ra : Option Addr) (vc rc : Nat) (fa : Option Addr) (fc : Nat) (f : List Nd) (i : Int) (w : World) (hm : RM w va ra M) (hf : RN w fa f) :
    Calls Try.prog 45 #[.agg #[.int .i64 M.worlds, .slice va M.val.length vc, .slice ra M.rel.length rc], .slice fa f.length fc, .int .i64 i] w fun e w' => e = .returned (.bool (fitsOf M (fSub f i))) ∧ Ext w w' := by
  have hE0 := (Ext.refl w).alloc (.cells #[.int .i64 M.worlds, .slice va M.val.length vc, .slice ra M.rel.length rc] 25)
  obtain ⟨m0, m1, m2⟩ := MoBox.new w M.worlds M.val M.rel va vc ra rc 25
  have HE := Lib.hid hE0
  have HF := Lib.hid hf
  have hvl := hm.val.len
  have hrl := hm.rel.len
  clear hE0 hf hm
  have hfr2 : fFrags (fSub f i) < 512 := unionL_lt fragN fragN_lt (fCompact (fSub f i))
  have han : bits .andNot .i64 (fFrags (fSub f i) : Int) 15 = ((fFrags (fSub f i) &&& 4294967280 : Nat) : Int) := andNot_nat (fFrags (fSub f i)) 15 (by omega) (by omega)
  have HS : Hid (∀ w, RN w fa f → Calls Try.prog 51 #[.slice fa f.length fc, .int .i64 i] w (RetN (fSub f i) · w ·)) := fun w h => r5Sub_any fa fc f i w h
  by_cases h3 : fFrags (fSub f i) < 16
  · have hq : (((fFrags (fSub f i) &&& 4294967280 : Nat) : Int) == 0) = true := by
      have := andNot15 (fFrags (fSub f i)) hfr2
      simp; omega
    have hn : fitsOf M (fSub f i) = fFits (fSub f i) M.rel.length M.val.length := by unfold fitsOf; simp [h3]
    have HN := Lib.hid hn
    clear hn hfr2 h3
    generalize fSub f i = L at *
    go_enter Try.func45, Try.ntmps45
    go_wp2_with (first | (go_at_call 51; refine (HS.out _ (HF.out.ext HE.out)).mono ?_; rintro e w1 ⟨a1, c1, rfl, hL, hE1⟩; have q0 := hE1.cell m0; have q1 := hE1.cell m1; have q2 := hE1.cell m2; clear m0 m1 m2; have hA := HE.out.trans hE1) | (go_at_call 53; refine (r5Frags_any _ _ L _ hL).mono ?_; rintro e w2 ⟨rfl, hE2⟩; have p0 := hE2.cell q0; have p1 := hE2.cell q1; have p2 := hE2.cell q2; clear q0 q1 q2; have hB := hA.trans hE2) | (go_at_call 54; refine (r5Fits_any _ _ L _ _ _ (hL.ext hE2)).mono ?_; rintro e w3 ⟨rfl, hE3⟩))
    go_ret
    exact ⟨by rw [HN.out]; rfl, hB.trans hE3⟩
  · have hq : (((fFrags (fSub f i) &&& 4294967280 : Nat) : Int) == 0) = false := by
      have := andNot15 (fFrags (fSub f i)) hfr2
      simp; omega
    have hn : fitsOf M (fSub f i) = false := by unfold fitsOf; simp [h3]
    have HN := Lib.hid hn
    clear hn hfr2 h3
    generalize fSub f i = L at *
    go_enter Try.func45, Try.ntmps45
    go_wp2_with (first | (go_at_call 51; refine (HS.out _ (HF.out.ext HE.out)).mono ?_; rintro e w1 ⟨a1, c1, rfl, hL, hE1⟩; have q0 := hE1.cell m0; have q1 := hE1.cell m1; have q2 := hE1.cell m2; clear m0 m1 m2; have hA := HE.out.trans hE1) | (go_at_call 53; refine (r5Frags_any _ _ L _ hL).mono ?_; rintro e w2 ⟨rfl, hE2⟩; have p0 := hE2.cell q0; have p1 := hE2.cell q1; have p2 := hE2.cell q2; clear q0 q1 q2; have hB := hA.trans hE2))
    go_ret
    exact ⟨by rw [HN.out]; rfl, hB⟩
/-- A node of a right formula fits exactly if its tree has a set. -/
theorem fits_sem {M : Mo} (hr : M.rel.length ≤ 4) (hv : M.val.length ≤ 8) {f : List Nd} (hc : fCheck f = 0) {k : Nat} (hk : k < f.length) : fitsOf M (fSub f k) = (semT M (trAt f k)).2 := by
  obtain ⟨h0, h200, hw⟩ := fCheck_ok.1 hc
  have ht : fok (trAt f k) := fok_trAt hw _ k (Nat.lt_succ_self k) hk
  have hs : fsize (trAt f k) ≤ 200 := Nat.le_trans (fsize_le hw hk) h200
  have e : fSub f k = canon (trAt f k) := by unfold fSub; rw [if_pos ⟨hc, by omega, by omega⟩, Int.toNat_natCast]
  rw [e, semT_fits M hr hv _ ht]
  unfold fitsOf fFits
  rw [canon_check _ ht hs]
  unfold fFrags fAgents fFacts
  rw [compact_canon _ ht hs]
  simp [Bool.and_assoc]
end Wt
