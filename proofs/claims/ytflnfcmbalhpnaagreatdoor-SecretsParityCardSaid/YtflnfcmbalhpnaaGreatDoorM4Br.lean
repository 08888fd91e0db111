/- The walk of SecretsDecides (printed by gen_law44.py). -/
import Derived.Test.YtflnfcmbalhpnaaGreatDoorM4Bp
namespace Wt
open Go Go.RowKit Go.Maps Go.Proofs Fm

theorem all_tab : ∀ n : _root_.Fin 5, ∀ g : _root_.Fin 16, g.val < 2 ^ n.val → (2 ^ n.val - 1) &&& (4294967295 - g.val) = (2 ^ n.val - 1) ^^^ g.val ∧ (2 ^ n.val - 1) ^^^ g.val < 16 := by decide +kernel
theorem all_not {n g : Nat} (hn : n ≤ 4) (hg : g < 2 ^ n) : (2 ^ n - 1) &&& (4294967295 - g) = (2 ^ n - 1) ^^^ g ∧ (2 ^ n - 1) ^^^ g < 16 := all_tab ⟨n, by omega⟩ ⟨g, by have := pow16 hn; omega⟩ hg
theorem ones4_tab : ∀ v : _root_.Fin 16, onesN v.val ≤ 4 := by decide +kernel
theorem ones4 {v : Nat} (h : v < 16) : onesN v ≤ 4 := ones4_tab ⟨v, h⟩
/-- The numbers of a law: how many, all, and the bounds. -/
structure Sz (n a : Nat) : Prop where
  n2 : 2 ≤ n
  n4 : n ≤ 4
  eq : a = 2 ^ n - 1
  pw : 2 ^ n = a + 1
  lo : 3 ≤ a
  hi : a ≤ 15
theorem Sz.mk' (n : Nat) (h2 : 2 ≤ n) (h4 : n ≤ 4) : Sz n (2 ^ n - 1) := by
  rcases (show n = 2 ∨ n = 3 ∨ n = 4 by omega) with rfl | rfl | rfl <;> exact ⟨by decide, by decide, rfl, by decide, by decide, by decide⟩
set_option maxRecDepth 20000 in
set_option maxHeartbeats 8000000 in
theorem secretsDecides_any (sz vt q0 q1 : Nat) (_h1 : sz ≤ 255) (h2 : vt ≤ 255) (h3 : q0 ≤ 255) (h4 : q1 ≤ 255) (w : World) (hT : Tab w) :
    Calls Tryz.prog 5 #[.int .u8 (sz : Int), .int .u8 (vt : Int), .agg #[.int .u8 (q0 : Int), .int .u8 (q1 : Int)]] w fun e w' => e = .returned (.bool true) ∧ Ext w w' := by
  obtain ⟨r, hr⟩ : ∃ r, r = sz % 3 := ⟨_, rfl⟩
  have hr3 : r < 3 := by omega
  have hrI : (sz : Int) % 3 = (r : Int) := by omega
  obtain ⟨n, hnr⟩ : ∃ n, n = 2 + r := ⟨_, rfl⟩
  have hnI : 2 + (r : Int) = (n : Int) := by omega
  have HZ := Lib.hid (Sz.mk' n (by omega) (by omega))
  obtain ⟨a, ha⟩ : ∃ a, a = 2 ^ n - 1 := ⟨_, rfl⟩
  rw [← ha] at HZ
  have hn2 := HZ.out.n2
  have hn4 := HZ.out.n4
  have ha3 := HZ.out.lo
  have ha15 := HZ.out.hi
  have hpa := HZ.out.pw
  have h63 : n < 63 := by omega
  obtain ⟨hq1, hq2⟩ := pw_int hn4
  have haI : p2 n - 1 = (a : Int) := by unfold p2; omega
  have ha0 : ((a : Int) == 0) = false := by simp; omega
  have ha0' : ¬ ((a : Int) = 0) := by omega
  obtain ⟨v, hv⟩ : ∃ v, v = vt &&& a := ⟨_, rfl⟩
  have hvI : bits .and .i64 (vt : Int) (a : Int) = (v : Int) := by rw [hv]; exact and_nat vt a (by omega) (by omega)
  have hva : v ≤ a := by rw [hv]; exact Nat.and_le_right
  obtain ⟨gm, hgm⟩ : ∃ gm, gm = q0 % a := ⟨_, rfl⟩
  have hgmI : (q0 : Int).tmod (a : Int) = (gm : Int) := by rw [hgm]; exact (Int.ofNat_tmod q0 a).symm
  have hgml : gm < a := by rw [hgm]; exact Nat.mod_lt _ (by omega)
  obtain ⟨g, hg⟩ : ∃ g, g = 1 + gm := ⟨_, rfl⟩
  have hgI : 1 + (gm : Int) = (g : Int) := by omega
  have hg1 : 1 ≤ g := by omega
  have hga : g ≤ a := by omega
  obtain ⟨q, hq⟩ : ∃ q, q = q1 % (n + 1) := ⟨_, rfl⟩
  have hqI : (q1 : Int).tmod ((n : Int) + 1) = (q : Int) := by rw [hq]; exact (Int.ofNat_tmod q1 (n + 1)).symm
  have hqn : q ≤ n := by have := Nat.mod_lt q1 (show 0 < n + 1 by omega); omega
  have hn10 : ((n : Int) + 1 == 0) = false := by simp; omega
  have hn10' : ¬ ((n : Int) + 1 = 0) := by omega
  obtain ⟨u, hu⟩ : ∃ u, u = v &&& g := ⟨_, rfl⟩
  have huI : bits .and .i64 (v : Int) (g : Int) = (u : Int) := by rw [hu]; exact and_nat v g (by omega) (by omega)
  have hu16 : u < 16 := by have : u ≤ v := by rw [hu]; exact Nat.and_le_left
                           omega
  obtain ⟨z, hz⟩ : ∃ z, z = a ^^^ g := ⟨_, rfl⟩
  obtain ⟨hzn, hz16⟩ := all_not hn4 (show g < 2 ^ n by omega)
  rw [← ha, ← hz] at hzn
  rw [← ha, ← hz] at hz16
  have hzI : bits .andNot .i64 (a : Int) (g : Int) = (z : Int) := by rw [← hzn]; exact andNot_nat a g (by omega) (by omega)
  have HOU := Lib.hid (ones_any u hu16)
  have HOV := Lib.hid (ones_any v (by omega))
  have HOZ := Lib.hid (ones_any z hz16)
  have HG := Lib.hid (fun i hi W h => guesses_is n v q g i ⟨hn2, hn4⟩ (by omega) hqn hg1 (by omega) hi W h)
  have HW : Hid (∀ i, decWant n v q g i = (g.testBit i || (decide (q ≤ onesN v) && q == onesN u + onesN z) || (!decide (q ≤ onesN v) && q == onesN u + 1))) := Lib.hid fun i => by rw [hu, hz, ha]; rfl
  have hou := ones4 hu16
  have hov := ones4 (show v < 16 by omega)
  have hoz := ones4 hz16
  generalize onesN u = ou at *
  generalize onesN v = ov at *
  generalize onesN z = oz at *
  obtain ⟨ps, hps⟩ : ∃ ps, decide (q ≤ ov) = ps := ⟨_, rfl⟩
  obtain ⟨e1, he1⟩ : ∃ e1, (q == ou + oz) = e1 := ⟨_, rfl⟩
  have he1I : ((q : Int) - (ou : Int) == (oz : Int)) = e1 := by rw [← he1, Bool.eq_iff_iff]; simp; omega
  obtain ⟨e2, he2⟩ : ∃ e2, (q == ou + 1) = e2 := ⟨_, rfl⟩
  have he2I : ((q : Int) - (ou : Int) == 1) = e2 := by rw [← he2, Bool.eq_iff_iff]; simp; omega
  have HWE : Hid (∀ i, decWant n v q g i = (g.testBit i || (ps && e1) || (!ps && e2))) := Lib.hid fun i => by rw [HW.out, hps, he1, he2]
  have hg63 : g < 9223372036854775808 := by omega
  have HT := Lib.hid hT
  clear hT HW he1 he2 hu hz hzn hq hgm hv hg ha hnr hr hpa HZ
  go_enter Tryz.func5, Tryz.ntmps5
  go_wp2_with fail
  go_quiet (fail)
  go_wp2_with fail
  refine (HOU.out _).mono ?_
  rintro _ _ ⟨rfl, rfl⟩
  dsimp only
  go_wp2_with fail
  refine (HOV.out _).mono ?_
  rintro _ _ ⟨rfl, rfl⟩
  dsimp only
  go_wp2_with fail
  clear hrI hnI hvI hgmI hgI hqI huI haI
  go_loopw [55] (fun i wr => ∃ k : Nat, k ≤ n ∧ i = .int .i64 (k : Int) ∧ Ext w wr) (fun i _ => n - (intOf i).toNat)
  case atStart => exact ⟨0, Nat.zero_le _, rfl, ((Ext.refl w).alloc _).drewN _⟩
  case round =>
    obtain ⟨k, hk, rfl, hE⟩ := hrel
    have HE := Lib.hid hE
    clear hE
    by_cases hlt : k < n
    · have HK := Lib.hid (HG.out k hlt wr (HT.out.ext HE.out))
      have HY := Lib.hid (HWE.out k)
      generalize decWant n v q g k = y at *
      obtain ⟨tb, htb⟩ : ∃ tb, g.testBit k = tb := ⟨_, rfl⟩
      rw [htb] at HY
      cases tb <;> cases ps <;> cases e1 <;> cases e2
      all_goals
        have hy := HY.out
        simp at hy
        subst hy
        go_wp2_with fail
        refine HK.out.mono ?_
        rintro _ w2 ⟨rfl, hE2⟩
        dsimp only
        go_wp2_with (go_at_call 24; refine (HOZ.out _).mono ?_; rintro _ _ ⟨rfl, rfl⟩)
        go_roundw
        case rel => exact ⟨k + 1, hlt, by go_num, HE.out.trans hE2⟩
        case measure => simp [intOf]; omega
    · go_wp2_with fail
      refine (awake44_any _ (HT.out.ext HE.out)).mono ?_
      rintro _ w2 ⟨rfl, hE2⟩
      dsimp only
      go_wp2_with fail
      go_ret
      exact ⟨rfl, HE.out.trans hE2⟩
theorem secretsDecides_int (s v q0 q1 : Int) (bs : 0 ≤ s ∧ s ≤ 255) (bv : 0 ≤ v ∧ v ≤ 255) (bq0 : 0 ≤ q0 ∧ q0 ≤ 255) (bq1 : 0 ≤ q1 ∧ q1 ≤ 255) (w : World) (hT : Tab w) :
    Calls Tryz.prog 5 #[.int .u8 s, .int .u8 v, .agg #[.int .u8 q0, .int .u8 q1]] w fun e w' => e = .returned (.bool true) ∧ Ext w w' := by
  obtain ⟨s, rfl⟩ := Int.eq_ofNat_of_zero_le bs.1
  obtain ⟨v, rfl⟩ := Int.eq_ofNat_of_zero_le bv.1
  obtain ⟨q0, rfl⟩ := Int.eq_ofNat_of_zero_le bq0.1
  obtain ⟨q1, rfl⟩ := Int.eq_ofNat_of_zero_le bq1.1
  exact secretsDecides_any s v q0 q1 (by omega) (by omega) (by omega) (by omega) w hT
end Wt
