/- The walks of ObserveBuilds, ObservePools. -/
import Derived.Test.YtaghfmcaikjobaaMOfC
import Derived.Test.YtaghfmcaikjobaaMOeD
import Derived.Test.YtaghfmcaikjobaaMOeC
namespace Wt
open Go Go.RowKit Go.Maps Go.Proofs Fm

theorem fewS_few {seen : List (List (List Nd))} (h : fewS seen = true) : FewS seen := by
  unfold fewS at h
  simp only [Bool.and_eq_true, decide_eq_true_eq, List.all_eq_true] at h
  exact ⟨h.1, fun l hl => h.2 l hl⟩
theorem few22_few {n : Int} {f : List Nd} {seen : List (List (List Nd))} (h : few22 n f seen = true) : n ≤ 5 ∧ f.length ≤ 30 ∧ FewS seen := by
  unfold few22 at h
  simp only [Bool.and_eq_true, decide_eq_true_eq] at h
  exact ⟨h.1, h.2.1, fewS_few h.2.2⟩
set_option maxRecDepth 20000 in
set_option maxHeartbeats 4000000 in
theorem observeBuilds_any (n : Int) (fa : Option Addr) (fc : Nat) (f : List Nd) (sa : Option Addr) (sc : Nat) (seen : List (List (List Nd))) (w : World) (hf : RN w fa f) (hs : RNNN w sa seen) :
    Calls Try.prog 3 #[.int .i64 n, .slice fa f.length fc, .slice sa seen.length sc] w fun e w' => e = .returned (.bool true) ∧ Ext w w' := by
  have HFW := Lib.hid (few22_any n fa fc f sa sc seen w hf.len hs)
  generalize few22 n f seen = b at HFW
  cases b
  · go_enter Try.func3, Try.ntmps3
    go_wp2_with fail
    refine HFW.out.mono ?_
    rintro _ _ ⟨rfl, rfl⟩
    dsimp only
    go_wp2_with fail
    refine (awake22_any _).mono ?_
    rintro _ w1 ⟨rfl, hE1⟩
    dsimp only
    go_wp2_with fail
    go_ret
    exact ⟨rfl, hE1⟩
  · have HF := Lib.hid hf
    have HS := Lib.hid hs
    have H1 : Hid (∀ w, RN w fa f → RNNN w sa seen → Calls Try.prog 12 #[.int .i64 n, .slice fa f.length fc, .slice sa seen.length sc] w fun e w' => RetBu (obM n f seen) (natI (obS n f seen)) (obErr n f seen) e w w') := Lib.hid fun w h h2 => obuild_any n fa fc f sa sc seen w h h2
    have H2 : Hid (∀ w, RN w fa f → RNNN w sa seen → Calls Try.prog 13 #[.int .i64 n, .slice fa f.length fc, .slice sa seen.length sc] w fun e w' => RetBu (obM n f seen) (natI (obS n f seen)) (obErr n f seen) e w w') := Lib.hid fun w h h2 => r22build_any n fa fc f sa sc seen w h h2
    have H3 : Hid (∀ w, RN w fa f → Calls Try.prog 14 #[.int .i64 n, .slice fa f.length fc] w fun e w' => RetP (.int .i64 ((memL (tabOf f n)).length : Int)) (tabErr f n) e w w') := Lib.hid fun w h => ocount_any n fa fc f w h
    have H4 : Hid (∀ w, RN w fa f → Calls Try.prog 15 #[.int .i64 n, .slice fa f.length fc] w fun e w' => RetP (.int .i64 ((memL (tabOf f n)).length : Int)) (tabErr f n) e w w') := Lib.hid fun w h => r22Count_any n fa fc f w h
    generalize obM n f seen = M at *
    generalize natI (obS n f seen) = L at *
    generalize obErr n f seen = c at *
    generalize ((memL (tabOf f n)).length : Int) = q at *
    generalize tabErr f n = d at *
    have hcc : (c == c) = true := by simp
    have hqq : (q == q) = true := by simp
    have hdd : (d == d) = true := by simp
    clear hf hs
    go_enter Try.func3, Try.ntmps3
    go_wp2_with fail
    refine HFW.out.mono ?_
    rintro _ _ ⟨rfl, rfl⟩
    dsimp only
    go_wp2_with fail
    refine (H1.out _ HF.out HS.out).mono ?_
    rintro _ w1 ⟨va1, ra1, la1, vc1, rc1, lc1, rfl, hm1, hi1, hE1⟩
    dsimp only
    have hA1 : Ext w1 (w1.alloc (.cells #[.int .i64 M.worlds, .slice va1 M.val.length vc1, .slice ra1 M.rel.length rc1] 29)) := (Ext.refl _).alloc _
    have HB1 := Lib.hid (OutAt.new w1 (.int .i64 M.worlds) (.slice va1 M.val.length vc1) (.slice ra1 M.rel.length rc1) 29)
    have hX1 := hE1.trans hA1
    go_wp2_with fail
    generalize w1.alloc (.cells #[.int .i64 M.worlds, .slice va1 M.val.length vc1, .slice ra1 M.rel.length rc1] 29) = w2 at *
    refine (H2.out _ (HF.out.ext hX1) (HS.out.ext hX1)).mono ?_
    rintro _ w3 ⟨va3, ra3, la3, vc3, rc3, lc3, rfl, hm3, hi3, hE3⟩
    dsimp only
    have hA3 : Ext w3 (w3.alloc (.cells #[.int .i64 M.worlds, .slice va3 M.val.length vc3, .slice ra3 M.rel.length rc3] 29)) := (Ext.refl _).alloc _
    have HB3 := Lib.hid (OutAt.new w3 (.int .i64 M.worlds) (.slice va3 M.val.length vc3) (.slice ra3 M.rel.length rc3) 29)
    have hX3 := hX1.trans (hE3.trans hA3)
    go_wp2_with fail
    generalize w3.alloc (.cells #[.int .i64 M.worlds, .slice va3 M.val.length vc3, .slice ra3 M.rel.length rc3] 29) = w4 at *
    refine (H3.out _ (HF.out.ext hX3)).mono ?_
    rintro _ w5 ⟨rfl, hE5⟩
    dsimp only
    have hX5 := hX3.trans hE5
    go_wp2_with fail
    refine (H4.out _ (HF.out.ext hX5)).mono ?_
    rintro _ w6 ⟨rfl, hE6⟩
    dsimp only
    have h56 := hE5.trans hE6
    obtain ⟨m0, m1, m2, -⟩ := HB1.out.ext ((hE3.trans hA3).trans h56)
    obtain ⟨n0, n1, n2, -⟩ := HB3.out.ext h56
    have hl1 := World.block_lt_of_cell? _ _ m0
    have hl2 := World.block_lt_of_cell? _ _ n0
    go_wp2_with fail
    clear m0 m1 m2 n0 n1 n2 hl1 hl2
    refine (sameM_any M _ _ _ _ _ _ _ _ _ (hm1.ext4 (hA1.trans ((hE3.trans hA3).trans h56))) (hm3.ext4 (hA3.trans h56))).mono ?_
    rintro _ w7 ⟨rfl, hE7⟩
    dsimp only
    go_wp2_with fail
    refine (r01Same_any la1 la3 lc1 lc3 L L _ (hi1.ext (hA1.trans (((hE3.trans hA3).trans h56).trans hE7))) (hi3.ext ((hA3.trans h56).trans hE7))).mono ?_
    rintro _ w8 ⟨rfl, hE8⟩
    rw [decide_eq_true (rfl : L = L)]
    dsimp only
    go_wp2_with fail
    refine (awake22_any _).mono ?_
    rintro _ w9 ⟨rfl, hE9⟩
    dsimp only
    go_wp2_with fail
    go_ret
    exact ⟨rfl, (hX5.trans hE6).trans (hE7.trans (hE8.ext.trans hE9))⟩
set_option maxRecDepth 20000 in
set_option maxHeartbeats 4000000 in
theorem observePools_any (seen : List (List (List Nd))) (sa : Option Addr) (sc : Nat) (g : Int) (w : World) (hs : RNNN w sa seen) :
    Calls Try.prog 4 #[.slice sa seen.length sc, .int .i64 g] w fun e w' => e = .returned (.bool true) ∧ Ext w w' := by
  have HFW := Lib.hid (r22Few_any sa sc seen w hs)
  cases hb : fewS seen
  · rw [hb] at HFW
    clear hb
    go_enter Try.func4, Try.ntmps4
    go_wp2_with fail
    refine HFW.out.mono ?_
    rintro _ _ ⟨rfl, rfl⟩
    dsimp only
    go_wp2_with fail
    refine (awake22_any _).mono ?_
    rintro _ w1 ⟨rfl, hE1⟩
    dsimp only
    go_wp2_with fail
    go_ret
    exact ⟨rfl, hE1⟩
  · have hF := fewS_few hb
    rw [hb] at HFW
    have HS := Lib.hid hs
    have H1 : Hid (∀ w, RNNN w sa seen → Calls Try.prog 19 #[.slice sa seen.length sc, .int .i64 g] w fun e w' => RetPl (poolOf seen g) (poolErr seen g) e w w') := Lib.hid fun w h => pool_any seen sa sc g w h hF
    have H2 : Hid (∀ w, RNNN w sa seen → Calls Try.prog 20 #[.slice sa seen.length sc, .int .i64 g] w fun e w' => RetPl (poolOf seen g) (poolErr seen g) e w w') := Lib.hid fun w h => r22pool_any seen sa sc g w h hF
    generalize poolOf seen g = L at *
    generalize poolErr seen g = c at *
    have hcc : (c != c) = false := by simp
    have hll : ((L.length : Int) != (L.length : Int)) = false := by simp
    clear hs hb hF
    go_enter Try.func4, Try.ntmps4
    go_wp2_with fail
    refine HFW.out.mono ?_
    rintro _ _ ⟨rfl, rfl⟩
    dsimp only
    go_wp2_with fail
    refine (H1.out _ HS.out).mono ?_
    rintro _ w1 ⟨a1, c1, rfl, hr1, hE1⟩
    dsimp only
    go_wp2_with fail
    refine (H2.out _ (HS.out.ext hE1)).mono ?_
    rintro _ w2 ⟨a2, c2, rfl, hr2, hE2⟩
    dsimp only
    have HR1 := Lib.hid (hr1.ext hE2)
    have HR2 := Lib.hid hr2
    have HE2 := Lib.hid (hE1.trans hE2)
    have hLl := hr1.len
    clear hr1 hr2 hE1 hE2
    go_wp2_with fail
    clear hll
    go_loopw [39] (fun i wr => ∃ k : Nat, k ≤ L.length ∧ i = .int .i64 (k : Int) ∧ Ext w2 wr) (fun i _ => L.length - (intOf i).toNat)
    case atStart => exact ⟨0, Nat.zero_le _, rfl, Ext.refl _⟩
    case round =>
      obtain ⟨k, hk, rfl, hE⟩ := hrel
      have HE := Lib.hid hE
      by_cases hlt : k < L.length
      · obtain ⟨b1, o1, b3, d1, rfl, hb1, hc1, hu1⟩ := (HR1.out.ext hE).get k hlt
        obtain ⟨b2, o2, b4, d2, rfl, hb2, hc2, hu2⟩ := (HR2.out.ext hE).get k hlt
        have hkI : (k : Int) < (L.length : Int) := by omega
        have hfl := hu1.len
        have hll : (((nth L k).length : Int) != ((nth L k).length : Int)) = false := by simp
        have HU1 := Lib.hid hu1
        have HU2 := Lib.hid hu2
        clear hE hu1 hu2
        go_wp2_with fail
        go_quiet (fail)
        go_wp2_with fail
        clear hll
        go_loopw [58] (fun i wy => ∃ j : Nat, j ≤ (nth L k).length ∧ i = .int .i64 (j : Int) ∧ Ext wr wy) (fun i _ => (nth L k).length - (intOf i).toNat)
        case atStart => exact ⟨0, Nat.zero_le _, rfl, (Ext.refl _).drewN _⟩
        case round =>
          rename World => wy
          obtain ⟨j, hj, rfl, hE⟩ := hrel
          by_cases hjl : j < (nth L k).length
          · obtain ⟨b5, o5, rfl, hb5, n0, n1, n2, n3, n4, n5⟩ := (HU1.out.ext hE).get hjl
            obtain ⟨b6, o6, rfl, hb6, y0, y1, y2, y3, y4, y5⟩ := (HU2.out.ext hE).get hjl
            have z1 := hE.cell hc1
            have z2 := hE.cell hc2
            have zb1 := World.block_lt_of_cell? _ _ z1
            have zb2 := World.block_lt_of_cell? _ _ z2
            dsimp only at zb1 zb2
            have hjI : (j : Int) < ((nth L k).length : Int) := by omega
            have hgd := guard_node
            have hnq := fun (a b c d e f : Int) (w : World) => neq_node a b c d e f w
            clear hc1 hc2 hb1 hb2
            generalize nth (nth L k) j = nd at *
            go_wp2_with fail
            go_quiet (fail)
            go_wp2
            go_roundw
            case rel => exact ⟨j + 1, hjl, by go_num, hE.drewN _⟩
            case measure => simp [intOf]; omega
          · obtain rfl : j = (nth L k).length := by omega
            go_wp2
            go_roundw
            case rel => exact ⟨k + 1, hlt, by go_num, HE.out.trans hE⟩
            case measure => simp [intOf]; omega
      · obtain rfl : k = L.length := by omega
        clear hlt hk
        go_wp2_with fail
        refine (awake22_any _).mono ?_
        rintro _ w3 ⟨rfl, hE3⟩
        dsimp only
        go_wp2_with fail
        go_ret
        exact ⟨rfl, HE2.out.trans (HE.out.trans hE3)⟩
end Wt
