/- The walk of ObserveTogether (printed by gen_to.py). -/
import Derived.Test.YtaghfmcaikjobaaMOfC
import Derived.Test.YtaghfmcaikjobaaMOfG
import Derived.Test.YtaghfmcaikjobaaMBld
import Derived.Test.YtaghfmcaikjobaaMRgn
namespace Wt
open Go Go.RowKit Go.Maps Go.Proofs Fm

set_option maxRecDepth 20000 in
set_option maxHeartbeats 8000000 in
theorem observeTogether_any (n : Int) (fa : Option Addr) (fc : Nat) (f : List Nd) (sa : Option Addr) (sc : Nat) (seen : List (List (List Nd))) (w : World) (hf : RN w fa f) (hs : RNNN w sa seen) :
    Calls Try.prog 7 #[.int .i64 n, .slice fa f.length fc, .slice sa seen.length sc] w fun e w' => e = .returned (.bool true) ∧ Ext w w' := by
  have HFW := Lib.hid (few22_any n fa fc f sa sc seen w hf.len hs)
  have hsl := hs.len
  by_cases hb : few22 n f seen = true ∧ 1 ≤ seen.length ∧ seen.length ≤ 3
  rotate_left
  · have hc : (!few22 n f seen || (decide ((seen.length : Int) < 1) || decide ((3 : Int) < seen.length))) = true := by
      cases h1 : few22 n f seen
      · rfl
      · have : ¬ (1 ≤ seen.length ∧ seen.length ≤ 3) := fun h => hb ⟨h1, h.1, h.2⟩
        by_cases h2 : (seen.length : Int) < 1
        · simp [h2]
        · have h3 : (3 : Int) < seen.length := by omega
          simp [h3]
    generalize few22 n f seen = b at *
    cases b
    · clear hc hb
      go_enter Try.func7, Try.ntmps7
      go_wp2_with fail
      refine HFW.out.mono ?_
      rintro _ _ ⟨rfl, rfl⟩
      dsimp only
      go_wp2_with fail
      refine (awake22_any _).mono ?_
      rintro _ wA ⟨rfl, hEA⟩
      dsimp only
      go_wp2_with fail
      go_ret
      exact ⟨rfl, hEA⟩
    · cases h1 : decide ((seen.length : Int) < 1) <;> cases h2 : decide ((3 : Int) < seen.length)
      all_goals rw [h1, h2] at hc
      case false.false => cases hc
      all_goals
        clear hc hb
        go_enter Try.func7, Try.ntmps7
        go_wp2_with fail
        refine HFW.out.mono ?_
        rintro _ _ ⟨rfl, rfl⟩
        dsimp only
        go_wp2_with fail
        refine (awake22_any _).mono ?_
        rintro _ wA ⟨rfl, hEA⟩
        dsimp only
        go_wp2_with fail
        go_ret
        exact ⟨rfl, hEA⟩
  obtain ⟨hb, hl1, hl3⟩ := hb
  obtain ⟨hn5, -, hfew⟩ := few22_few hb
  rw [hb] at HFW
  obtain ⟨G, g1, g15, g2, gw⟩ := grp22 hl1 (show seen.length ≤ 4 by omega)
  obtain ⟨pe, po⟩ := pool_err (show seen.length ≤ 4 by omega) g1 g2
  have HF := Lib.hid hf
  have HS := Lib.hid hs
  have H1 : Hid (∀ w, RNNN w sa seen → Calls Try.prog 19 #[.slice sa seen.length sc, .int .i64 (G : Int)] w fun e w' => RetPl (poolTo seen G seen.length) 0 e w w') := Lib.hid fun w h => by
    have h2 := pool_any seen sa sc (G : Int) w h hfew
    rw [pe, po] at h2
    exact h2
  have H2 : Hid (∀ w, RN w fa f → RNNN w sa seen → Calls Try.prog 12 #[.int .i64 n, .slice fa f.length fc, .slice sa seen.length sc] w fun e w' => RetBu (obM n f seen) (natI (obS n f seen)) (obErr n f seen) e w w') := Lib.hid fun w h h2 => obuild_any n fa fc f sa sc seen w h h2
  have H3 : Hid (∀ w pa pc, RN w fa f → RNNN w pa [poolTo seen G seen.length] → Calls Try.prog 12 #[.int .i64 n, .slice fa f.length fc, .slice pa 1 pc] w fun e w' => RetBu (obM n f [poolTo seen G seen.length]) (natI (obS n f [poolTo seen G seen.length])) (obErr n f [poolTo seen G seen.length]) e w w') := Lib.hid fun w pa pc h h2 => obuild_any n fa fc f pa pc [poolTo seen G seen.length] w h h2
  have h63 : seen.length < 63 := by omega
  have hd1 : decide ((seen.length : Int) < 1) = false := decide_eq_false (by omega)
  have hd2 : decide ((3 : Int) < seen.length) = false := decide_eq_false (by omega)
  have HOK : Hid (obErr n f seen = 0 → (poolTo seen G seen.length).length ≤ 16 → obErr n f [poolTo seen G seen.length] = 0 ∧ ¬ n < 0 ∧ ∀ i : Nat, (i : Int) < n → reqErr (obM n f seen) (fB ⟨12, 0, 0, (G : Int), 0, 0⟩ [f22 (i : Int)]) = 0 ∧ reqErr (obM n f [poolTo seen G seen.length]) (fB ⟨9, 0, 0, 0, 0, 0⟩ [f22 (i : Int)]) = 0 ∧
    holdsOf (obM n f seen) (fB ⟨12, 0, 0, (G : Int), 0, 0⟩ [f22 (i : Int)]) = holdsOf (obM n f [poolTo seen G seen.length]) (fB ⟨9, 0, 0, 0, 0, 0⟩ [f22 (i : Int)])) := Lib.hid fun h h16 => by
      obtain ⟨_, _, n0, n6, _⟩ := tabErr_ok (obErr_ok h).lw
      exact ⟨pool_ob h h16, by omega, fun i hi => tg_ok h g1 g15 g2 h16 (by omega)⟩
  generalize poolTo seen G seen.length = PL at *
  generalize obM n f seen = M at *
  generalize natI (obS n f seen) = L at *
  generalize obErr n f seen = c at *
  generalize obM n f [PL] = O at *
  generalize natI (obS n f [PL]) = L2 at *
  generalize obErr n f [PL] = c2 at *
  clear hf hs hb hfew pe po g1 g15 g2 hl1 hl3
  go_enter Try.func7, Try.ntmps7
  go_wp2_with fail
  refine HFW.out.mono ?_
  rintro _ _ ⟨rfl, rfl⟩
  dsimp only
  go_wp2_with fail
  try rw [gw]
  refine (H1.out _ HS.out).mono ?_
  rintro _ w1 ⟨pa, pc, rfl, hp1, hE1⟩
  dsimp only
  have HP1 := Lib.hid hp1
  have hpl := hp1.len
  clear gw hp1
  go_wp2_with fail
  refine (H2.out _ (HF.out.ext hE1) (HS.out.ext hE1)).mono ?_
  rintro _ w2 ⟨va2, ra2, la2, vc2, rc2, lc2, rfl, hm2, hi2, hE2⟩
  dsimp only
  have hA2 : Ext w2 (w2.alloc (.cells #[.int .i64 M.worlds, .slice va2 M.val.length vc2, .slice ra2 M.rel.length rc2] 29)) := (Ext.refl _).alloc _
  have HB2 := Lib.hid (OutAt.new w2 (.int .i64 M.worlds) (.slice va2 M.val.length vc2) (.slice ra2 M.rel.length rc2) 29)
  have HM2 := Lib.hid (hm2.ext4 hA2)
  have hX2 := hE1.trans (hE2.trans hA2)
  have HP2 := Lib.hid (HP1.out.ext (hE2.trans hA2))
  clear hm2 hi2
  go_wp2_with fail
  have hA3 : Ext (w2.alloc (.cells #[.int .i64 M.worlds, .slice va2 M.val.length vc2, .slice ra2 M.rel.length rc2] 29)) ((w2.alloc (.cells #[.int .i64 M.worlds, .slice va2 M.val.length vc2, .slice ra2 M.rel.length rc2] 29)).alloc (.cells #[.slice pa PL.length pc] 38)) := (Ext.refl _).alloc _
  have hP3 : RNNN ((w2.alloc (.cells #[.int .i64 M.worlds, .slice va2 M.val.length vc2, .slice ra2 M.rel.length rc2] 29)).alloc (.cells #[.slice pa PL.length pc] 38)) (some ⟨w2.heap.size + 1, 0, none⟩) [PL] := by
    have h := RNNN.one (w2.alloc (.cells #[.int .i64 M.worlds, .slice va2 M.val.length vc2, .slice ra2 M.rel.length rc2] 29)) pa pc PL 38 HP2.out
    rw [show (w2.alloc (.cells #[.int .i64 M.worlds, .slice va2 M.val.length vc2, .slice ra2 M.rel.length rc2] 29)).heap.size = w2.heap.size + 1 by simp] at h
    exact h
  refine (H3.out _ _ _ (HF.out.ext (hX2.trans hA3)) hP3).mono ?_
  rintro _ w4 ⟨va4, ra4, la4, vc4, rc4, lc4, rfl, hm4, hi4, hE4⟩
  dsimp only
  have hA4 : Ext w4 (w4.alloc (.cells #[.int .i64 O.worlds, .slice va4 O.val.length vc4, .slice ra4 O.rel.length rc4] 29)) := (Ext.refl _).alloc _
  have HB4 := Lib.hid (OutAt.new w4 (.int .i64 O.worlds) (.slice va4 O.val.length vc4) (.slice ra4 O.rel.length rc4) 29)
  have HM4 := Lib.hid (hm4.ext4 hA4)
  have hX34 := hA3.trans (hE4.trans hA4)
  have hX4 := hX2.trans hX34
  clear hm4 hi4
  by_cases hcc : c = 0 ∧ PL.length ≤ 16
  rotate_left
  · have hdd : ((c != 0) || decide ((16 : Int) < PL.length)) = true := by
      by_cases h0 : c = 0
      · have : (16 : Int) < PL.length := by omega
        simp [this]
      · simp [h0]
    clear hcc
    cases e1 : (c != 0) <;> cases e2 : decide ((16 : Int) < PL.length)
    all_goals rw [e1, e2] at hdd
    case false.false => cases hdd
    all_goals
      clear hdd
      go_wp2_with fail
      refine (awake22_any _).mono ?_
      rintro _ wA ⟨rfl, hEA⟩
      dsimp only
      go_wp2_with fail
      go_ret
      exact ⟨rfl, hX4.trans hEA⟩
  obtain ⟨hc0, h16⟩ := hcc
  obtain ⟨hc2, hn0, hI⟩ := HOK.out hc0 h16
  have HI := Lib.hid hI
  have hdp : decide ((16 : Int) < PL.length) = false := decide_eq_false (by omega)
  have hdn : decide (n < 0) = false := decide_eq_false (by omega)
  have e1 : (c != 0) = false := by simp [hc0]
  have e2 : (c2 != 0) = false := by simp [hc2]
  obtain ⟨nn, rfl⟩ := Int.eq_ofNat_of_zero_le (show 0 ≤ n by omega)
  clear hI hc0 hc2 hn0 h16 HOK
  go_wp2_with fail
  generalize w4.alloc (.cells #[.int .i64 O.worlds, .slice va4 O.val.length vc4, .slice ra4 O.rel.length rc4] 29) = w5 at *
  go_loopw [82] (fun i wr => ∃ k : Nat, k ≤ nn ∧ i = .int .i64 (k : Int) ∧ Ext w5 wr) (fun i _ => nn - (intOf i).toNat)
  case atStart => exact ⟨0, Nat.zero_le _, rfl, Ext.refl _⟩
  case round =>
    obtain ⟨k, hk, rfl, hEr⟩ := hrel
    have HER := Lib.hid hEr
    by_cases hkl : k < nn
    · obtain ⟨r1, r2, r3⟩ := HI.out k (by omega)
      obtain ⟨m0, m1, m2, -⟩ := HB2.out.ext (hX34.trans hEr)
      obtain ⟨n0, n1, n2, -⟩ := HB4.out.ext hEr
      have HS2 : Hid (∀ w', Ext wr w' → w'.cell? ⟨w2.heap.size, 0, none⟩ = some (.int .i64 M.worlds) ∧ w'.cell? ⟨w2.heap.size, 1, none⟩ = some (.slice va2 M.val.length vc2) ∧ w'.cell? ⟨w2.heap.size, 2, none⟩ = some (.slice ra2 M.rel.length rc2)) := Lib.hid fun w' e => ⟨e.cell m0, e.cell m1, e.cell m2⟩
      have HS4 : Hid (∀ w', Ext wr w' → w'.cell? ⟨w4.heap.size, 0, none⟩ = some (.int .i64 O.worlds) ∧ w'.cell? ⟨w4.heap.size, 1, none⟩ = some (.slice va4 O.val.length vc4) ∧ w'.cell? ⟨w4.heap.size, 2, none⟩ = some (.slice ra4 O.rel.length rc4)) := Lib.hid fun w' e => ⟨e.cell n0, e.cell n1, e.cell n2⟩
      have HD : Hid (∀ w a c, RN w a (f22 (k : Int)) → Calls Try.prog 27 #[.int .i64 (G : Int), .slice a (f22 (k : Int)).length c] w fun e w' => RetN (fB ⟨12, 0, 0, (G : Int), 0, 0⟩ [f22 (k : Int)]) e w w') := Lib.hid fun w a c h => cDist_any (G : Int) a c _ w h
      have HKn : Hid (∀ w a c, RN w a (f22 (k : Int)) → Calls Try.prog 29 #[.int .i64 0, .slice a (f22 (k : Int)).length c] w fun e w' => RetN (fB ⟨9, 0, 0, 0, 0, 0⟩ [f22 (k : Int)]) e w w') := Lib.hid fun w a c h => cKnow_any 0 a c _ w h
      have HH2 : Hid (∀ w', Ext wr w' → ∀ a c, RN w' a (fB ⟨12, 0, 0, (G : Int), 0, 0⟩ [f22 (k : Int)]) → Calls Try.prog 25 #[.agg #[.int .i64 M.worlds, .slice va2 M.val.length vc2, .slice ra2 M.rel.length rc2], .slice a (fB ⟨12, 0, 0, (G : Int), 0, 0⟩ [f22 (k : Int)]).length c] w' fun e w'' => RetP (.int .u64 (un (holdsOf O (fB ⟨9, 0, 0, 0, 0, 0⟩ [f22 (k : Int)])))) 0 e w' w'') := Lib.hid fun w' e a c h => by
        have hh := holds_any M va2 ra2 vc2 rc2 a c _ w' (HM2.out.ext4 ((hX34.trans HER.out).trans e)) h
        rw [r1, r3] at hh
        exact hh
      have HH4 : Hid (∀ w', Ext wr w' → ∀ a c, RN w' a (fB ⟨9, 0, 0, 0, 0, 0⟩ [f22 (k : Int)]) → Calls Try.prog 25 #[.agg #[.int .i64 O.worlds, .slice va4 O.val.length vc4, .slice ra4 O.rel.length rc4], .slice a (fB ⟨9, 0, 0, 0, 0, 0⟩ [f22 (k : Int)]).length c] w' fun e w'' => RetP (.int .u64 (un (holdsOf O (fB ⟨9, 0, 0, 0, 0, 0⟩ [f22 (k : Int)])))) 0 e w' w'') := Lib.hid fun w' e a c h => by
        have hh := holds_any O va4 ra4 vc4 rc4 a c _ w' (HM4.out.ext4 (HER.out.trans e)) h
        rw [r2] at hh
        exact hh
      generalize holdsOf O (fB ⟨9, 0, 0, 0, 0, 0⟩ [f22 (k : Int)]) = x at *
      generalize fB ⟨12, 0, 0, (G : Int), 0, 0⟩ [f22 (k : Int)] = FD at *
      generalize fB ⟨9, 0, 0, 0, 0, 0⟩ [f22 (k : Int)] = FK at *
      have HFa : Hid (∀ w, Calls Try.prog 28 #[.int .i64 (k : Int)] w fun e w' => RetN (f22 (k : Int)) e w w') := Lib.hid fun w => fact22_any (k : Int) w
      generalize f22 (k : Int) = FF at *
      have hxx : (x != x) = false := by simp
      clear hEr m0 m1 m2 n0 n1 n2 r1 r2 r3
      go_wp2_with fail
      have hD1 : Ext wr wr.drew := (Ext.refl _).drew
      refine wp_region_E 11 (fun w' => w'.cell? ⟨w2.heap.size, 0, none⟩ = some (.int .i64 M.worlds) ∧ w'.cell? ⟨w2.heap.size, 1, none⟩ = some (.slice va2 M.val.length vc2) ∧ w'.cell? ⟨w2.heap.size, 2, none⟩ = some (.slice ra2 M.rel.length rc2)) (by kernel_rfl) ?_
      generalize World.drew wr = wd at *
      refine wpAnyE_take (i := 0) (v := ?_) (.here) (by kernel_rfl) (fun _ _ _ h => h) (HS2.out _ hD1) (by rfl) ?_ ?_
      rotate_left
      focus (intro w hSw; (try dsimp only at hSw); go_simp; try with_reducible rfl)
      try simp only [Act.put, List.setIfInBounds_toArray, List.set_cons_zero, List.set_cons_succ]
      refine wpAnyE_take (i := 1) (v := ?_) (.next (.here)) (by kernel_rfl) (fun _ _ _ h => h) (HS2.out _ hD1) (by rfl) ?_ ?_
      rotate_left
      focus (intro w hSw; (try dsimp only at hSw); go_simp; try with_reducible rfl)
      try simp only [Act.put, List.setIfInBounds_toArray, List.set_cons_zero, List.set_cons_succ]
      refine wpAnyE_take (i := 2) (v := ?_) (.next (.next (.here))) (by kernel_rfl) (fun _ _ _ h => h) (HS2.out _ hD1) (by rfl) ?_ ?_
      rotate_left
      focus (intro w hSw; (try dsimp only at hSw); go_simp; try with_reducible rfl)
      try simp only [Act.put, List.setIfInBounds_toArray, List.set_cons_zero, List.set_cons_succ]
      refine wpAnyE_one (k := 3) (.next (.next (.next (.here)))) (by kernel_rfl) (fun K hK => ?_)
      go_simp
      refine (HFa.out _).mono ?_; rintro _ w6 ⟨a6, c6, rfl, hr6, hE6⟩; have hX6 := hD1.trans hE6; dsimp only
      refine hK.out _ _ (fun _ => HS2.out _ hX6) ?_
      clear hK
      try simp only [Act.put, List.setIfInBounds_toArray, List.set_cons_zero, List.set_cons_succ]
      refine wpAnyE_one (k := 4) (.next (.next (.next (.next (.here))))) (by kernel_rfl) (fun K hK => ?_)
      go_simp
      refine (HD.out _ _ _ hr6).mono ?_; rintro _ w7 ⟨a7, c7, rfl, hr7, hE7⟩; have hX7 := hX6.trans hE7; dsimp only
      refine hK.out _ _ (fun _ => HS2.out _ hX7) ?_
      clear hK
      try simp only [Act.put, List.setIfInBounds_toArray, List.set_cons_zero, List.set_cons_succ]
      refine wpAnyE_one (k := 5) (.next (.next (.next (.next (.next (.here)))))) (by kernel_rfl) (fun K hK => ?_)
      go_simp
      refine (HH2.out _ hX7 _ _ hr7).mono ?_; rintro _ w8 ⟨rfl, hE8⟩; have hX8 := hX7.trans hE8; dsimp only
      refine hK.out _ _ (fun _ => HS2.out _ hX8) ?_
      clear hK
      try simp only [Act.put, List.setIfInBounds_toArray, List.set_cons_zero, List.set_cons_succ]
      refine wpAnyE_take (i := 6) (v := ?_) (.next (.next (.next (.next (.next (.next (.here))))))) (by kernel_rfl) (fun _ _ _ h => h) (HS2.out _ hX8) (by rfl) ?_ ?_
      rotate_left
      focus (intro w hSw; (try dsimp only at hSw); go_simp; try with_reducible rfl)
      try simp only [Act.put, List.setIfInBounds_toArray, List.set_cons_zero, List.set_cons_succ]
      refine wpAnyE_take (i := 7) (v := ?_) (.next (.next (.next (.next (.next (.next (.next (.here)))))))) (by kernel_rfl) (fun _ _ _ h => h) (HS2.out _ hX8) (by rfl) ?_ ?_
      rotate_left
      focus (intro w hSw; (try dsimp only at hSw); go_simp; try with_reducible rfl)
      try simp only [Act.put, List.setIfInBounds_toArray, List.set_cons_zero, List.set_cons_succ]
      refine wpAnyE_take (i := 8) (v := ?_) (.next (.next (.next (.next (.next (.next (.next (.next (.here))))))))) (by kernel_rfl) (fun _ _ _ h => h) (HS2.out _ hX8) (by rfl) ?_ ?_
      rotate_left
      focus (intro w hSw; (try dsimp only at hSw); go_simp; try with_reducible rfl)
      try simp only [Act.put, List.setIfInBounds_toArray, List.set_cons_zero, List.set_cons_succ]
      refine wpAnyE_take (i := 9) (v := ?_) (.next (.next (.next (.next (.next (.next (.next (.next (.next (.here)))))))))) (by kernel_rfl) (fun _ _ _ h => h) (HS2.out _ hX8) (by rfl) ?_ ?_
      rotate_left
      focus (intro w hSw; (try dsimp only at hSw); go_simp; try with_reducible rfl)
      try simp only [Act.put, List.setIfInBounds_toArray, List.set_cons_zero, List.set_cons_succ]
      refine wpAnyE_take (i := 10) (v := ?_) (.next (.next (.next (.next (.next (.next (.next (.next (.next (.next (.here))))))))))) (by kernel_rfl) (fun _ _ _ h => h) (HS2.out _ hX8) (by rfl) ?_ ?_
      rotate_left
      focus (intro w hSw; (try dsimp only at hSw); go_simp; try with_reducible rfl)
      try simp only [Act.put, List.setIfInBounds_toArray, List.set_cons_zero, List.set_cons_succ]
      refine wpAnyE_seq [] (.nil) (by kernel_rfl) (by kernel_rfl) ?_
      go_wp2_with fail
      have hD2 : Ext wr w8.drew := hX8.drew
      refine wp_region_E 10 (fun w' => w'.cell? ⟨w4.heap.size, 0, none⟩ = some (.int .i64 O.worlds) ∧ w'.cell? ⟨w4.heap.size, 1, none⟩ = some (.slice va4 O.val.length vc4) ∧ w'.cell? ⟨w4.heap.size, 2, none⟩ = some (.slice ra4 O.rel.length rc4)) (by kernel_rfl) ?_
      generalize World.drew w8 = wd at *
      refine wpAnyE_take (i := 0) (v := ?_) (.here) (by kernel_rfl) (fun _ _ _ h => h) (HS4.out _ hD2) (by rfl) ?_ ?_
      rotate_left
      focus (intro w hSw; (try dsimp only at hSw); go_simp; try with_reducible rfl)
      try simp only [Act.put, List.setIfInBounds_toArray, List.set_cons_zero, List.set_cons_succ]
      refine wpAnyE_take (i := 1) (v := ?_) (.next (.here)) (by kernel_rfl) (fun _ _ _ h => h) (HS4.out _ hD2) (by rfl) ?_ ?_
      rotate_left
      focus (intro w hSw; (try dsimp only at hSw); go_simp; try with_reducible rfl)
      try simp only [Act.put, List.setIfInBounds_toArray, List.set_cons_zero, List.set_cons_succ]
      refine wpAnyE_one (k := 2) (.next (.next (.here))) (by kernel_rfl) (fun K hK => ?_)
      go_simp
      refine (HFa.out _).mono ?_; rintro _ w9 ⟨a9, c9, rfl, hr9, hE9⟩; have hX9 := hD2.trans hE9; dsimp only
      refine hK.out _ _ (fun _ => HS4.out _ hX9) ?_
      clear hK
      try simp only [Act.put, List.setIfInBounds_toArray, List.set_cons_zero, List.set_cons_succ]
      refine wpAnyE_one (k := 3) (.next (.next (.next (.here)))) (by kernel_rfl) (fun K hK => ?_)
      go_simp
      refine (HKn.out _ _ _ hr9).mono ?_; rintro _ w10 ⟨a10, c10, rfl, hr10, hE10⟩; have hX10 := hX9.trans hE10; dsimp only
      refine hK.out _ _ (fun _ => HS4.out _ hX10) ?_
      clear hK
      try simp only [Act.put, List.setIfInBounds_toArray, List.set_cons_zero, List.set_cons_succ]
      refine wpAnyE_one (k := 4) (.next (.next (.next (.next (.here))))) (by kernel_rfl) (fun K hK => ?_)
      go_simp
      refine (HH4.out _ hX10 _ _ hr10).mono ?_; rintro _ w11 ⟨rfl, hE11⟩; have hX11 := hX10.trans hE11; dsimp only
      refine hK.out _ _ (fun _ => HS4.out _ hX11) ?_
      clear hK
      try simp only [Act.put, List.setIfInBounds_toArray, List.set_cons_zero, List.set_cons_succ]
      refine wpAnyE_take (i := 5) (v := ?_) (.next (.next (.next (.next (.next (.here)))))) (by kernel_rfl) (fun _ _ _ h => h) (HS4.out _ hX11) (by rfl) ?_ ?_
      rotate_left
      focus (intro w hSw; (try dsimp only at hSw); go_simp; try with_reducible rfl)
      try simp only [Act.put, List.setIfInBounds_toArray, List.set_cons_zero, List.set_cons_succ]
      refine wpAnyE_take (i := 6) (v := ?_) (.next (.next (.next (.next (.next (.next (.here))))))) (by kernel_rfl) (fun _ _ _ h => h) (HS4.out _ hX11) (by rfl) ?_ ?_
      rotate_left
      focus (intro w hSw; (try dsimp only at hSw); go_simp; try with_reducible rfl)
      try simp only [Act.put, List.setIfInBounds_toArray, List.set_cons_zero, List.set_cons_succ]
      refine wpAnyE_take (i := 7) (v := ?_) (.next (.next (.next (.next (.next (.next (.next (.here)))))))) (by kernel_rfl) (fun _ _ _ h => h) (HS4.out _ hX11) (by rfl) ?_ ?_
      rotate_left
      focus (intro w hSw; (try dsimp only at hSw); go_simp; try with_reducible rfl)
      try simp only [Act.put, List.setIfInBounds_toArray, List.set_cons_zero, List.set_cons_succ]
      refine wpAnyE_take (i := 8) (v := ?_) (.next (.next (.next (.next (.next (.next (.next (.next (.here))))))))) (by kernel_rfl) (fun _ _ _ h => h) (HS4.out _ hX11) (by rfl) ?_ ?_
      rotate_left
      focus (intro w hSw; (try dsimp only at hSw); go_simp; try with_reducible rfl)
      try simp only [Act.put, List.setIfInBounds_toArray, List.set_cons_zero, List.set_cons_succ]
      refine wpAnyE_take (i := 9) (v := ?_) (.next (.next (.next (.next (.next (.next (.next (.next (.next (.here)))))))))) (by kernel_rfl) (fun _ _ _ h => h) (HS4.out _ hX11) (by rfl) ?_ ?_
      rotate_left
      focus (intro w hSw; (try dsimp only at hSw); go_simp; try with_reducible rfl)
      try simp only [Act.put, List.setIfInBounds_toArray, List.set_cons_zero, List.set_cons_succ]
      refine wpAnyE_seq [] (.nil) (by kernel_rfl) (by kernel_rfl) ?_
      go_wp2
      go_roundw
      case rel => exact ⟨k + 1, hkl, by go_num, HER.out.trans hX11⟩
      case measure => simp [intOf]; omega
    · obtain rfl : k = nn := by omega
      clear hkl hk
      go_wp2_with fail
      refine (awake22_any _).mono ?_
      rintro _ wA ⟨rfl, hEA⟩
      dsimp only
      go_wp2_with fail
      go_ret
      exact ⟨rfl, hX4.trans (HER.out.trans hEA)⟩
end Wt
