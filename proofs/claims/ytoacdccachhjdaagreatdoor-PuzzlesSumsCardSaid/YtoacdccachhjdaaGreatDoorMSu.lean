/- The walk of PuzzlesSums. -/
import Derived.Test.YtoacdccachhjdaaGreatDoorMSa
import Derived.Test.YtoacdccachhjdaaGreatDoorMACh
import Derived.Test.YtoacdccachhjdaaGreatDoorMACi
import Derived.Deep.RegionHeld3
import Derived.StillTailTactics
import Derived.Test.YtoacdccachhjdaaGreatDoorRows
import Derived.Test.YtoacdccachhjdaaGreatDoorCards
import Derived.Test.YtoacdccachhjdaaGreatDoorTie
import Derived.Test.YtoacdccachhjdaaGreatDoorMAAx
import Derived.ProofKit
import Derived.LaidMore
import Derived.SizedLaws
import Derived.SevenTiedAt
namespace Wt
open Go Go.RowKit Go.Maps Go.Proofs Fm

def bv (b : Bool) : Value := .bool b
theorem made_bool (w : World) (n : Nat) (hn : n ≤ 140737488355328) : OG (w.alloc (.cells (madeCells #[.bool false] n) 4)) w.heap.size 4 bv w.heap.size n n (List.replicate n false) := OG.made (enc := bv) w n false (Nat.le_refl _) hn
theorem OG.rb {w : World} {base g n c : Nat} {l : List Bool} (h : OG w base 4 bv g n c l) (hn : n ≤ 1000) : RB w (some ⟨g, 0, none⟩) l :=
  ⟨by rw [h.len]; omega, fun k hk => ⟨g, 0, rfl, by rw [Nat.zero_add]; exact h.cell (by rw [← h.len]; exact hk)⟩⟩
/-- A row that is filled from the left. -/
def pre (f : Nat → Bool) (n i : Nat) : List Bool := (List.range n).map fun j => if j < i then f j else false
theorem pre_len (f : Nat → Bool) (n i : Nat) : (pre f n i).length = n := by simp [pre]
theorem pre_set (f : Nat → Bool) (n : Nat) {i : Nat} (_h : i < n) : (pre f n i).set i (f i) = pre f n (i + 1) := by
  refine List.ext_getElem (by simp [pre]) fun v h1 h2 => ?_
  rw [List.getElem_set]
  simp only [pre, List.getElem_map, List.getElem_range]
  by_cases e : i = v
  · subst e; simp
  · rw [if_neg e]
    by_cases h3 : v < i
    · rw [if_pos h3, if_pos (by omega)]
    · rw [if_neg h3, if_neg (by omega)]
theorem pre_zero (f : Nat → Bool) (n : Nat) : pre f n 0 = List.replicate n false := by
  refine List.ext_getElem (by simp [pre]) fun v h1 h2 => by simp [pre]
theorem pre_all (f : Nat → Bool) (n : Nat) : pre f n n = (List.range n).map f := by
  unfold pre
  exact List.map_congr_left fun v hv => by rw [if_pos (List.mem_range.1 hv)]
theorem pre_at (f : Nat → Bool) {n i j : Nat} (hj : j < n) (hi : i ≤ j) : nth (pre f n i) j = false := by
  unfold pre
  rw [nth_mapN _ _ (by simpa using hj), nth_range hj, if_neg (by omega)]
/-- Three rows of truth values that the call has made. -/
structure Su3 (W0 : World) (g1 g2 g3 n : Nat) (F S E : List Bool) (W : World) : Prop where
  e : Ext W0 W
  o1 : OG W W0.heap.size 4 bv g1 n n F
  o2 : OG W W0.heap.size 4 bv g2 n n S
  o3 : OG W W0.heap.size 4 bv g3 n n E
  d12 : g1 ≠ g2
  d13 : g1 ≠ g3
  d23 : g2 ≠ g3
section
variable {W0 W W' : World} {g1 g2 g3 n : Nat} {F S E : List Bool}
theorem Su3.ext (h : Su3 W0 g1 g2 g3 n F S E W) (e : Ext W W') : Su3 W0 g1 g2 g3 n F S E W' := ⟨h.e.trans e, h.o1.ext e, h.o2.ext e, h.o3.ext e, h.d12, h.d13, h.d23⟩
theorem Su3.put1 (h : Su3 W0 g1 g2 g3 n F S E W) (k : Nat) (b : Bool) : Su3 W0 g1 g2 g3 n (F.set k b) S E (W.setCell ⟨g1, k, none⟩ (.bool b)) :=
  ⟨h.e.setCell h.o1.base_le _, h.o1.set k b, h.o2.other k _ h.d12.symm, h.o3.other k _ h.d13.symm, h.d12, h.d13, h.d23⟩
theorem Su3.put2 (h : Su3 W0 g1 g2 g3 n F S E W) (k : Nat) (b : Bool) : Su3 W0 g1 g2 g3 n F (S.set k b) E (W.setCell ⟨g2, k, none⟩ (.bool b)) :=
  ⟨h.e.setCell h.o2.base_le _, h.o1.other k _ h.d12, h.o2.set k b, h.o3.other k _ h.d23.symm, h.d12, h.d13, h.d23⟩
theorem Su3.put3 (h : Su3 W0 g1 g2 g3 n F S E W) (k : Nat) (b : Bool) : Su3 W0 g1 g2 g3 n F S (E.set k b) (W.setCell ⟨g3, k, none⟩ (.bool b)) :=
  ⟨h.e.setCell h.o3.base_le _, h.o1.other k _ h.d13, h.o2.other k _ h.d23, h.o3.set k b, h.d12, h.d13, h.d23⟩
end
set_option maxRecDepth 20000 in
set_option maxHeartbeats 16000000 in
theorem puzzlesSums_any (s v pr : Nat) (hs : s ≤ 255) (hv : v ≤ 255) (hpr : pr ≤ 255) (w : World) (hT : Tab w) :
    Calls Tryz.prog 7 #[.int .u8 (s : Int), .int .u8 (v : Int), .int .u8 (pr : Int)] w fun e w' => e = .returned (.bool true) ∧ Ext w w' := by
  have hm1 : (s : Int).tmod 3 = ((s % 3 : Nat) : Int) := (Int.ofNat_tmod s 3).symm
  have hm2 : (v : Int).tmod 12 = ((v % 12 : Nat) : Int) := (Int.ofNat_tmod v 12).symm
  obtain ⟨lo, hlo⟩ : ∃ lo, lo = s % 3 + 1 := ⟨_, rfl⟩
  obtain ⟨hi, hhi⟩ : ∃ hi, hi = v % 12 + 5 := ⟨_, rfl⟩
  have hl3 : 1 ≤ lo ∧ lo ≤ 3 := by omega
  have hh16 : 5 ≤ hi ∧ hi ≤ 16 := by omega
  have ha1 : (1 : Int) + ((s % 3 : Nat) : Int) = (lo : Int) := by omega
  have ha2 : (5 : Int) + ((v % 12 : Nat) : Int) = (hi : Int) := by omega
  generalize s % 3 = r1 at *
  generalize v % 12 = r2 at *
  have hr1 : r1 < 3 := by omega
  have hr2 : r2 < 12 := by omega
  clear hlo hhi
  have HT := Lib.hid hT
  clear hT
  rcases sum_errs hl3 hh16 with hok | ⟨h6, hgt⟩
  rotate_left
  · have hem : sumL lo hi = [] := by
      unfold sumE at h6
      by_cases c1 : 15 < lo ∨ 30 < hi
      · omega
      · rw [if_neg c1] at h6
        by_cases c2 : sumL lo hi = []
        · exact c2
        · rw [if_neg c2] at h6
          split at h6 <;> cases h6
    have XU := Lib.hid (fun W => sums_none lo hi (by omega) (by omega) hem W)
    have hd : decide ((hi : Int) < 2 * (lo : Int) + 1) = true := decide_eq_true (by omega)
    clear h6 hem hgt
    go_enter Tryz.func7, Tryz.ntmps7
    go_wp2_with fail
    refine (XU.out _).mono ?_
    rintro _ w1 ⟨va, ra, la, vc, rc, lc, rfl, -, -, hE1⟩
    have HE1 := Lib.hid (hE1.alloc (.cells #[.int .i64 0, .slice va 0 vc, .slice ra 0 rc] 28))
    dsimp only [List.length_nil]
    go_wp2_with fail
    refine (awake32_any _ (HT.out.ext HE1.out)).mono ?_
    rintro _ w2 ⟨rfl, hE2⟩
    dsimp only
    go_wp2_with fail
    go_ret
    exact ⟨rfl, HE1.out.trans hE2⟩
  obtain ⟨-, -, hne, h64, hany, hpp⟩ := sumE_ok hok
  have XU : Hid (∀ W, Calls Tryz.prog 18 #[.int .i64 (lo : Int), .int .i64 (hi : Int)] W fun e w' => RetNm (sumM lo hi) (sumL lo hi) 0 e W w') := Lib.hid fun W => sums_any lo hi hok W
  have XX : Hid (∀ W, Calls Tryz.prog 33 #[.int .i64 0, .int .i64 0, .int .i64 8] W fun e w' => RetNzZ suX e W w') := Lib.hid fun W => learned_any 0 0 8 (by decide) (by decide) (by decide) W
  have XY : Hid (∀ W, Calls Tryz.prog 33 #[.int .i64 1, .int .i64 0, .int .i64 8] W fun e w' => RetNzZ suY e W w') := Lib.hid fun W => learned_any 1 0 8 (by decide) (by decide) (by decide) W
  have hlen0 : (sumL lo hi).length ≠ 0 := fun e => hne (List.eq_nil_of_length_eq_zero e)
  have HWL : Hid ((sumM lo hi).worlds = ((sumL lo hi).length : Int)) := Lib.hid (by show (((sumL lo hi).map (twoW 4)).length : Int) = _; simp)
  have HLAW : Hid (∀ x, x < (sumL lo hi).length → SumT (sumM lo hi) (sumL lo hi) suSay x) := Lib.hid fun x hx => sum_law hl3 hh16 hok hx
  have H16 : Hid (∀ i, i < (sumL lo hi).length → (nth (sumL lo hi) i).1 < 16 ∧ (nth (sumL lo hi) i).2 < 16) := Lib.hid fun i hi => hpp _ (nth_mem hi)
  have XP : Hid (∀ W x va ra vc rc oa oc, x < (sumL lo hi).length → RM W va ra (sumM lo hi) → RNN W oa suSay → Tab W → Calls Tryz.prog 24 #[.agg #[.int .i64 (sumM lo hi).worlds, .slice va (sumM lo hi).val.length vc, .slice ra (sumM lo hi).rel.length rc], .int .i64 (x : Int), .slice oa 3 oc] W fun e w' => RetTu (playOf (sumM lo hi) (x : Int) suSay) 0 e W w') := Lib.hid fun W x va ra vc rc oa oc hx hm hl hT => by
    have h := play_any (sumM lo hi) (x : Int) va ra vc rc oa oc suSay W hm hl hT
    rw [(HLAW.out x hx).1] at h
    exact h
  generalize hM : sumM lo hi = M at *
  generalize hL : sumL lo hi = L at *
  clear hM hL hok hne hany hpp
  have hlm : 1 ≤ L.length ∧ L.length ≤ 64 := by omega
  obtain ⟨n, hn⟩ : ∃ n, n = L.length := ⟨_, rfl⟩
  obtain ⟨x, hx⟩ : ∃ x, x = pr % n := ⟨_, rfl⟩
  have hm3 : (pr : Int).tmod (n : Int) = (x : Int) := by rw [hx]; exact (Int.ofNat_tmod pr n).symm
  have hxn : x < n := by rw [hx]; exact Nat.mod_lt _ (by omega)
  have HN := Lib.hid hn
  rw [← hn] at hlm hlen0 HWL HLAW H16 XP
  have hn0 : ((n : Int) == 0) = false := by simp; omega
  have hn0' : (n : Int) ≠ 0 := by omega
  clear hx hn h64 hlen0
  go_enter Tryz.func7, Tryz.ntmps7
  go_wp2_with fail
  refine (XU.out _).mono ?_
  rintro _ w1 ⟨va, ra, la, vc, rc, lc, rfl, hm, hp, hE1⟩
  rw [← HN.out]
  have hA1 : Ext w1 (w1.alloc (.cells #[.int .i64 M.worlds, .slice va M.val.length vc, .slice ra M.rel.length rc] 28)) := (Ext.refl w1).alloc _
  have HO1 := Lib.hid (OutAt.new w1 (.int .i64 M.worlds) (.slice va M.val.length vc) (.slice ra M.rel.length rc) 28)
  have HM1 := Lib.hid (RM.ext hA1 hm)
  have HP1 := Lib.hid (RPe.ext hA1 hp)
  have HE1 := Lib.hid (hE1.trans hA1)
  clear hm hp hE1 hA1
  dsimp only
  go_upto_region 5 with fail
  generalize w1.alloc (.cells #[.int .i64 M.worlds, .slice va M.val.length vc, .slice ra M.rel.length rc] 28) = w2 at *
  obtain ⟨o0, o1, o2, -⟩ := HO1.out
  have ol := World.block_lt_of_cell? _ _ o0
  rw [HWL.out] at o0
  dsimp only at ol
  go_wp2_with fail
  clear o0 o1 o2 ol
  refine (XX.out _).mono ?_
  rintro _ w3 ⟨xa, xc, rfl, hxr, hE3⟩
  dsimp only
  go_wp2_with fail
  refine (XY.out _).mono ?_
  rintro _ w4 ⟨ya, yc, rfl, hyr, hE4⟩
  dsimp only
  have HXR := Lib.hid (hxr.ext hE4)
  have HYR := Lib.hid hyr
  have HE4 := Lib.hid (hE3.trans hE4)
  clear hxr hyr hE3 hE4
  go_wp2_with fail
  refine (cNot_freshZ ya yc suY _ HYR.out).mono ?_
  rintro _ w5 ⟨na, nc, rfl, hnr, -, hE5⟩
  have HNR := Lib.hid hnr
  have HXR5 := Lib.hid (HXR.out.ext hE5)
  have HYR5 := Lib.hid (HYR.out.ext hE5)
  have HE5 := Lib.hid (HE4.out.trans hE5)
  clear hnr hE5 HXR HYR
  dsimp only
  go_upto_region 13 with fail
  have HSS : Hid (∀ W, Ext w5 W → W.cell? ⟨w1.heap.size, 0, none⟩ = some (.int .i64 M.worlds) ∧ W.cell? ⟨w1.heap.size, 1, none⟩ = some (.slice va M.val.length vc) ∧ W.cell? ⟨w1.heap.size, 2, none⟩ = some (.slice ra M.rel.length rc)) := Lib.hid fun W h => by
    obtain ⟨x0, x1, x2, -⟩ := HO1.out.ext (HE5.out.trans h)
    exact ⟨x0, x1, x2⟩
  refine wp_region_E 15 (fun W => W.cell? ⟨w1.heap.size, 0, none⟩ = some (.int .i64 M.worlds) ∧ W.cell? ⟨w1.heap.size, 1, none⟩ = some (.slice va M.val.length vc) ∧ W.cell? ⟨w1.heap.size, 2, none⟩ = some (.slice ra M.rel.length rc)) (by kernel_rfl) ?_
  refine wpAnyE_take (i := 0) (v := ?_) (.here) (by kernel_rfl) (fun _ _ _ h => h) (HSS.out _ (Ext.refl _).drew) (by rfl) ?_ ?_
  rotate_left
  focus (intro w hSw; (try dsimp only at hSw); go_simp; try with_reducible rfl)
  try simp only [Act.put, List.setIfInBounds_toArray, List.set_cons_zero, List.set_cons_succ]
  refine wpAnyE_take (i := 1) (v := ?_) (.next (.here)) (by kernel_rfl) (fun _ _ _ h => h) (HSS.out _ (Ext.refl _).drew) (by rfl) ?_ ?_
  rotate_left
  focus (intro w hSw; (try dsimp only at hSw); go_simp; try with_reducible rfl)
  try simp only [Act.put, List.setIfInBounds_toArray, List.set_cons_zero, List.set_cons_succ]
  refine wpAnyE_take (i := 2) (v := ?_) (.next (.next (.here))) (by kernel_rfl) (fun _ _ _ h => h) (HSS.out _ (Ext.refl _).drew) (by rfl) ?_ ?_
  rotate_left
  focus (intro w hSw; (try dsimp only at hSw); go_simp; try with_reducible rfl)
  try simp only [Act.put, List.setIfInBounds_toArray, List.set_cons_zero, List.set_cons_succ]
  refine wpAnyE_take (i := 3) (v := ?_) (.next (.next (.next (.here)))) (by kernel_rfl) (fun _ _ _ h => h) (HSS.out _ (Ext.refl _).drew) (by rfl) ?_ ?_
  rotate_left
  focus (intro w hSw; (try dsimp only at hSw); go_simp; try with_reducible rfl)
  try simp only [Act.put, List.setIfInBounds_toArray, List.set_cons_zero, List.set_cons_succ]
  refine wpAnyE_take (i := 6) (v := ?_) (.next (.next (.next (.next (.next (.next (.here))))))) (by kernel_rfl) (fun _ _ _ h => h) (HSS.out _ (Ext.refl _).drew) (by rfl) ?_ ?_
  rotate_left
  focus (intro w hSw; (try dsimp only at hSw); go_simp; try with_reducible rfl)
  try simp only [Act.put, List.setIfInBounds_toArray, List.set_cons_zero, List.set_cons_succ]
  refine wpAnyE_take (i := 7) (v := ?_) (.next (.next (.next (.next (.next (.next (.next (.here)))))))) (by kernel_rfl) (fun _ _ _ h => h) (HSS.out _ (Ext.refl _).drew) (by rfl) ?_ ?_
  rotate_left
  focus (intro w hSw; (try dsimp only at hSw); go_simp; try with_reducible rfl)
  try simp only [Act.put, List.setIfInBounds_toArray, List.set_cons_zero, List.set_cons_succ]
  refine wpAnyE_one (k := 4) (.next (.next (.next (.next (.here))))) (by kernel_rfl) (fun K hK => ?_)
  go_simp
  refine (cKnow_any 0 _ _ _ _ (HNR.out.ext (Ext.refl _).drew)).mono ?_; rintro _ w6 ⟨ka, kc, rfl, hkr, hE6⟩; dsimp only
  refine hK.out _ _ (fun _ => HSS.out _ ((Ext.refl _).drew.trans hE6)) ?_
  clear hK
  try simp only [Act.put, List.setIfInBounds_toArray, List.set_cons_zero, List.set_cons_succ]
  have HE6 : Hid (Ext w5 w6) := Lib.hid ((Ext.refl _).drew.trans hE6)
  refine wpAnyE_one (k := 5) (.next (.next (.next (.next (.next (.here)))))) (by kernel_rfl) (fun K hK => ?_)
  go_simp
  refine (cAnd_freshZ _ _ _ _ _ _ _ (HNR.out.ext HE6.out) hkr).mono ?_; rintro _ w7 ⟨fa, fc, rfl, hfr, -, hE7⟩; dsimp only
  refine hK.out _ _ (fun _ => HSS.out _ (HE6.out.trans hE7)) ?_
  clear hK
  try simp only [Act.put, List.setIfInBounds_toArray, List.set_cons_zero, List.set_cons_succ]
  have HE7 := Lib.hid (HE6.out.trans hE7)
  refine wpAnyE_one (k := 8) (.next (.next (.next (.next (.next (.next (.next (.next (.here))))))))) (by kernel_rfl) (fun K hK => ?_)
  go_simp
  refine hK.out _ _ (fun _ => HSS.out _ (HE7.out.alloc _)) ?_
  clear hK
  try simp only [Act.put, List.setIfInBounds_toArray, List.set_cons_zero, List.set_cons_succ]
  have hrnn : RNN _ _ suSay := RNN.threeZ w7 fa ya xa fc yc xc _ suY suX 44 hfr (HYR5.out.ext HE7.out) (HXR5.out.ext HE7.out)
  refine wpAnyE_one (k := 9) (.next (.next (.next (.next (.next (.next (.next (.next (.next (.here)))))))))) (by kernel_rfl) (fun K hK => ?_)
  go_simp
  refine (XP.out _ x _ _ _ _ _ _ hxn (HM1.out.ext (HE5.out.trans (HE7.out.alloc _))) hrnn (HT.out.ext (HE1.out.trans (HE5.out.trans (HE7.out.alloc _))))).mono ?_; rintro _ w9 ⟨ta, tc, rfl, htu, hE9⟩; dsimp only
  refine hK.out _ _ (fun _ => HSS.out _ ((HE7.out.alloc _).trans hE9)) ?_
  clear hK
  try simp only [Act.put, List.setIfInBounds_toArray, List.set_cons_zero, List.set_cons_succ]
  have HE9 := Lib.hid ((HE7.out.alloc _).trans hE9)
  have HTU := Lib.hid htu
  refine wpAnyE_take (i := 10) (v := ?_) (.next (.next (.next (.next (.next (.next (.next (.next (.next (.next (.here))))))))))) (by kernel_rfl) (fun _ _ _ h => h) (HSS.out _ HE9.out) (by rfl) ?_ ?_
  rotate_left
  focus (intro w hSw; (try dsimp only at hSw); go_simp; try with_reducible rfl)
  try simp only [Act.put, List.setIfInBounds_toArray, List.set_cons_zero, List.set_cons_succ]
  refine wpAnyE_take (i := 11) (v := ?_) (.next (.next (.next (.next (.next (.next (.next (.next (.next (.next (.next (.here)))))))))))) (by kernel_rfl) (fun _ _ _ h => h) (HSS.out _ HE9.out) (by rfl) ?_ ?_
  rotate_left
  focus (intro w hSw; (try dsimp only at hSw); go_simp; try with_reducible rfl)
  try simp only [Act.put, List.setIfInBounds_toArray, List.set_cons_zero, List.set_cons_succ]
  refine wpAnyE_take (i := 12) (v := ?_) (.next (.next (.next (.next (.next (.next (.next (.next (.next (.next (.next (.next (.here))))))))))))) (by kernel_rfl) (fun _ _ _ h => h) (HSS.out _ HE9.out) (by rfl) ?_ ?_
  rotate_left
  focus (intro w hSw; (try dsimp only at hSw); go_simp; try with_reducible rfl)
  try simp only [Act.put, List.setIfInBounds_toArray, List.set_cons_zero, List.set_cons_succ]
  refine wpAnyE_one (k := 13) (.next (.next (.next (.next (.next (.next (.next (.next (.next (.next (.next (.next (.next (.here)))))))))))))) (by kernel_rfl) (fun K hK => ?_)
  go_simp
  refine hK.out _ _ (fun _ => HSS.out _ HE9.out) ?_
  clear hK
  try simp only [Act.put, List.setIfInBounds_toArray, List.set_cons_zero, List.set_cons_succ]
  refine wpAnyE_one (k := 14) (.next (.next (.next (.next (.next (.next (.next (.next (.next (.next (.next (.next (.next (.next (.here))))))))))))))) (by kernel_rfl) (fun K hK => ?_)
  go_simp
  refine hK.out _ _ (fun _ => HSS.out _ HE9.out) ?_
  clear hK
  try simp only [Act.put, List.setIfInBounds_toArray, List.set_cons_zero, List.set_cons_succ]
  refine wpAnyE_seq [] (.nil) (by kernel_rfl) (by kernel_rfl) ?_
  obtain ⟨-, hTl, hT0, hT1, hT2⟩ := HLAW.out x hxn
  have HTL := Lib.hid hTl
  have HT0 := Lib.hid hT0
  have HT1 := Lib.hid hT1
  have HT2 := Lib.hid hT2
  rw [hTl]
  clear hTl hT0 hT1 hT2 HLAW hrnn hkr hfr hE6 hE7 hE9 htu
  generalize playOf M (x : Int) suSay = T at *
  have HL9 := Lib.hid (HE1.out.trans (HE5.out.trans HE9.out))
  have HP9 := Lib.hid (RPe.ext (HE5.out.trans HE9.out) HP1.out)
  have mkb := fun (w : World) => run_make_row' (P := Tryz.prog) 68 4 (.bool false) 1 Tryz.underlying68 (by kernel_rfl) rfl .i64 .i64 n (by omega) (by omega) w
  go_upto_region 16 with fail
  go_cut [20, 21] from 102 to 107 (fun s20 s21 wc => ∃ g1 g2, s20 = .slice (some ⟨g1, 0, none⟩) n n ∧ s21 = .slice (some ⟨g2, 0, none⟩) n n ∧ Hid (g1 ≠ g2 ∧ OG wc w9.heap.size 4 bv g1 n n (List.replicate n false) ∧ OG wc w9.heap.size 4 bv g2 n n (List.replicate n false) ∧ Ext w9 wc))
  case first =>
    go_region
    all_goals
      go_wp2_with fail
      go_meet
      case rel =>
        have hz : (w9.alloc (Obj.cells (madeCells #[Value.bool false] n) 4)).heap.size = w9.heap.size + 1 := by simp
        have h1 : OG ((w9.alloc (Obj.cells (madeCells #[Value.bool false] n) 4)).alloc (Obj.cells (madeCells #[Value.bool false] n) 4)).drew w9.heap.size 4 bv w9.heap.size n n (List.replicate n false) := (made_bool w9 n (by omega)).ext (((Ext.refl _).alloc _).drew)
        have h2 : OG ((w9.alloc (Obj.cells (madeCells #[Value.bool false] n) 4)).alloc (Obj.cells (madeCells #[Value.bool false] n) 4)).drew w9.heap.size 4 bv (w9.heap.size + 1) n n (List.replicate n false) := by
          have h := OG.made (enc := bv) (T := 4) (base := w9.heap.size) (w9.alloc (Obj.cells (madeCells #[Value.bool false] n) 4)) n false (by omega) (by omega)
          rw [hz] at h
          exact h.ext (Ext.refl _).drew
        have h3 : Ext w9 ((w9.alloc (Obj.cells (madeCells #[Value.bool false] n) 4)).alloc (Obj.cells (madeCells #[Value.bool false] n) 4)).drew := (((Ext.refl _).alloc _).alloc _).drew
        first
          | exact ⟨_, _, rfl, rfl, Lib.hid ⟨by omega, h1, h2, h3⟩⟩
          | exact ⟨_, _, rfl, rfl, Lib.hid ⟨by omega, h2, h1, h3⟩⟩
  case rest =>
    obtain ⟨g1, g2, rfl, rfl, HG⟩ := hcut
    rename World => wc
    go_wp2_with fail
    have hg1 := HG.out.2.1.lt
    have hg2 := HG.out.2.2.1.lt
    have HS0 : Hid (Su3 w9 g1 g2 wc.heap.size n (List.replicate n false) (List.replicate n false) (pre (fun _ => true) n 0) (wc.alloc (Obj.cells (madeCells #[Value.bool false] n) 4))) := Lib.hid (by
      have h := OG.made (enc := bv) (T := 4) (base := w9.heap.size) wc n false HG.out.2.2.2.size (by omega)
      rw [pre_zero]
      exact ⟨HG.out.2.2.2.alloc _, HG.out.2.1.ext ((Ext.refl _).alloc _), HG.out.2.2.1.ext ((Ext.refl _).alloc _), h, HG.out.1, by omega, by omega⟩)
    clear HG hg1 hg2 mkb
    generalize wc.alloc (Obj.cells (madeCells #[Value.bool false] n) 4) = wd at *
    generalize wc.heap.size = g3 at *
    go_loopw [23] (fun i wr => ∃ k : Nat, k ≤ n ∧ i = .int .i64 (k : Int) ∧ Hid (Su3 w9 g1 g2 g3 n (List.replicate n false) (List.replicate n false) (pre (fun _ => true) n k) wr)) (fun i _ => n - (RowKit.intOf i).toNat)
    case atStart => exact ⟨0, Nat.zero_le _, rfl, HS0⟩
    case round =>
      obtain ⟨k, hk, rfl, HS⟩ := hrel
      by_cases hkn : k < n
      · have kf := HS.out.o3.frozen k
        have kl := HS.out.o3.lt
        have kc : wr.cell? ⟨g3, k, none⟩ = some (.bool (nth (pre (fun _ => true) n k) k)) := HS.out.o3.cell hkn
        have HN2 : Hid (Su3 w9 g1 g2 g3 n (List.replicate n false) (List.replicate n false) (pre (fun _ => true) n (k + 1)) (wr.setCell ⟨g3, k, none⟩ (.bool true))) := Lib.hid (by
          have h := HS.out.put3 k true
          rw [pre_set (fun _ => true) n hkn] at h
          exact h)
        generalize nth (pre (fun _ => true) n k) k = y at *
        go_wp2_with fail
        go_roundw
        case rel => exact ⟨k + 1, hkn, by go_num, HN2⟩
        case measure => simp [RowKit.intOf]; omega
      · obtain rfl : k = n := by omega
        have HS1 : Hid (Su3 w9 g1 g2 g3 k (pre (fun i => su1To L i k) k 0) (List.replicate k false) (suA L) wr) := Lib.hid (by
          have h := HS.out
          rw [pre_all, show (List.range k).map (fun _ => true) = suA L by unfold suA; rw [← HN.out]; exact List.ext_getElem (by simp) fun v h1 h2 => by simp] at h
          rw [pre_zero]
          exact h)
        clear HS HS0
        go_wp2_with fail
        go_loopw [24] (fun i wr => ∃ a : Nat, a ≤ k ∧ i = .int .i64 (a : Int) ∧ Hid (Su3 w9 g1 g2 g3 k (pre (fun i => su1To L i k) k a) (List.replicate k false) (suA L) wr)) (fun i _ => k - (RowKit.intOf i).toNat)
        case atStart => exact ⟨0, Nat.zero_le _, rfl, HS1⟩
        case round =>
          obtain ⟨i, hi, rfl, HSO⟩ := hrel
          by_cases hik : i < k
          · have kf := HSO.out.o1.frozen i
            have kl := HSO.out.o1.lt
            have kc : wr.cell? ⟨g1, i, none⟩ = some (.bool (nth (pre (fun i => su1To L i k) k i) i)) := HSO.out.o1.cell hik
            have HSI : Hid (Su3 w9 g1 g2 g3 k ((pre (fun i => su1To L i k) k i).set i (su1To L i 0)) (List.replicate k false) (suA L) (wr.setCell ⟨g1, i, none⟩ (.bool true))) := Lib.hid (HSO.out.put1 i true)
            generalize nth (pre (fun i => su1To L i k) k i) i = y at *
            go_wp2_with fail
            generalize wr.setCell ⟨g1, i, none⟩ (.bool true) = ws at *
            clear kf kl kc
            go_loopw [25] (fun i2 wz => ∃ j : Nat, j ≤ k ∧ i2 = .int .i64 (j : Int) ∧ Hid (Su3 w9 g1 g2 g3 k ((pre (fun i => su1To L i k) k i).set i (su1To L i j)) (List.replicate k false) (suA L) wz)) (fun i2 _ => k - (RowKit.intOf i2).toNat)
            case atStart => exact ⟨0, Nat.zero_le _, rfl, HSI⟩
            case round =>
              rename World => wz
              obtain ⟨j, hj, rfl, HS⟩ := hrel
              by_cases hjk : j < k
              · have HST := Lib.hid (su1To_step L i j)
                have hpx := H16.out j hjk
                have hox := H16.out i hik
                have HUN : Hid (∀ W, Ext wz W → Calls Tryz.prog 37 #[.slice la k lc, .slice (some ⟨g3, 0, none⟩) k k, .int .i64 1, .int .i64 (((nth L j).1 * (nth L j).2 : Nat) : Int)] W fun e w' => e = .returned (.int .i64 ((unq L (suA L) 1 (suV 1 (nth L j)) : Nat) : Int)) ∧ Qu W w') := Lib.hid fun W hW => by
                  have hu := unique_any L (suA L) 1 ((nth L j).1 * (nth L j).2) la (some ⟨g3, 0, none⟩) lc k W (RPe.ext (HS.out.e.trans hW) HP9.out) ((HS.out.ext hW).o3.rb (by omega)) (by unfold suA; simp) (Nat.le_refl _) (fun i hi => H16.out i (by rw [HN.out]; exact hi)) (by rw [← HN.out]; omega) (by
                    have h := Nat.mul_le_mul (show (nth L j).1 ≤ 15 by omega) (show (nth L j).2 ≤ 15 by omega)
                    omega)
                  rw [← HN.out] at hu
                  exact hu
                obtain ⟨b1, o1, hla, hb1, hc1, hd1⟩ := (RPe.ext HS.out.e HP9.out).get (k := j) (by rw [← HN.out]; exact hjk)
                obtain ⟨b2, o2, hla2, hb2, hc2, hd2⟩ := (RPe.ext HS.out.e HP9.out).get (k := i) (by rw [← HN.out]; exact hik)
                rw [hla] at hla2
                simp only [Option.some.injEq, Addr.mk.injEq] at hla2
                obtain ⟨rfl, rfl, -⟩ := hla2
                subst hla
                obtain ⟨p, hpe⟩ : ∃ p, p = nth L j := ⟨_, rfl⟩
                obtain ⟨o, hoe⟩ : ∃ o, o = nth L i := ⟨_, rfl⟩
                rw [← hpe] at hc1 hd1 hpx HUN HST
                rw [← hoe] at hc2 hd2 hox HST
                clear hpe hoe
                obtain ⟨u, hu⟩ : ∃ u, u = unq L (suA L) 1 (suV 1 p) := ⟨_, rfl⟩
                rw [← hu] at HUN HST
                clear hu
                obtain ⟨z, hz⟩ : ∃ z, z = p.1 * p.2 := ⟨_, rfl⟩
                have hz225 : z ≤ 15 * 15 := by rw [hz]; exact Nat.mul_le_mul (by omega) (by omega)
                have hzi : ((p.1 : Int) * (p.2 : Int)) = ((z : Nat) : Int) := by rw [hz]; simp
                rw [← hz] at HUN
                clear hz
                by_cases he : p.1 + p.2 = o.1 + o.2
                · by_cases hu1 : u = 1
                  · have hub : (u == 1) = true := by simp; omega
                    have hui : (((u : Nat) : Int) == 1) = true := by simp; omega
                    clear hu1
                    have hc : (((p.1 : Int) + (p.2 : Int)) == ((o.1 : Int) + (o.2 : Int))) = true := by simp; omega
                    have HNX : Hid (su1To L i (j + 1) = false) := Lib.hid (by rw [HST.out, show (suV 0 p == suV 0 o) = true by show (p.1 + p.2 == o.1 + o.2) = _; simp; omega, hub]; simp)
                    clear HST hub he
                    go_wp2_with fail
                    go_quiet ((go_at_call 37; exact Calls.quiet_of (HUN.out _ (by first | exact (Ext.refl _).drewN _ | exact Ext.refl _ | exact (Ext.refl _).drew))))
                    have kf := HS.out.o1.frozen i
                    have kl := HS.out.o1.lt
                    have kc : wz.cell? ⟨g1, i, none⟩ = some (.bool (nth ((pre (fun i => su1To L i k) k i).set i (su1To L i j)) i)) := HS.out.o1.cell hik
                    have HPT : Hid (∀ m, Su3 w9 g1 g2 g3 k ((pre (fun i => su1To L i k) k i).set i false) (List.replicate k false) (suA L) ((wz.drewN m).setCell ⟨g1, i, none⟩ (.bool false))) := Lib.hid fun m => by
                      have h := (HS.out.ext ((Ext.refl _).drewN m)).put1 i false
                      rw [List.set_set] at h
                      exact h
                    generalize nth ((pre (fun i => su1To L i k) k i).set i (su1To L i j)) i = y0 at *
                    go_wp2_with fail
                    go_roundw
                    case rel => exact ⟨j + 1, hjk, by go_num, Lib.hid (by rw [HNX.out]; exact HPT.out _)⟩
                    case measure => simp [RowKit.intOf]; omega
                  · have hub : (u == 1) = false := by simp; omega
                    have hui : (((u : Nat) : Int) == 1) = false := by simp; omega
                    clear hu1
                    have hc : (((p.1 : Int) + (p.2 : Int)) == ((o.1 : Int) + (o.2 : Int))) = true := by simp; omega
                    have HNX : Hid (su1To L i (j + 1) = su1To L i j) := Lib.hid (by rw [HST.out, show (suV 0 p == suV 0 o) = true by show (p.1 + p.2 == o.1 + o.2) = _; simp; omega, hub]; simp)
                    clear HST hub he
                    go_wp2_with fail
                    go_quiet ((go_at_call 37; exact Calls.quiet_of (HUN.out _ (by first | exact (Ext.refl _).drewN _ | exact Ext.refl _ | exact (Ext.refl _).drew))))
                    go_wp2_with fail
                    go_roundw
                    case rel => exact ⟨j + 1, hjk, by go_num, Lib.hid (by rw [HNX.out]; first | exact HS.out | exact HS.out.ext (Ext.refl _).drew | exact HS.out.ext ((Ext.refl _).drewN _))⟩
                    case measure => simp [RowKit.intOf]; omega
                · have hc : (((p.1 : Int) + (p.2 : Int)) == ((o.1 : Int) + (o.2 : Int))) = false := by simp; omega
                  have HNX : Hid (su1To L i (j + 1) = su1To L i j) := Lib.hid (by rw [HST.out, show (suV 0 p == suV 0 o) = false by show (p.1 + p.2 == o.1 + o.2) = _; simp; omega]; simp)
                  clear HST he
                  go_wp2_with fail
                  go_quiet (fail)
                  go_wp2_with fail
                  go_roundw
                  case rel => exact ⟨j + 1, hjk, by go_num, Lib.hid (by rw [HNX.out]; first | exact HS.out | exact HS.out.ext (Ext.refl _).drew | exact HS.out.ext ((Ext.refl _).drewN _))⟩
                  case measure => simp [RowKit.intOf]; omega
              · obtain rfl : j = k := by omega
                have HSN : Hid (Su3 w9 g1 g2 g3 j (pre (fun i => su1To L i j) j (i + 1)) (List.replicate j false) (suA L) wz) := Lib.hid (by
                  have h := HS.out
                  rw [pre_set (fun i => su1To L i j) j hik] at h
                  exact h)
                go_wp2_with fail
                go_roundw
                case rel => exact ⟨i + 1, hik, by go_num, HSN⟩
                case measure => simp [RowKit.intOf]; omega
          · obtain rfl : i = k := by omega
            have HSB : Hid (Su3 w9 g1 g2 g3 i (su1 L) (List.replicate i false) (suA L) wr) := Lib.hid (by
              have h := HSO.out
              rw [pre_all] at h
              unfold su1
              rw [← HN.out]
              exact h)
            clear HSO HS1
            go_wp2_with fail
            obtain ⟨f2, hf2⟩ : ∃ f2 : Nat → Bool, f2 = fun m => nth (su1 L) m && unq L (su1 L) 1 (suV 1 (nth L m)) == 1 := ⟨_, rfl⟩
            have HF2 : Hid (∀ m, f2 m = (nth (su1 L) m && unq L (su1 L) 1 (suV 1 (nth L m)) == 1)) := Lib.hid fun m => by rw [hf2]
            have HS2 : Hid (su2 L = (List.range i).map f2) := Lib.hid (by rw [hf2, HN.out]; rfl)
            clear hf2
            go_loopw [26] (fun i2 wz => ∃ m : Nat, m ≤ i ∧ i2 = .int .i64 (m : Int) ∧ Hid (Su3 w9 g1 g2 g3 i (su1 L) (pre f2 i m) (suA L) wz)) (fun i2 _ => i - (RowKit.intOf i2).toNat)
            case atStart => exact ⟨0, Nat.zero_le _, rfl, Lib.hid (by rw [pre_zero]; exact HSB.out)⟩
            case round =>
              rename World => wz
              obtain ⟨m, hm, rfl, HS⟩ := hrel
              by_cases hmi : m < i
              · have hpx := H16.out m hmi
                have HUN : Hid (∀ W, Ext wz W → Calls Tryz.prog 37 #[.slice la i lc, .slice (some ⟨g1, 0, none⟩) i i, .int .i64 1, .int .i64 (((nth L m).1 * (nth L m).2 : Nat) : Int)] W fun e w' => e = .returned (.int .i64 ((unq L (su1 L) 1 (suV 1 (nth L m)) : Nat) : Int)) ∧ Qu W w') := Lib.hid fun W hW => by
                  have hu := unique_any L (su1 L) 1 ((nth L m).1 * (nth L m).2) la (some ⟨g1, 0, none⟩) lc i W (RPe.ext (HS.out.e.trans hW) HP9.out) ((HS.out.ext hW).o1.rb (by omega)) (by unfold su1; simp) (Nat.le_refl _) (fun j hj => H16.out j (by rw [HN.out]; exact hj)) (by rw [← HN.out]; omega) (by
                    have h := Nat.mul_le_mul (show (nth L m).1 ≤ 15 by omega) (show (nth L m).2 ≤ 15 by omega)
                    omega)
                  rw [← HN.out] at hu
                  exact hu
                have f1f := HS.out.o1.lt
                have f1c : wz.cell? ⟨g1, m, none⟩ = some (.bool (nth (su1 L) m)) := HS.out.o1.cell hmi
                have kf := HS.out.o2.frozen m
                have kl := HS.out.o2.lt
                have kc : wz.cell? ⟨g2, m, none⟩ = some (.bool (nth (pre f2 i m) m)) := HS.out.o2.cell hmi
                have HPT : Hid (∀ W, Ext wz W → Su3 w9 g1 g2 g3 i (su1 L) (pre f2 i (m + 1)) (suA L) (W.setCell ⟨g2, m, none⟩ (.bool (f2 m)))) := Lib.hid fun W hW => by
                  have h := (HS.out.ext hW).put2 m (f2 m)
                  rw [pre_set f2 i hmi] at h
                  exact h
                obtain ⟨b1, o1, hla, hb1, hc1, hd1⟩ := (RPe.ext HS.out.e HP9.out).get (k := m) (by rw [← HN.out]; exact hmi)
                subst hla
                generalize nth (pre f2 i m) m = y0 at *
                have HFM := Lib.hid (HF2.out m)
                obtain ⟨fm, hfm⟩ : ∃ fm, fm = nth (su1 L) m := ⟨_, rfl⟩
                rw [← hfm] at f1c HFM
                clear hfm
                obtain ⟨u, hu⟩ : ∃ u, u = unq L (su1 L) 1 (suV 1 (nth L m)) := ⟨_, rfl⟩
                rw [← hu] at HUN HFM
                clear hu
                obtain ⟨p, hpe⟩ : ∃ p, p = nth L m := ⟨_, rfl⟩
                rw [← hpe] at hc1 hd1 hpx HUN
                clear hpe
                obtain ⟨z, hz⟩ : ∃ z, z = p.1 * p.2 := ⟨_, rfl⟩
                have hz225 : z ≤ 15 * 15 := by rw [hz]; exact Nat.mul_le_mul (by omega) (by omega)
                have hzi : ((p.1 : Int) * (p.2 : Int)) = ((z : Nat) : Int) := by rw [hz]; simp
                rw [← hz] at HUN
                clear hz
                cases fm
                · go_wp2_with fail
                  have HKP : Hid (∀ W, Ext wz W → W.cell? ⟨g1, m, none⟩ = some (.bool false) ∧ W.cell? ⟨b1, o1 + m * 2, none⟩ = some (.int .i64 (p.1 : Int)) ∧ W.cell? ⟨b1, o1 + m * 2 + 1, none⟩ = some (.int .i64 (p.2 : Int))) := Lib.hid fun W h => ⟨h.cell f1c, h.cell hc1, h.cell hd1⟩
                  refine wp_region_E 24 (fun W => W.cell? ⟨g1, m, none⟩ = some (.bool false) ∧ W.cell? ⟨b1, o1 + m * 2, none⟩ = some (.int .i64 (p.1 : Int)) ∧ W.cell? ⟨b1, o1 + m * 2 + 1, none⟩ = some (.int .i64 (p.2 : Int))) (by kernel_rfl) ?_
                  refine wpAnyE_take (i := 0) (v := ?_) (.here) (by kernel_rfl) (fun _ _ _ h => h) (HKP.out _ (Ext.refl _).drew) (by rfl) ?_ ?_
                  rotate_left
                  focus (intro w hSw; (try dsimp only at hSw); go_simp; try with_reducible rfl)
                  try simp only [Act.put, List.setIfInBounds_toArray, List.set_cons_zero, List.set_cons_succ]
                  refine wpAnyE_take (i := 1) (v := ?_) (.next (.here)) (by kernel_rfl) (fun _ _ _ h => h) (HKP.out _ (Ext.refl _).drew) (by rfl) ?_ ?_
                  rotate_left
                  focus (intro w hSw; (try dsimp only at hSw); go_simp; try with_reducible rfl)
                  try simp only [Act.put, List.setIfInBounds_toArray, List.set_cons_zero, List.set_cons_succ]
                  refine wpAnyE_take (i := 2) (v := ?_) (.next (.next (.here))) (by kernel_rfl) (fun _ _ _ h => h) (HKP.out _ (Ext.refl _).drew) (by rfl) ?_ ?_
                  rotate_left
                  focus (intro w hSw; (try dsimp only at hSw); go_simp; try with_reducible rfl)
                  try simp only [Act.put, List.setIfInBounds_toArray, List.set_cons_zero, List.set_cons_succ]
                  refine wpAnyE_take (i := 3) (v := ?_) (.next (.next (.next (.here)))) (by kernel_rfl) (fun _ _ _ h => h) (HKP.out _ (Ext.refl _).drew) (by rfl) ?_ ?_
                  rotate_left
                  focus (intro w hSw; (try dsimp only at hSw); go_simp; try with_reducible rfl)
                  try simp only [Act.put, List.setIfInBounds_toArray, List.set_cons_zero, List.set_cons_succ]
                  refine wpAnyE_take (i := 4) (v := ?_) (.next (.next (.next (.next (.here))))) (by kernel_rfl) (fun _ _ _ h => h) (HKP.out _ (Ext.refl _).drew) (by rfl) ?_ ?_
                  rotate_left
                  focus (intro w hSw; (try dsimp only at hSw); go_simp; try with_reducible rfl)
                  try simp only [Act.put, List.setIfInBounds_toArray, List.set_cons_zero, List.set_cons_succ]
                  refine wpAnyE_take (i := 5) (v := ?_) (.next (.next (.next (.next (.next (.here)))))) (by kernel_rfl) (fun _ _ _ h => h) (HKP.out _ (Ext.refl _).drew) (by rfl) ?_ ?_
                  rotate_left
                  focus (intro w hSw; (try dsimp only at hSw); go_simp; try with_reducible rfl)
                  try simp only [Act.put, List.setIfInBounds_toArray, List.set_cons_zero, List.set_cons_succ]
                  refine wpAnyE_take (i := 6) (v := ?_) (.next (.next (.next (.next (.next (.next (.here))))))) (by kernel_rfl) (fun _ _ _ h => h) (HKP.out _ (Ext.refl _).drew) (by rfl) ?_ ?_
                  rotate_left
                  focus (intro w hSw; (try dsimp only at hSw); go_simp; try with_reducible rfl)
                  try simp only [Act.put, List.setIfInBounds_toArray, List.set_cons_zero, List.set_cons_succ]
                  refine wpAnyE_skip (i := 7) (.next (.next (.next (.next (.next (.next (.next (.here)))))))) (by kernel_rfl) (fun _ _ _ h => h) (HKP.out _ (Ext.refl _).drew) (by rfl) ?_
                  try simp only [Act.put, List.setIfInBounds_toArray, List.set_cons_zero, List.set_cons_succ]
                  refine wpAnyE_skip (i := 8) (.next (.next (.next (.next (.next (.next (.next (.next (.here))))))))) (by kernel_rfl) (fun _ _ _ h => h) (HKP.out _ (Ext.refl _).drew) (by rfl) ?_
                  try simp only [Act.put, List.setIfInBounds_toArray, List.set_cons_zero, List.set_cons_succ]
                  refine wpAnyE_skip (i := 9) (.next (.next (.next (.next (.next (.next (.next (.next (.next (.here)))))))))) (by kernel_rfl) (fun _ _ _ h => h) (HKP.out _ (Ext.refl _).drew) (by rfl) ?_
                  try simp only [Act.put, List.setIfInBounds_toArray, List.set_cons_zero, List.set_cons_succ]
                  refine wpAnyE_skip (i := 10) (.next (.next (.next (.next (.next (.next (.next (.next (.next (.next (.here))))))))))) (by kernel_rfl) (fun _ _ _ h => h) (HKP.out _ (Ext.refl _).drew) (by rfl) ?_
                  try simp only [Act.put, List.setIfInBounds_toArray, List.set_cons_zero, List.set_cons_succ]
                  refine wpAnyE_skip (i := 11) (.next (.next (.next (.next (.next (.next (.next (.next (.next (.next (.next (.here)))))))))))) (by kernel_rfl) (fun _ _ _ h => h) (HKP.out _ (Ext.refl _).drew) (by rfl) ?_
                  try simp only [Act.put, List.setIfInBounds_toArray, List.set_cons_zero, List.set_cons_succ]
                  refine wpAnyE_skip (i := 12) (.next (.next (.next (.next (.next (.next (.next (.next (.next (.next (.next (.next (.here))))))))))))) (by kernel_rfl) (fun _ _ _ h => h) (HKP.out _ (Ext.refl _).drew) (by rfl) ?_
                  try simp only [Act.put, List.setIfInBounds_toArray, List.set_cons_zero, List.set_cons_succ]
                  refine wpAnyE_skip (i := 13) (.next (.next (.next (.next (.next (.next (.next (.next (.next (.next (.next (.next (.next (.here)))))))))))))) (by kernel_rfl) (fun _ _ _ h => h) (HKP.out _ (Ext.refl _).drew) (by rfl) ?_
                  try simp only [Act.put, List.setIfInBounds_toArray, List.set_cons_zero, List.set_cons_succ]
                  refine wpAnyE_skip (i := 14) (.next (.next (.next (.next (.next (.next (.next (.next (.next (.next (.next (.next (.next (.next (.here))))))))))))))) (by kernel_rfl) (fun _ _ _ h => h) (HKP.out _ (Ext.refl _).drew) (by rfl) ?_
                  try simp only [Act.put, List.setIfInBounds_toArray, List.set_cons_zero, List.set_cons_succ]
                  refine wpAnyE_skip (i := 15) (.next (.next (.next (.next (.next (.next (.next (.next (.next (.next (.next (.next (.next (.next (.next (.here)))))))))))))))) (by kernel_rfl) (fun _ _ _ h => h) (HKP.out _ (Ext.refl _).drew) (by rfl) ?_
                  try simp only [Act.put, List.setIfInBounds_toArray, List.set_cons_zero, List.set_cons_succ]
                  refine wpAnyE_skip (i := 16) (.next (.next (.next (.next (.next (.next (.next (.next (.next (.next (.next (.next (.next (.next (.next (.next (.here))))))))))))))))) (by kernel_rfl) (fun _ _ _ h => h) (HKP.out _ (Ext.refl _).drew) (by rfl) ?_
                  try simp only [Act.put, List.setIfInBounds_toArray, List.set_cons_zero, List.set_cons_succ]
                  refine wpAnyE_skip (i := 17) (.next (.next (.next (.next (.next (.next (.next (.next (.next (.next (.next (.next (.next (.next (.next (.next (.next (.here)))))))))))))))))) (by kernel_rfl) (fun _ _ _ h => h) (HKP.out _ (Ext.refl _).drew) (by rfl) ?_
                  try simp only [Act.put, List.setIfInBounds_toArray, List.set_cons_zero, List.set_cons_succ]
                  refine wpAnyE_skip (i := 18) (.next (.next (.next (.next (.next (.next (.next (.next (.next (.next (.next (.next (.next (.next (.next (.next (.next (.next (.here))))))))))))))))))) (by kernel_rfl) (fun _ _ _ h => h) (HKP.out _ (Ext.refl _).drew) (by rfl) ?_
                  try simp only [Act.put, List.setIfInBounds_toArray, List.set_cons_zero, List.set_cons_succ]
                  refine wpAnyE_skip (i := 19) (.next (.next (.next (.next (.next (.next (.next (.next (.next (.next (.next (.next (.next (.next (.next (.next (.next (.next (.next (.here)))))))))))))))))))) (by kernel_rfl) (fun _ _ _ h => h) (HKP.out _ (Ext.refl _).drew) (by rfl) ?_
                  try simp only [Act.put, List.setIfInBounds_toArray, List.set_cons_zero, List.set_cons_succ]
                  refine wpAnyE_skip (i := 20) (.next (.next (.next (.next (.next (.next (.next (.next (.next (.next (.next (.next (.next (.next (.next (.next (.next (.next (.next (.next (.here))))))))))))))))))))) (by kernel_rfl) (fun _ _ _ h => h) (HKP.out _ (Ext.refl _).drew) (by rfl) ?_
                  try simp only [Act.put, List.setIfInBounds_toArray, List.set_cons_zero, List.set_cons_succ]
                  refine wpAnyE_skip (i := 21) (.next (.next (.next (.next (.next (.next (.next (.next (.next (.next (.next (.next (.next (.next (.next (.next (.next (.next (.next (.next (.next (.here)))))))))))))))))))))) (by kernel_rfl) (fun _ _ _ h => h) (HKP.out _ (Ext.refl _).drew) (by rfl) ?_
                  try simp only [Act.put, List.setIfInBounds_toArray, List.set_cons_zero, List.set_cons_succ]
                  refine wpAnyE_take (i := 22) (v := ?_) (.next (.next (.next (.next (.next (.next (.next (.next (.next (.next (.next (.next (.next (.next (.next (.next (.next (.next (.next (.next (.next (.next (.here))))))))))))))))))))))) (by kernel_rfl) (fun _ _ _ h => h) (HKP.out _ (Ext.refl _).drew) (by rfl) ?_ ?_
                  rotate_left
                  focus (intro w hSw; (try dsimp only at hSw); go_simp; try with_reducible rfl)
                  try simp only [Act.put, List.setIfInBounds_toArray, List.set_cons_zero, List.set_cons_succ]
                  refine wpAnyE_take (i := 23) (v := ?_) (.next (.next (.next (.next (.next (.next (.next (.next (.next (.next (.next (.next (.next (.next (.next (.next (.next (.next (.next (.next (.next (.next (.next (.here)))))))))))))))))))))))) (by kernel_rfl) (fun _ _ _ h => h) (HKP.out _ (Ext.refl _).drew) (by rfl) ?_ ?_
                  rotate_left
                  focus (intro w hSw; (try dsimp only at hSw); go_simp; try with_reducible rfl)
                  try simp only [Act.put, List.setIfInBounds_toArray, List.set_cons_zero, List.set_cons_succ]
                  refine wpAnyE_seq [24] (.cons (.next (.next (.next (.next (.next (.next (.next (.next (.next (.next (.next (.next (.next (.next (.next (.next (.next (.next (.next (.next (.next (.next (.next (.next (.here))))))))))))))))))))))))) (.nil)) (by kernel_rfl) (by kernel_rfl) ?_
                  have hv2 : f2 m = false := by rw [HFM.out]; rfl
                  have HPU := Lib.hid (HPT.out _ (Ext.refl wz).drew)
                  rw [hv2] at HPU
                  clear hv2
                  have kf' : wz.drew.frozen? ⟨g2, m, none⟩ = false := kf
                  have kc' : wz.drew.cell? ⟨g2, m, none⟩ = some (.bool y0) := kc
                  go_wp2_with fail
                  go_roundw
                  case rel => exact ⟨m + 1, hmi, by go_num, HPU⟩
                  case measure => simp [RowKit.intOf]; omega
                · go_wp2_with fail
                  have HKP : Hid (∀ W, Ext wz W → W.cell? ⟨g1, m, none⟩ = some (.bool true) ∧ W.cell? ⟨b1, o1 + m * 2, none⟩ = some (.int .i64 (p.1 : Int)) ∧ W.cell? ⟨b1, o1 + m * 2 + 1, none⟩ = some (.int .i64 (p.2 : Int))) := Lib.hid fun W h => ⟨h.cell f1c, h.cell hc1, h.cell hd1⟩
                  refine wp_region_E 24 (fun W => W.cell? ⟨g1, m, none⟩ = some (.bool true) ∧ W.cell? ⟨b1, o1 + m * 2, none⟩ = some (.int .i64 (p.1 : Int)) ∧ W.cell? ⟨b1, o1 + m * 2 + 1, none⟩ = some (.int .i64 (p.2 : Int))) (by kernel_rfl) ?_
                  refine wpAnyE_take (i := 0) (v := ?_) (.here) (by kernel_rfl) (fun _ _ _ h => h) (HKP.out _ (Ext.refl _).drew) (by rfl) ?_ ?_
                  rotate_left
                  focus (intro w hSw; (try dsimp only at hSw); go_simp; try with_reducible rfl)
                  try simp only [Act.put, List.setIfInBounds_toArray, List.set_cons_zero, List.set_cons_succ]
                  refine wpAnyE_take (i := 1) (v := ?_) (.next (.here)) (by kernel_rfl) (fun _ _ _ h => h) (HKP.out _ (Ext.refl _).drew) (by rfl) ?_ ?_
                  rotate_left
                  focus (intro w hSw; (try dsimp only at hSw); go_simp; try with_reducible rfl)
                  try simp only [Act.put, List.setIfInBounds_toArray, List.set_cons_zero, List.set_cons_succ]
                  refine wpAnyE_take (i := 2) (v := ?_) (.next (.next (.here))) (by kernel_rfl) (fun _ _ _ h => h) (HKP.out _ (Ext.refl _).drew) (by rfl) ?_ ?_
                  rotate_left
                  focus (intro w hSw; (try dsimp only at hSw); go_simp; try with_reducible rfl)
                  try simp only [Act.put, List.setIfInBounds_toArray, List.set_cons_zero, List.set_cons_succ]
                  refine wpAnyE_take (i := 3) (v := ?_) (.next (.next (.next (.here)))) (by kernel_rfl) (fun _ _ _ h => h) (HKP.out _ (Ext.refl _).drew) (by rfl) ?_ ?_
                  rotate_left
                  focus (intro w hSw; (try dsimp only at hSw); go_simp; try with_reducible rfl)
                  try simp only [Act.put, List.setIfInBounds_toArray, List.set_cons_zero, List.set_cons_succ]
                  refine wpAnyE_take (i := 4) (v := ?_) (.next (.next (.next (.next (.here))))) (by kernel_rfl) (fun _ _ _ h => h) (HKP.out _ (Ext.refl _).drew) (by rfl) ?_ ?_
                  rotate_left
                  focus (intro w hSw; (try dsimp only at hSw); go_simp; try with_reducible rfl)
                  try simp only [Act.put, List.setIfInBounds_toArray, List.set_cons_zero, List.set_cons_succ]
                  refine wpAnyE_take (i := 5) (v := ?_) (.next (.next (.next (.next (.next (.here)))))) (by kernel_rfl) (fun _ _ _ h => h) (HKP.out _ (Ext.refl _).drew) (by rfl) ?_ ?_
                  rotate_left
                  focus (intro w hSw; (try dsimp only at hSw); go_simp; try with_reducible rfl)
                  try simp only [Act.put, List.setIfInBounds_toArray, List.set_cons_zero, List.set_cons_succ]
                  refine wpAnyE_take (i := 6) (v := ?_) (.next (.next (.next (.next (.next (.next (.here))))))) (by kernel_rfl) (fun _ _ _ h => h) (HKP.out _ (Ext.refl _).drew) (by rfl) ?_ ?_
                  rotate_left
                  focus (intro w hSw; (try dsimp only at hSw); go_simp; try with_reducible rfl)
                  try simp only [Act.put, List.setIfInBounds_toArray, List.set_cons_zero, List.set_cons_succ]
                  refine wpAnyE_take (i := 7) (v := ?_) (.next (.next (.next (.next (.next (.next (.next (.here)))))))) (by kernel_rfl) (fun _ _ _ h => h) (HKP.out _ (Ext.refl _).drew) (by rfl) ?_ ?_
                  rotate_left
                  focus (intro w hSw; (try dsimp only at hSw); go_simp; try with_reducible rfl)
                  try simp only [Act.put, List.setIfInBounds_toArray, List.set_cons_zero, List.set_cons_succ]
                  refine wpAnyE_take (i := 8) (v := ?_) (.next (.next (.next (.next (.next (.next (.next (.next (.here))))))))) (by kernel_rfl) (fun _ _ _ h => h) (HKP.out _ (Ext.refl _).drew) (by rfl) ?_ ?_
                  rotate_left
                  focus (intro w hSw; (try dsimp only at hSw); go_simp; try with_reducible rfl)
                  try simp only [Act.put, List.setIfInBounds_toArray, List.set_cons_zero, List.set_cons_succ]
                  refine wpAnyE_take (i := 9) (v := ?_) (.next (.next (.next (.next (.next (.next (.next (.next (.next (.here)))))))))) (by kernel_rfl) (fun _ _ _ h => h) (HKP.out _ (Ext.refl _).drew) (by rfl) ?_ ?_
                  rotate_left
                  focus (intro w hSw; (try dsimp only at hSw); go_simp; try with_reducible rfl)
                  try simp only [Act.put, List.setIfInBounds_toArray, List.set_cons_zero, List.set_cons_succ]
                  refine wpAnyE_take (i := 10) (v := ?_) (.next (.next (.next (.next (.next (.next (.next (.next (.next (.next (.here))))))))))) (by kernel_rfl) (fun _ _ _ h => h) (HKP.out _ (Ext.refl _).drew) (by rfl) ?_ ?_
                  rotate_left
                  focus (intro w hSw; (try dsimp only at hSw); go_simp; try with_reducible rfl)
                  try simp only [Act.put, List.setIfInBounds_toArray, List.set_cons_zero, List.set_cons_succ]
                  refine wpAnyE_take (i := 11) (v := ?_) (.next (.next (.next (.next (.next (.next (.next (.next (.next (.next (.next (.here)))))))))))) (by kernel_rfl) (fun _ _ _ h => h) (HKP.out _ (Ext.refl _).drew) (by rfl) ?_ ?_
                  rotate_left
                  focus (intro w hSw; (try dsimp only at hSw); go_simp; try with_reducible rfl)
                  try simp only [Act.put, List.setIfInBounds_toArray, List.set_cons_zero, List.set_cons_succ]
                  refine wpAnyE_take (i := 12) (v := ?_) (.next (.next (.next (.next (.next (.next (.next (.next (.next (.next (.next (.next (.here))))))))))))) (by kernel_rfl) (fun _ _ _ h => h) (HKP.out _ (Ext.refl _).drew) (by rfl) ?_ ?_
                  rotate_left
                  focus (intro w hSw; (try dsimp only at hSw); go_simp; try with_reducible rfl)
                  try simp only [Act.put, List.setIfInBounds_toArray, List.set_cons_zero, List.set_cons_succ]
                  refine wpAnyE_take (i := 13) (v := ?_) (.next (.next (.next (.next (.next (.next (.next (.next (.next (.next (.next (.next (.next (.here)))))))))))))) (by kernel_rfl) (fun _ _ _ h => h) (HKP.out _ (Ext.refl _).drew) (by rfl) ?_ ?_
                  rotate_left
                  focus (intro w hSw; (try dsimp only at hSw); go_simp; try with_reducible rfl)
                  try simp only [Act.put, List.setIfInBounds_toArray, List.set_cons_zero, List.set_cons_succ]
                  refine wpAnyE_take (i := 14) (v := ?_) (.next (.next (.next (.next (.next (.next (.next (.next (.next (.next (.next (.next (.next (.next (.here))))))))))))))) (by kernel_rfl) (fun _ _ _ h => h) (HKP.out _ (Ext.refl _).drew) (by rfl) ?_ ?_
                  rotate_left
                  focus (intro w hSw; (try dsimp only at hSw); go_simp; try with_reducible rfl)
                  try simp only [Act.put, List.setIfInBounds_toArray, List.set_cons_zero, List.set_cons_succ]
                  refine wpAnyE_take (i := 15) (v := ?_) (.next (.next (.next (.next (.next (.next (.next (.next (.next (.next (.next (.next (.next (.next (.next (.here)))))))))))))))) (by kernel_rfl) (fun _ _ _ h => h) (HKP.out _ (Ext.refl _).drew) (by rfl) ?_ ?_
                  rotate_left
                  focus (intro w hSw; (try dsimp only at hSw); go_simp; try with_reducible rfl)
                  try simp only [Act.put, List.setIfInBounds_toArray, List.set_cons_zero, List.set_cons_succ]
                  refine wpAnyE_take (i := 16) (v := ?_) (.next (.next (.next (.next (.next (.next (.next (.next (.next (.next (.next (.next (.next (.next (.next (.next (.here))))))))))))))))) (by kernel_rfl) (fun _ _ _ h => h) (HKP.out _ (Ext.refl _).drew) (by rfl) ?_ ?_
                  rotate_left
                  focus (intro w hSw; (try dsimp only at hSw); go_simp; try with_reducible rfl)
                  try simp only [Act.put, List.setIfInBounds_toArray, List.set_cons_zero, List.set_cons_succ]
                  refine wpAnyE_take (i := 17) (v := ?_) (.next (.next (.next (.next (.next (.next (.next (.next (.next (.next (.next (.next (.next (.next (.next (.next (.next (.here)))))))))))))))))) (by kernel_rfl) (fun _ _ _ h => h) (HKP.out _ (Ext.refl _).drew) (by rfl) ?_ ?_
                  rotate_left
                  focus (intro w hSw; (try dsimp only at hSw); go_simp; try with_reducible rfl)
                  try simp only [Act.put, List.setIfInBounds_toArray, List.set_cons_zero, List.set_cons_succ]
                  refine wpAnyE_take (i := 18) (v := ?_) (.next (.next (.next (.next (.next (.next (.next (.next (.next (.next (.next (.next (.next (.next (.next (.next (.next (.next (.here))))))))))))))))))) (by kernel_rfl) (fun _ _ _ h => h) (HKP.out _ (Ext.refl _).drew) (by rfl) ?_ ?_
                  rotate_left
                  focus (intro w hSw; (try dsimp only at hSw); go_simp; try with_reducible rfl)
                  try simp only [Act.put, List.setIfInBounds_toArray, List.set_cons_zero, List.set_cons_succ]
                  refine wpAnyE_take (i := 19) (v := ?_) (.next (.next (.next (.next (.next (.next (.next (.next (.next (.next (.next (.next (.next (.next (.next (.next (.next (.next (.next (.here)))))))))))))))))))) (by kernel_rfl) (fun _ _ _ h => h) (HKP.out _ (Ext.refl _).drew) (by rfl) ?_ ?_
                  rotate_left
                  focus (intro w hSw; (try dsimp only at hSw); go_simp; try with_reducible rfl)
                  try simp only [Act.put, List.setIfInBounds_toArray, List.set_cons_zero, List.set_cons_succ]
                  rw [show IntKind.i64.wrap ((z : Nat) : Int) = ((z : Nat) : Int) by rw [IntKind.wrap_i64]; omega]
                  refine wpAnyE_one (k := 20) (.next (.next (.next (.next (.next (.next (.next (.next (.next (.next (.next (.next (.next (.next (.next (.next (.next (.next (.next (.next (.here))))))))))))))))))))) (by kernel_rfl) (fun K hK => ?_)
                  go_simp
                  refine (HUN.out _ (Ext.refl _).drew).mono ?_; rintro _ w5 ⟨rfl, hE5⟩; dsimp only
                  refine hK.out _ _ (fun _ => HKP.out _ ((Ext.refl _).drew.trans hE5.ext)) ?_
                  clear hK
                  try simp only [Act.put, List.setIfInBounds_toArray, List.set_cons_zero, List.set_cons_succ]
                  refine wpAnyE_take (i := 21) (v := ?_) (.next (.next (.next (.next (.next (.next (.next (.next (.next (.next (.next (.next (.next (.next (.next (.next (.next (.next (.next (.next (.next (.here)))))))))))))))))))))) (by kernel_rfl) (fun _ _ _ h => h) (HKP.out _ ((Ext.refl _).drew.trans hE5.ext)) (by rfl) ?_ ?_
                  rotate_left
                  focus (intro w hSw; (try dsimp only at hSw); go_simp; try with_reducible rfl)
                  try simp only [Act.put, List.setIfInBounds_toArray, List.set_cons_zero, List.set_cons_succ]
                  refine wpAnyE_take (i := 22) (v := ?_) (.next (.next (.next (.next (.next (.next (.next (.next (.next (.next (.next (.next (.next (.next (.next (.next (.next (.next (.next (.next (.next (.next (.here))))))))))))))))))))))) (by kernel_rfl) (fun _ _ _ h => h) (HKP.out _ ((Ext.refl _).drew.trans hE5.ext)) (by rfl) ?_ ?_
                  rotate_left
                  focus (intro w hSw; (try dsimp only at hSw); go_simp; try with_reducible rfl)
                  try simp only [Act.put, List.setIfInBounds_toArray, List.set_cons_zero, List.set_cons_succ]
                  refine wpAnyE_take (i := 23) (v := ?_) (.next (.next (.next (.next (.next (.next (.next (.next (.next (.next (.next (.next (.next (.next (.next (.next (.next (.next (.next (.next (.next (.next (.next (.here)))))))))))))))))))))))) (by kernel_rfl) (fun _ _ _ h => h) (HKP.out _ ((Ext.refl _).drew.trans hE5.ext)) (by rfl) ?_ ?_
                  rotate_left
                  focus (intro w hSw; (try dsimp only at hSw); go_simp; try with_reducible rfl)
                  try simp only [Act.put, List.setIfInBounds_toArray, List.set_cons_zero, List.set_cons_succ]
                  refine wpAnyE_seq [24] (.cons (.next (.next (.next (.next (.next (.next (.next (.next (.next (.next (.next (.next (.next (.next (.next (.next (.next (.next (.next (.next (.next (.next (.next (.next (.here))))))))))))))))))))))))) (.nil)) (by kernel_rfl) (by kernel_rfl) ?_
                  have HPU := Lib.hid (HPT.out w5 ((Ext.refl _).drew.trans hE5.ext))
                  have hku := HS.out.ext ((Ext.refl wz).drew.trans hE5.ext)
                  have kf' := hku.o2.frozen m
                  have kl' := hku.o2.lt
                  have kc' := ((Ext.refl wz).drew.trans hE5.ext).cell kc
                  clear kf kl kc hku
                  by_cases hu1 : u = 1
                  · have hui : (((u : Nat) : Int) == 1) = true := by simp; omega
                    have hv2 : f2 m = true := by rw [HFM.out]; simp; omega
                    rw [hv2] at HPU
                    clear hu1 hv2 HFM
                    go_wp2_with fail
                    go_roundw
                    case rel => exact ⟨m + 1, hmi, by go_num, HPU⟩
                    case measure => simp [RowKit.intOf]; omega
                  · have hui : (((u : Nat) : Int) == 1) = false := by simp; omega
                    have hv2 : f2 m = false := by rw [HFM.out]; simp; omega
                    rw [hv2] at HPU
                    clear hu1 hv2 HFM
                    go_wp2_with fail
                    go_roundw
                    case rel => exact ⟨m + 1, hmi, by go_num, HPU⟩
                    case measure => simp [RowKit.intOf]; omega
              · obtain rfl : m = i := by omega
                have HSC : Hid (Su3 w9 g1 g2 g3 m (su1 L) (su2 L) (suA L) wz) := Lib.hid (by
                  have h := HS.out
                  rw [pre_all, ← HS2.out] at h
                  exact h)
                have HS9 : Hid (Ext w9 wz) := Lib.hid HSC.out.e
                clear HS HS2 HF2
                have hox := H16.out x hxn
                have HUN : Hid (∀ W, Ext wz W → Calls Tryz.prog 37 #[.slice la m lc, .slice (some ⟨g2, 0, none⟩) m m, .int .i64 0, .int .i64 (((nth L x).1 + (nth L x).2 : Nat) : Int)] W fun e w' => e = .returned (.int .i64 ((unq L (su2 L) 0 (suV 0 (nth L x)) : Nat) : Int)) ∧ Qu W w') := Lib.hid fun W hW => by
                  have hu := unique_any L (su2 L) 0 ((nth L x).1 + (nth L x).2) la (some ⟨g2, 0, none⟩) lc m W (RPe.ext (HSC.out.e.trans hW) HP9.out) ((HSC.out.ext hW).o2.rb (by omega)) (by unfold su2; simp) (by decide) (fun j hj => H16.out j (by rw [HN.out]; exact hj)) (by rw [← HN.out]; omega) (by omega)
                  rw [← HN.out] at hu
                  exact hu
                have cf : wz.cell? ⟨g1, x, none⟩ = some (.bool (nth (su1 L) x)) := HSC.out.o1.cell hxn
                have cs : wz.cell? ⟨g2, x, none⟩ = some (.bool (nth (su2 L) x)) := HSC.out.o2.cell hxn
                have l1 := HSC.out.o1.lt
                have l2 := HSC.out.o2.lt
                obtain ⟨b1, o1, hla, hb1, hc1, hd1⟩ := (RPe.ext HSC.out.e HP9.out).get (k := x) (by rw [← HN.out]; exact hxn)
                subst hla
                have HT3 : Hid (su3 L x = (nth (su2 L) x && unq L (su2 L) 0 (suV 0 (nth L x)) == 1)) := Lib.hid rfl
                have hs21 : nth (su2 L) x = true → nth (su1 L) x = true := by
                  unfold su2
                  rw [← HN.out, nth_mapN _ _ (by simpa using hxn), nth_range hxn]
                  intro h
                  exact (Bool.and_eq_true _ _ ▸ h).1
                obtain ⟨u, hu⟩ : ∃ u, u = unq L (su2 L) 0 (suV 0 (nth L x)) := ⟨_, rfl⟩
                rw [← hu] at HUN HT3
                clear hu
                obtain ⟨p, hpe⟩ : ∃ p, p = nth L x := ⟨_, rfl⟩
                rw [← hpe] at hc1 hd1 hox HUN
                clear hpe
                obtain ⟨z, hz⟩ : ∃ z, z = p.1 + p.2 := ⟨_, rfl⟩
                have hz30 : z ≤ 30 := by omega
                have hzi : ((p.1 : Int) + (p.2 : Int)) = ((z : Nat) : Int) := by rw [hz]; simp
                rw [← hz] at HUN
                clear hz
                obtain ⟨t3, ht3⟩ : ∃ t3, su3 L x = t3 := ⟨_, rfl⟩
                have hT3 := HT3.out
                rw [ht3] at hT3
                clear HT3
                have hcs2 : nth (su2 L) x = false ∨ nth (su2 L) x = true := by cases nth (su2 L) x <;> simp
                rcases hcs2 with hs2 | hs2
                · rw [hs2] at cs
                  rw [hs2, Bool.false_and] at hT3
                  go_wp2_with fail
                  go_quiet (fail)
                  rename_i nq
                  obtain ⟨wq, hwq⟩ : ∃ wq, wq = wz.drewN nq := ⟨_, rfl⟩
                  have HQ9 : Hid (Ext wz wq) := Lib.hid (by rw [hwq]; exact (Ext.refl _).drewN _)
                  rw [← hwq]
                  replace cf := HQ9.out.cell cf
                  replace cs := HQ9.out.cell cs
                  replace l1 := Nat.lt_of_lt_of_le l1 HQ9.out.size
                  replace l2 := Nat.lt_of_lt_of_le l2 HQ9.out.size
                  have HWQ : Hid (Ext w wq) := Lib.hid (HL9.out.trans (HS9.out.trans HQ9.out))
                  clear hwq hc1 hd1 hb1
                  cases hs1 : nth (su1 L) x
                  · rw [hs1] at cf
                    have hsn : suN L x = 1 := by unfold suN; rw [hs2, hs1]; rfl
                    have htl := HTL.out
                    rw [hsn] at htl ⊢
                    obtain ⟨tb, to0, htb, htlt, ct0, -⟩ := (RTu.ext (HS9.out.trans HQ9.out) HTU.out).get (k := 0) (by rw [htl]; decide)
                    rw [Nat.zero_mul, Nat.add_zero, HT0.out, hs1] at ct0
                    subst htb
                    go_wp2_with fail
                    have HKS : Hid (∀ W, Ext wq W → W.cell? ⟨g1, x, none⟩ = some (.bool false) ∧ W.cell? ⟨g2, x, none⟩ = some (.bool false) ∧ W.cell? ⟨tb, to0, none⟩ = some (.bool false)) := Lib.hid fun W h => ⟨h.cell cf, h.cell cs, h.cell ct0⟩
                    refine wp_region_E 46 (fun W => W.cell? ⟨g1, x, none⟩ = some (.bool false) ∧ W.cell? ⟨g2, x, none⟩ = some (.bool false) ∧ W.cell? ⟨tb, to0, none⟩ = some (.bool false)) (by kernel_rfl) ?_
                    refine wpAnyE_take (i := 0) (v := ?_) (.here) (by kernel_rfl) (fun _ _ _ h => h) (HKS.out _ (Ext.refl _).drew) (by rfl) ?_ ?_
                    rotate_left
                    focus (intro w hSw; (try dsimp only at hSw); go_simp; try with_reducible rfl)
                    try simp only [Act.put, List.setIfInBounds_toArray, List.set_cons_zero, List.set_cons_succ]
                    refine wpAnyE_take (i := 1) (v := ?_) (.next (.here)) (by kernel_rfl) (fun _ _ _ h => h) (HKS.out _ (Ext.refl _).drew) (by rfl) ?_ ?_
                    rotate_left
                    focus (intro w hSw; (try dsimp only at hSw); go_simp; try with_reducible rfl)
                    try simp only [Act.put, List.setIfInBounds_toArray, List.set_cons_zero, List.set_cons_succ]
                    refine wpAnyE_take (i := 2) (v := ?_) (.next (.next (.here))) (by kernel_rfl) (fun _ _ _ h => h) (HKS.out _ (Ext.refl _).drew) (by rfl) ?_ ?_
                    rotate_left
                    focus (intro w hSw; (try dsimp only at hSw); go_simp; try with_reducible rfl)
                    try simp only [Act.put, List.setIfInBounds_toArray, List.set_cons_zero, List.set_cons_succ]
                    refine wpAnyE_take (i := 3) (v := ?_) (.next (.next (.next (.here)))) (by kernel_rfl) (fun _ _ _ h => h) (HKS.out _ (Ext.refl _).drew) (by rfl) ?_ ?_
                    rotate_left
                    focus (intro w hSw; (try dsimp only at hSw); go_simp; try with_reducible rfl)
                    try simp only [Act.put, List.setIfInBounds_toArray, List.set_cons_zero, List.set_cons_succ]
                    refine wpAnyE_take (i := 4) (v := ?_) (.next (.next (.next (.next (.here))))) (by kernel_rfl) (fun _ _ _ h => h) (HKS.out _ (Ext.refl _).drew) (by rfl) ?_ ?_
                    rotate_left
                    focus (intro w hSw; (try dsimp only at hSw); go_simp; try with_reducible rfl)
                    try simp only [Act.put, List.setIfInBounds_toArray, List.set_cons_zero, List.set_cons_succ]
                    refine wpAnyE_take (i := 5) (v := ?_) (.next (.next (.next (.next (.next (.here)))))) (by kernel_rfl) (fun _ _ _ h => h) (HKS.out _ (Ext.refl _).drew) (by rfl) ?_ ?_
                    rotate_left
                    focus (intro w hSw; (try dsimp only at hSw); go_simp; try with_reducible rfl)
                    try simp only [Act.put, List.setIfInBounds_toArray, List.set_cons_zero, List.set_cons_succ]
                    refine wpAnyE_take (i := 6) (v := ?_) (.next (.next (.next (.next (.next (.next (.here))))))) (by kernel_rfl) (fun _ _ _ h => h) (HKS.out _ (Ext.refl _).drew) (by rfl) ?_ ?_
                    rotate_left
                    focus (intro w hSw; (try dsimp only at hSw); go_simp; try with_reducible rfl)
                    try simp only [Act.put, List.setIfInBounds_toArray, List.set_cons_zero, List.set_cons_succ]
                    refine wpAnyE_take (i := 7) (v := ?_) (.next (.next (.next (.next (.next (.next (.next (.here)))))))) (by kernel_rfl) (fun _ _ _ h => h) (HKS.out _ (Ext.refl _).drew) (by rfl) ?_ ?_
                    rotate_left
                    focus (intro w hSw; (try dsimp only at hSw); go_simp; try with_reducible rfl)
                    try simp only [Act.put, List.setIfInBounds_toArray, List.set_cons_zero, List.set_cons_succ]
                    refine wpAnyE_take (i := 8) (v := ?_) (.next (.next (.next (.next (.next (.next (.next (.next (.here))))))))) (by kernel_rfl) (fun _ _ _ h => h) (HKS.out _ (Ext.refl _).drew) (by rfl) ?_ ?_
                    rotate_left
                    focus (intro w hSw; (try dsimp only at hSw); go_simp; try with_reducible rfl)
                    try simp only [Act.put, List.setIfInBounds_toArray, List.set_cons_zero, List.set_cons_succ]
                    refine wpAnyE_take (i := 9) (v := ?_) (.next (.next (.next (.next (.next (.next (.next (.next (.next (.here)))))))))) (by kernel_rfl) (fun _ _ _ h => h) (HKS.out _ (Ext.refl _).drew) (by rfl) ?_ ?_
                    rotate_left
                    focus (intro w hSw; (try dsimp only at hSw); go_simp; try with_reducible rfl)
                    try simp only [Act.put, List.setIfInBounds_toArray, List.set_cons_zero, List.set_cons_succ]
                    refine wpAnyE_take (i := 10) (v := ?_) (.next (.next (.next (.next (.next (.next (.next (.next (.next (.next (.here))))))))))) (by kernel_rfl) (fun _ _ _ h => h) (HKS.out _ (Ext.refl _).drew) (by rfl) ?_ ?_
                    rotate_left
                    focus (intro w hSw; (try dsimp only at hSw); go_simp; try with_reducible rfl)
                    try simp only [Act.put, List.setIfInBounds_toArray, List.set_cons_zero, List.set_cons_succ]
                    refine wpAnyE_take (i := 11) (v := ?_) (.next (.next (.next (.next (.next (.next (.next (.next (.next (.next (.next (.here)))))))))))) (by kernel_rfl) (fun _ _ _ h => h) (HKS.out _ (Ext.refl _).drew) (by rfl) ?_ ?_
                    rotate_left
                    focus (intro w hSw; (try dsimp only at hSw); go_simp; try with_reducible rfl)
                    try simp only [Act.put, List.setIfInBounds_toArray, List.set_cons_zero, List.set_cons_succ]
                    refine wpAnyE_take (i := 12) (v := ?_) (.next (.next (.next (.next (.next (.next (.next (.next (.next (.next (.next (.next (.here))))))))))))) (by kernel_rfl) (fun _ _ _ h => h) (HKS.out _ (Ext.refl _).drew) (by rfl) ?_ ?_
                    rotate_left
                    focus (intro w hSw; (try dsimp only at hSw); go_simp; try with_reducible rfl)
                    try simp only [Act.put, List.setIfInBounds_toArray, List.set_cons_zero, List.set_cons_succ]
                    refine wpAnyE_take (i := 13) (v := ?_) (.next (.next (.next (.next (.next (.next (.next (.next (.next (.next (.next (.next (.next (.here)))))))))))))) (by kernel_rfl) (fun _ _ _ h => h) (HKS.out _ (Ext.refl _).drew) (by rfl) ?_ ?_
                    rotate_left
                    focus (intro w hSw; (try dsimp only at hSw); go_simp; try with_reducible rfl)
                    try simp only [Act.put, List.setIfInBounds_toArray, List.set_cons_zero, List.set_cons_succ]
                    refine wpAnyE_take (i := 14) (v := ?_) (.next (.next (.next (.next (.next (.next (.next (.next (.next (.next (.next (.next (.next (.next (.here))))))))))))))) (by kernel_rfl) (fun _ _ _ h => h) (HKS.out _ (Ext.refl _).drew) (by rfl) ?_ ?_
                    rotate_left
                    focus (intro w hSw; (try dsimp only at hSw); go_simp; try with_reducible rfl)
                    try simp only [Act.put, List.setIfInBounds_toArray, List.set_cons_zero, List.set_cons_succ]
                    refine wpAnyE_take (i := 15) (v := ?_) (.next (.next (.next (.next (.next (.next (.next (.next (.next (.next (.next (.next (.next (.next (.next (.here)))))))))))))))) (by kernel_rfl) (fun _ _ _ h => h) (HKS.out _ (Ext.refl _).drew) (by rfl) ?_ ?_
                    rotate_left
                    focus (intro w hSw; (try dsimp only at hSw); go_simp; try with_reducible rfl)
                    try simp only [Act.put, List.setIfInBounds_toArray, List.set_cons_zero, List.set_cons_succ]
                    refine wpAnyE_take (i := 16) (v := ?_) (.next (.next (.next (.next (.next (.next (.next (.next (.next (.next (.next (.next (.next (.next (.next (.next (.here))))))))))))))))) (by kernel_rfl) (fun _ _ _ h => h) (HKS.out _ (Ext.refl _).drew) (by rfl) ?_ ?_
                    rotate_left
                    focus (intro w hSw; (try dsimp only at hSw); go_simp; try with_reducible rfl)
                    try simp only [Act.put, List.setIfInBounds_toArray, List.set_cons_zero, List.set_cons_succ]
                    refine wpAnyE_take (i := 17) (v := ?_) (.next (.next (.next (.next (.next (.next (.next (.next (.next (.next (.next (.next (.next (.next (.next (.next (.next (.here)))))))))))))))))) (by kernel_rfl) (fun _ _ _ h => h) (HKS.out _ (Ext.refl _).drew) (by rfl) ?_ ?_
                    rotate_left
                    focus (intro w hSw; (try dsimp only at hSw); go_simp; try with_reducible rfl)
                    try simp only [Act.put, List.setIfInBounds_toArray, List.set_cons_zero, List.set_cons_succ]
                    refine wpAnyE_take (i := 18) (v := ?_) (.next (.next (.next (.next (.next (.next (.next (.next (.next (.next (.next (.next (.next (.next (.next (.next (.next (.next (.here))))))))))))))))))) (by kernel_rfl) (fun _ _ _ h => h) (HKS.out _ (Ext.refl _).drew) (by rfl) ?_ ?_
                    rotate_left
                    focus (intro w hSw; (try dsimp only at hSw); go_simp; try with_reducible rfl)
                    try simp only [Act.put, List.setIfInBounds_toArray, List.set_cons_zero, List.set_cons_succ]
                    refine wpAnyE_skip (i := 19) (.next (.next (.next (.next (.next (.next (.next (.next (.next (.next (.next (.next (.next (.next (.next (.next (.next (.next (.next (.here)))))))))))))))))))) (by kernel_rfl) (fun _ _ _ h => h) (HKS.out _ (Ext.refl _).drew) (by rfl) ?_
                    try simp only [Act.put, List.setIfInBounds_toArray, List.set_cons_zero, List.set_cons_succ]
                    refine wpAnyE_skip (i := 20) (.next (.next (.next (.next (.next (.next (.next (.next (.next (.next (.next (.next (.next (.next (.next (.next (.next (.next (.next (.next (.here))))))))))))))))))))) (by kernel_rfl) (fun _ _ _ h => h) (HKS.out _ (Ext.refl _).drew) (by rfl) ?_
                    try simp only [Act.put, List.setIfInBounds_toArray, List.set_cons_zero, List.set_cons_succ]
                    refine wpAnyE_skip (i := 21) (.next (.next (.next (.next (.next (.next (.next (.next (.next (.next (.next (.next (.next (.next (.next (.next (.next (.next (.next (.next (.next (.here)))))))))))))))))))))) (by kernel_rfl) (fun _ _ _ h => h) (HKS.out _ (Ext.refl _).drew) (by rfl) ?_
                    try simp only [Act.put, List.setIfInBounds_toArray, List.set_cons_zero, List.set_cons_succ]
                    refine wpAnyE_skip (i := 22) (.next (.next (.next (.next (.next (.next (.next (.next (.next (.next (.next (.next (.next (.next (.next (.next (.next (.next (.next (.next (.next (.next (.here))))))))))))))))))))))) (by kernel_rfl) (fun _ _ _ h => h) (HKS.out _ (Ext.refl _).drew) (by rfl) ?_
                    try simp only [Act.put, List.setIfInBounds_toArray, List.set_cons_zero, List.set_cons_succ]
                    refine wpAnyE_skip (i := 23) (.next (.next (.next (.next (.next (.next (.next (.next (.next (.next (.next (.next (.next (.next (.next (.next (.next (.next (.next (.next (.next (.next (.next (.here)))))))))))))))))))))))) (by kernel_rfl) (fun _ _ _ h => h) (HKS.out _ (Ext.refl _).drew) (by rfl) ?_
                    try simp only [Act.put, List.setIfInBounds_toArray, List.set_cons_zero, List.set_cons_succ]
                    refine wpAnyE_skip (i := 24) (.next (.next (.next (.next (.next (.next (.next (.next (.next (.next (.next (.next (.next (.next (.next (.next (.next (.next (.next (.next (.next (.next (.next (.next (.here))))))))))))))))))))))))) (by kernel_rfl) (fun _ _ _ h => h) (HKS.out _ (Ext.refl _).drew) (by rfl) ?_
                    try simp only [Act.put, List.setIfInBounds_toArray, List.set_cons_zero, List.set_cons_succ]
                    refine wpAnyE_skip (i := 25) (.next (.next (.next (.next (.next (.next (.next (.next (.next (.next (.next (.next (.next (.next (.next (.next (.next (.next (.next (.next (.next (.next (.next (.next (.next (.here)))))))))))))))))))))))))) (by kernel_rfl) (fun _ _ _ h => h) (HKS.out _ (Ext.refl _).drew) (by rfl) ?_
                    try simp only [Act.put, List.setIfInBounds_toArray, List.set_cons_zero, List.set_cons_succ]
                    refine wpAnyE_skip (i := 26) (.next (.next (.next (.next (.next (.next (.next (.next (.next (.next (.next (.next (.next (.next (.next (.next (.next (.next (.next (.next (.next (.next (.next (.next (.next (.next (.here))))))))))))))))))))))))))) (by kernel_rfl) (fun _ _ _ h => h) (HKS.out _ (Ext.refl _).drew) (by rfl) ?_
                    try simp only [Act.put, List.setIfInBounds_toArray, List.set_cons_zero, List.set_cons_succ]
                    refine wpAnyE_skip (i := 27) (.next (.next (.next (.next (.next (.next (.next (.next (.next (.next (.next (.next (.next (.next (.next (.next (.next (.next (.next (.next (.next (.next (.next (.next (.next (.next (.next (.here)))))))))))))))))))))))))))) (by kernel_rfl) (fun _ _ _ h => h) (HKS.out _ (Ext.refl _).drew) (by rfl) ?_
                    try simp only [Act.put, List.setIfInBounds_toArray, List.set_cons_zero, List.set_cons_succ]
                    refine wpAnyE_take (i := 28) (v := ?_) (.next (.next (.next (.next (.next (.next (.next (.next (.next (.next (.next (.next (.next (.next (.next (.next (.next (.next (.next (.next (.next (.next (.next (.next (.next (.next (.next (.next (.here))))))))))))))))))))))))))))) (by kernel_rfl) (fun _ _ _ h => h) (HKS.out _ (Ext.refl _).drew) (by rfl) ?_ ?_
                    rotate_left
                    focus (intro w hSw; (try dsimp only at hSw); go_simp; try with_reducible rfl)
                    try simp only [Act.put, List.setIfInBounds_toArray, List.set_cons_zero, List.set_cons_succ]
                    refine wpAnyE_take (i := 29) (v := ?_) (.next (.next (.next (.next (.next (.next (.next (.next (.next (.next (.next (.next (.next (.next (.next (.next (.next (.next (.next (.next (.next (.next (.next (.next (.next (.next (.next (.next (.next (.here)))))))))))))))))))))))))))))) (by kernel_rfl) (fun _ _ _ h => h) (HKS.out _ (Ext.refl _).drew) (by rfl) ?_ ?_
                    rotate_left
                    focus (intro w hSw; (try dsimp only at hSw); go_simp; try with_reducible rfl)
                    try simp only [Act.put, List.setIfInBounds_toArray, List.set_cons_zero, List.set_cons_succ]
                    refine wpAnyE_take (i := 30) (v := ?_) (.next (.next (.next (.next (.next (.next (.next (.next (.next (.next (.next (.next (.next (.next (.next (.next (.next (.next (.next (.next (.next (.next (.next (.next (.next (.next (.next (.next (.next (.next (.here))))))))))))))))))))))))))))))) (by kernel_rfl) (fun _ _ _ h => h) (HKS.out _ (Ext.refl _).drew) (by rfl) ?_ ?_
                    rotate_left
                    focus (intro w hSw; (try dsimp only at hSw); go_simp; try with_reducible rfl)
                    try simp only [Act.put, List.setIfInBounds_toArray, List.set_cons_zero, List.set_cons_succ]
                    refine wpAnyE_take (i := 31) (v := ?_) (.next (.next (.next (.next (.next (.next (.next (.next (.next (.next (.next (.next (.next (.next (.next (.next (.next (.next (.next (.next (.next (.next (.next (.next (.next (.next (.next (.next (.next (.next (.next (.here)))))))))))))))))))))))))))))))) (by kernel_rfl) (fun _ _ _ h => h) (HKS.out _ (Ext.refl _).drew) (by rfl) ?_ ?_
                    rotate_left
                    focus (intro w hSw; (try dsimp only at hSw); go_simp; try with_reducible rfl)
                    try simp only [Act.put, List.setIfInBounds_toArray, List.set_cons_zero, List.set_cons_succ]
                    refine wpAnyE_take (i := 32) (v := ?_) (.next (.next (.next (.next (.next (.next (.next (.next (.next (.next (.next (.next (.next (.next (.next (.next (.next (.next (.next (.next (.next (.next (.next (.next (.next (.next (.next (.next (.next (.next (.next (.next (.here))))))))))))))))))))))))))))))))) (by kernel_rfl) (fun _ _ _ h => h) (HKS.out _ (Ext.refl _).drew) (by rfl) ?_ ?_
                    rotate_left
                    focus (intro w hSw; (try dsimp only at hSw); go_simp; try with_reducible rfl)
                    try simp only [Act.put, List.setIfInBounds_toArray, List.set_cons_zero, List.set_cons_succ]
                    refine wpAnyE_take (i := 33) (v := ?_) (.next (.next (.next (.next (.next (.next (.next (.next (.next (.next (.next (.next (.next (.next (.next (.next (.next (.next (.next (.next (.next (.next (.next (.next (.next (.next (.next (.next (.next (.next (.next (.next (.next (.here)))))))))))))))))))))))))))))))))) (by kernel_rfl) (fun _ _ _ h => h) (HKS.out _ (Ext.refl _).drew) (by rfl) ?_ ?_
                    rotate_left
                    focus (intro w hSw; (try dsimp only at hSw); go_simp; try with_reducible rfl)
                    try simp only [Act.put, List.setIfInBounds_toArray, List.set_cons_zero, List.set_cons_succ]
                    refine wpAnyE_skip (i := 34) (.next (.next (.next (.next (.next (.next (.next (.next (.next (.next (.next (.next (.next (.next (.next (.next (.next (.next (.next (.next (.next (.next (.next (.next (.next (.next (.next (.next (.next (.next (.next (.next (.next (.next (.here))))))))))))))))))))))))))))))))))) (by kernel_rfl) (fun _ _ _ h => h) (HKS.out _ (Ext.refl _).drew) (by rfl) ?_
                    try simp only [Act.put, List.setIfInBounds_toArray, List.set_cons_zero, List.set_cons_succ]
                    refine wpAnyE_skip (i := 35) (.next (.next (.next (.next (.next (.next (.next (.next (.next (.next (.next (.next (.next (.next (.next (.next (.next (.next (.next (.next (.next (.next (.next (.next (.next (.next (.next (.next (.next (.next (.next (.next (.next (.next (.next (.here)))))))))))))))))))))))))))))))))))) (by kernel_rfl) (fun _ _ _ h => h) (HKS.out _ (Ext.refl _).drew) (by rfl) ?_
                    try simp only [Act.put, List.setIfInBounds_toArray, List.set_cons_zero, List.set_cons_succ]
                    refine wpAnyE_skip (i := 36) (.next (.next (.next (.next (.next (.next (.next (.next (.next (.next (.next (.next (.next (.next (.next (.next (.next (.next (.next (.next (.next (.next (.next (.next (.next (.next (.next (.next (.next (.next (.next (.next (.next (.next (.next (.next (.here))))))))))))))))))))))))))))))))))))) (by kernel_rfl) (fun _ _ _ h => h) (HKS.out _ (Ext.refl _).drew) (by rfl) ?_
                    try simp only [Act.put, List.setIfInBounds_toArray, List.set_cons_zero, List.set_cons_succ]
                    refine wpAnyE_skip (i := 37) (.next (.next (.next (.next (.next (.next (.next (.next (.next (.next (.next (.next (.next (.next (.next (.next (.next (.next (.next (.next (.next (.next (.next (.next (.next (.next (.next (.next (.next (.next (.next (.next (.next (.next (.next (.next (.next (.here)))))))))))))))))))))))))))))))))))))) (by kernel_rfl) (fun _ _ _ h => h) (HKS.out _ (Ext.refl _).drew) (by rfl) ?_
                    try simp only [Act.put, List.setIfInBounds_toArray, List.set_cons_zero, List.set_cons_succ]
                    refine wpAnyE_skip (i := 38) (.next (.next (.next (.next (.next (.next (.next (.next (.next (.next (.next (.next (.next (.next (.next (.next (.next (.next (.next (.next (.next (.next (.next (.next (.next (.next (.next (.next (.next (.next (.next (.next (.next (.next (.next (.next (.next (.next (.here))))))))))))))))))))))))))))))))))))))) (by kernel_rfl) (fun _ _ _ h => h) (HKS.out _ (Ext.refl _).drew) (by rfl) ?_
                    try simp only [Act.put, List.setIfInBounds_toArray, List.set_cons_zero, List.set_cons_succ]
                    refine wpAnyE_skip (i := 39) (.next (.next (.next (.next (.next (.next (.next (.next (.next (.next (.next (.next (.next (.next (.next (.next (.next (.next (.next (.next (.next (.next (.next (.next (.next (.next (.next (.next (.next (.next (.next (.next (.next (.next (.next (.next (.next (.next (.next (.here)))))))))))))))))))))))))))))))))))))))) (by kernel_rfl) (fun _ _ _ h => h) (HKS.out _ (Ext.refl _).drew) (by rfl) ?_
                    try simp only [Act.put, List.setIfInBounds_toArray, List.set_cons_zero, List.set_cons_succ]
                    refine wpAnyE_take (i := 40) (v := ?_) (.next (.next (.next (.next (.next (.next (.next (.next (.next (.next (.next (.next (.next (.next (.next (.next (.next (.next (.next (.next (.next (.next (.next (.next (.next (.next (.next (.next (.next (.next (.next (.next (.next (.next (.next (.next (.next (.next (.next (.next (.here))))))))))))))))))))))))))))))))))))))))) (by kernel_rfl) (fun _ _ _ h => h) (HKS.out _ (Ext.refl _).drew) (by rfl) ?_ ?_
                    rotate_left
                    focus (intro w hSw; (try dsimp only at hSw); go_simp; try with_reducible rfl)
                    try simp only [Act.put, List.setIfInBounds_toArray, List.set_cons_zero, List.set_cons_succ]
                    refine wpAnyE_take (i := 41) (v := ?_) (.next (.next (.next (.next (.next (.next (.next (.next (.next (.next (.next (.next (.next (.next (.next (.next (.next (.next (.next (.next (.next (.next (.next (.next (.next (.next (.next (.next (.next (.next (.next (.next (.next (.next (.next (.next (.next (.next (.next (.next (.next (.here)))))))))))))))))))))))))))))))))))))))))) (by kernel_rfl) (fun _ _ _ h => h) (HKS.out _ (Ext.refl _).drew) (by rfl) ?_ ?_
                    rotate_left
                    focus (intro w hSw; (try dsimp only at hSw); go_simp; try with_reducible rfl)
                    try simp only [Act.put, List.setIfInBounds_toArray, List.set_cons_zero, List.set_cons_succ]
                    refine wpAnyE_take (i := 42) (v := ?_) (.next (.next (.next (.next (.next (.next (.next (.next (.next (.next (.next (.next (.next (.next (.next (.next (.next (.next (.next (.next (.next (.next (.next (.next (.next (.next (.next (.next (.next (.next (.next (.next (.next (.next (.next (.next (.next (.next (.next (.next (.next (.next (.here))))))))))))))))))))))))))))))))))))))))))) (by kernel_rfl) (fun _ _ _ h => h) (HKS.out _ (Ext.refl _).drew) (by rfl) ?_ ?_
                    rotate_left
                    focus (intro w hSw; (try dsimp only at hSw); go_simp; try with_reducible rfl)
                    try simp only [Act.put, List.setIfInBounds_toArray, List.set_cons_zero, List.set_cons_succ]
                    refine wpAnyE_one (k := 43) (.next (.next (.next (.next (.next (.next (.next (.next (.next (.next (.next (.next (.next (.next (.next (.next (.next (.next (.next (.next (.next (.next (.next (.next (.next (.next (.next (.next (.next (.next (.next (.next (.next (.next (.next (.next (.next (.next (.next (.next (.next (.next (.next (.here)))))))))))))))))))))))))))))))))))))))))))) (by kernel_rfl) (fun K hK => ?_)
                    go_simp
                    refine (awake32_any _ (HT.out.ext (HWQ.out.drew))).mono ?_; rintro _ wf ⟨rfl, hEf⟩; dsimp only
                    refine hK.out _ _ (fun _ => HKS.out _ ((Ext.refl _).drew.trans hEf)) ?_
                    clear hK
                    try simp only [Act.put, List.setIfInBounds_toArray, List.set_cons_zero, List.set_cons_succ]
                    refine wpAnyE_take (i := 44) (v := ?_) (.next (.next (.next (.next (.next (.next (.next (.next (.next (.next (.next (.next (.next (.next (.next (.next (.next (.next (.next (.next (.next (.next (.next (.next (.next (.next (.next (.next (.next (.next (.next (.next (.next (.next (.next (.next (.next (.next (.next (.next (.next (.next (.next (.next (.here))))))))))))))))))))))))))))))))))))))))))))) (by kernel_rfl) (fun _ _ _ h => h) (HKS.out _ ((Ext.refl _).drew.trans hEf)) (by rfl) ?_ ?_
                    rotate_left
                    focus (intro w hSw; (try dsimp only at hSw); go_simp; try with_reducible rfl)
                    try simp only [Act.put, List.setIfInBounds_toArray, List.set_cons_zero, List.set_cons_succ]
                    refine wpAnyE_one (k := 45) (.next (.next (.next (.next (.next (.next (.next (.next (.next (.next (.next (.next (.next (.next (.next (.next (.next (.next (.next (.next (.next (.next (.next (.next (.next (.next (.next (.next (.next (.next (.next (.next (.next (.next (.next (.next (.next (.next (.next (.next (.next (.next (.next (.next (.next (.here)))))))))))))))))))))))))))))))))))))))))))))) (by kernel_rfl) (fun K hK => ?_)
                    go_simp
                    refine hK.out _ _ (fun _ => HKS.out _ ((Ext.refl _).drew.trans hEf)) ?_
                    clear hK
                    try simp only [Act.put, List.setIfInBounds_toArray, List.set_cons_zero, List.set_cons_succ]
                    refine wpAnyE_seq [] (.nil) (by kernel_rfl) (by kernel_rfl) ?_
                    go_wp2_with fail
                    go_ret
                    exact ⟨rfl, HWQ.out.drew.trans hEf⟩
                  · rw [hs1] at cf
                    have hsn : suN L x = 2 := by unfold suN; rw [hs2, hs1]; rfl
                    have htl := HTL.out
                    rw [hsn] at htl ⊢
                    obtain ⟨tb, to0, htb, htlt, ct0, -⟩ := (RTu.ext (HS9.out.trans HQ9.out) HTU.out).get (k := 0) (by rw [htl]; decide)
                    rw [Nat.zero_mul, Nat.add_zero, HT0.out, hs1] at ct0
                    obtain ⟨tb1, to1, htb1, -, ct1, -⟩ := (RTu.ext (HS9.out.trans HQ9.out) HTU.out).get (k := 1) (by rw [htl]; decide)
                    rw [htb] at htb1
                    simp only [Option.some.injEq, Addr.mk.injEq] at htb1
                    obtain ⟨rfl, rfl, -⟩ := htb1
                    have ht1 := HT1.out
                    rw [hsn] at ht1
                    replace ht1 := ht1.resolve_left (by decide)
                    rw [ht1, hs2] at ct1
                    replace ct1 : wq.cell? ⟨tb, to0 + 2, none⟩ = _ := ct1
                    subst htb
                    go_wp2_with fail
                    have HKS : Hid (∀ W, Ext wq W → W.cell? ⟨g1, x, none⟩ = some (.bool true) ∧ W.cell? ⟨g2, x, none⟩ = some (.bool false) ∧ W.cell? ⟨tb, to0, none⟩ = some (.bool true) ∧ W.cell? ⟨tb, to0 + 2, none⟩ = some (.bool false)) := Lib.hid fun W h => ⟨h.cell cf, h.cell cs, h.cell ct0, h.cell ct1⟩
                    refine wp_region_E 46 (fun W => W.cell? ⟨g1, x, none⟩ = some (.bool true) ∧ W.cell? ⟨g2, x, none⟩ = some (.bool false) ∧ W.cell? ⟨tb, to0, none⟩ = some (.bool true) ∧ W.cell? ⟨tb, to0 + 2, none⟩ = some (.bool false)) (by kernel_rfl) ?_
                    refine wpAnyE_take (i := 0) (v := ?_) (.here) (by kernel_rfl) (fun _ _ _ h => h) (HKS.out _ (Ext.refl _).drew) (by rfl) ?_ ?_
                    rotate_left
                    focus (intro w hSw; (try dsimp only at hSw); go_simp; try with_reducible rfl)
                    try simp only [Act.put, List.setIfInBounds_toArray, List.set_cons_zero, List.set_cons_succ]
                    refine wpAnyE_take (i := 1) (v := ?_) (.next (.here)) (by kernel_rfl) (fun _ _ _ h => h) (HKS.out _ (Ext.refl _).drew) (by rfl) ?_ ?_
                    rotate_left
                    focus (intro w hSw; (try dsimp only at hSw); go_simp; try with_reducible rfl)
                    try simp only [Act.put, List.setIfInBounds_toArray, List.set_cons_zero, List.set_cons_succ]
                    refine wpAnyE_take (i := 2) (v := ?_) (.next (.next (.here))) (by kernel_rfl) (fun _ _ _ h => h) (HKS.out _ (Ext.refl _).drew) (by rfl) ?_ ?_
                    rotate_left
                    focus (intro w hSw; (try dsimp only at hSw); go_simp; try with_reducible rfl)
                    try simp only [Act.put, List.setIfInBounds_toArray, List.set_cons_zero, List.set_cons_succ]
                    refine wpAnyE_take (i := 3) (v := ?_) (.next (.next (.next (.here)))) (by kernel_rfl) (fun _ _ _ h => h) (HKS.out _ (Ext.refl _).drew) (by rfl) ?_ ?_
                    rotate_left
                    focus (intro w hSw; (try dsimp only at hSw); go_simp; try with_reducible rfl)
                    try simp only [Act.put, List.setIfInBounds_toArray, List.set_cons_zero, List.set_cons_succ]
                    refine wpAnyE_take (i := 4) (v := ?_) (.next (.next (.next (.next (.here))))) (by kernel_rfl) (fun _ _ _ h => h) (HKS.out _ (Ext.refl _).drew) (by rfl) ?_ ?_
                    rotate_left
                    focus (intro w hSw; (try dsimp only at hSw); go_simp; try with_reducible rfl)
                    try simp only [Act.put, List.setIfInBounds_toArray, List.set_cons_zero, List.set_cons_succ]
                    refine wpAnyE_take (i := 5) (v := ?_) (.next (.next (.next (.next (.next (.here)))))) (by kernel_rfl) (fun _ _ _ h => h) (HKS.out _ (Ext.refl _).drew) (by rfl) ?_ ?_
                    rotate_left
                    focus (intro w hSw; (try dsimp only at hSw); go_simp; try with_reducible rfl)
                    try simp only [Act.put, List.setIfInBounds_toArray, List.set_cons_zero, List.set_cons_succ]
                    refine wpAnyE_take (i := 6) (v := ?_) (.next (.next (.next (.next (.next (.next (.here))))))) (by kernel_rfl) (fun _ _ _ h => h) (HKS.out _ (Ext.refl _).drew) (by rfl) ?_ ?_
                    rotate_left
                    focus (intro w hSw; (try dsimp only at hSw); go_simp; try with_reducible rfl)
                    try simp only [Act.put, List.setIfInBounds_toArray, List.set_cons_zero, List.set_cons_succ]
                    refine wpAnyE_take (i := 7) (v := ?_) (.next (.next (.next (.next (.next (.next (.next (.here)))))))) (by kernel_rfl) (fun _ _ _ h => h) (HKS.out _ (Ext.refl _).drew) (by rfl) ?_ ?_
                    rotate_left
                    focus (intro w hSw; (try dsimp only at hSw); go_simp; try with_reducible rfl)
                    try simp only [Act.put, List.setIfInBounds_toArray, List.set_cons_zero, List.set_cons_succ]
                    refine wpAnyE_take (i := 8) (v := ?_) (.next (.next (.next (.next (.next (.next (.next (.next (.here))))))))) (by kernel_rfl) (fun _ _ _ h => h) (HKS.out _ (Ext.refl _).drew) (by rfl) ?_ ?_
                    rotate_left
                    focus (intro w hSw; (try dsimp only at hSw); go_simp; try with_reducible rfl)
                    try simp only [Act.put, List.setIfInBounds_toArray, List.set_cons_zero, List.set_cons_succ]
                    refine wpAnyE_take (i := 9) (v := ?_) (.next (.next (.next (.next (.next (.next (.next (.next (.next (.here)))))))))) (by kernel_rfl) (fun _ _ _ h => h) (HKS.out _ (Ext.refl _).drew) (by rfl) ?_ ?_
                    rotate_left
                    focus (intro w hSw; (try dsimp only at hSw); go_simp; try with_reducible rfl)
                    try simp only [Act.put, List.setIfInBounds_toArray, List.set_cons_zero, List.set_cons_succ]
                    refine wpAnyE_take (i := 10) (v := ?_) (.next (.next (.next (.next (.next (.next (.next (.next (.next (.next (.here))))))))))) (by kernel_rfl) (fun _ _ _ h => h) (HKS.out _ (Ext.refl _).drew) (by rfl) ?_ ?_
                    rotate_left
                    focus (intro w hSw; (try dsimp only at hSw); go_simp; try with_reducible rfl)
                    try simp only [Act.put, List.setIfInBounds_toArray, List.set_cons_zero, List.set_cons_succ]
                    refine wpAnyE_take (i := 11) (v := ?_) (.next (.next (.next (.next (.next (.next (.next (.next (.next (.next (.next (.here)))))))))))) (by kernel_rfl) (fun _ _ _ h => h) (HKS.out _ (Ext.refl _).drew) (by rfl) ?_ ?_
                    rotate_left
                    focus (intro w hSw; (try dsimp only at hSw); go_simp; try with_reducible rfl)
                    try simp only [Act.put, List.setIfInBounds_toArray, List.set_cons_zero, List.set_cons_succ]
                    refine wpAnyE_take (i := 12) (v := ?_) (.next (.next (.next (.next (.next (.next (.next (.next (.next (.next (.next (.next (.here))))))))))))) (by kernel_rfl) (fun _ _ _ h => h) (HKS.out _ (Ext.refl _).drew) (by rfl) ?_ ?_
                    rotate_left
                    focus (intro w hSw; (try dsimp only at hSw); go_simp; try with_reducible rfl)
                    try simp only [Act.put, List.setIfInBounds_toArray, List.set_cons_zero, List.set_cons_succ]
                    refine wpAnyE_take (i := 13) (v := ?_) (.next (.next (.next (.next (.next (.next (.next (.next (.next (.next (.next (.next (.next (.here)))))))))))))) (by kernel_rfl) (fun _ _ _ h => h) (HKS.out _ (Ext.refl _).drew) (by rfl) ?_ ?_
                    rotate_left
                    focus (intro w hSw; (try dsimp only at hSw); go_simp; try with_reducible rfl)
                    try simp only [Act.put, List.setIfInBounds_toArray, List.set_cons_zero, List.set_cons_succ]
                    refine wpAnyE_take (i := 14) (v := ?_) (.next (.next (.next (.next (.next (.next (.next (.next (.next (.next (.next (.next (.next (.next (.here))))))))))))))) (by kernel_rfl) (fun _ _ _ h => h) (HKS.out _ (Ext.refl _).drew) (by rfl) ?_ ?_
                    rotate_left
                    focus (intro w hSw; (try dsimp only at hSw); go_simp; try with_reducible rfl)
                    try simp only [Act.put, List.setIfInBounds_toArray, List.set_cons_zero, List.set_cons_succ]
                    refine wpAnyE_take (i := 15) (v := ?_) (.next (.next (.next (.next (.next (.next (.next (.next (.next (.next (.next (.next (.next (.next (.next (.here)))))))))))))))) (by kernel_rfl) (fun _ _ _ h => h) (HKS.out _ (Ext.refl _).drew) (by rfl) ?_ ?_
                    rotate_left
                    focus (intro w hSw; (try dsimp only at hSw); go_simp; try with_reducible rfl)
                    try simp only [Act.put, List.setIfInBounds_toArray, List.set_cons_zero, List.set_cons_succ]
                    refine wpAnyE_take (i := 16) (v := ?_) (.next (.next (.next (.next (.next (.next (.next (.next (.next (.next (.next (.next (.next (.next (.next (.next (.here))))))))))))))))) (by kernel_rfl) (fun _ _ _ h => h) (HKS.out _ (Ext.refl _).drew) (by rfl) ?_ ?_
                    rotate_left
                    focus (intro w hSw; (try dsimp only at hSw); go_simp; try with_reducible rfl)
                    try simp only [Act.put, List.setIfInBounds_toArray, List.set_cons_zero, List.set_cons_succ]
                    refine wpAnyE_take (i := 17) (v := ?_) (.next (.next (.next (.next (.next (.next (.next (.next (.next (.next (.next (.next (.next (.next (.next (.next (.next (.here)))))))))))))))))) (by kernel_rfl) (fun _ _ _ h => h) (HKS.out _ (Ext.refl _).drew) (by rfl) ?_ ?_
                    rotate_left
                    focus (intro w hSw; (try dsimp only at hSw); go_simp; try with_reducible rfl)
                    try simp only [Act.put, List.setIfInBounds_toArray, List.set_cons_zero, List.set_cons_succ]
                    refine wpAnyE_take (i := 18) (v := ?_) (.next (.next (.next (.next (.next (.next (.next (.next (.next (.next (.next (.next (.next (.next (.next (.next (.next (.next (.here))))))))))))))))))) (by kernel_rfl) (fun _ _ _ h => h) (HKS.out _ (Ext.refl _).drew) (by rfl) ?_ ?_
                    rotate_left
                    focus (intro w hSw; (try dsimp only at hSw); go_simp; try with_reducible rfl)
                    try simp only [Act.put, List.setIfInBounds_toArray, List.set_cons_zero, List.set_cons_succ]
                    refine wpAnyE_take (i := 19) (v := ?_) (.next (.next (.next (.next (.next (.next (.next (.next (.next (.next (.next (.next (.next (.next (.next (.next (.next (.next (.next (.here)))))))))))))))))))) (by kernel_rfl) (fun _ _ _ h => h) (HKS.out _ (Ext.refl _).drew) (by rfl) ?_ ?_
                    rotate_left
                    focus (intro w hSw; (try dsimp only at hSw); go_simp; try with_reducible rfl)
                    try simp only [Act.put, List.setIfInBounds_toArray, List.set_cons_zero, List.set_cons_succ]
                    refine wpAnyE_take (i := 20) (v := ?_) (.next (.next (.next (.next (.next (.next (.next (.next (.next (.next (.next (.next (.next (.next (.next (.next (.next (.next (.next (.next (.here))))))))))))))))))))) (by kernel_rfl) (fun _ _ _ h => h) (HKS.out _ (Ext.refl _).drew) (by rfl) ?_ ?_
                    rotate_left
                    focus (intro w hSw; (try dsimp only at hSw); go_simp; try with_reducible rfl)
                    try simp only [Act.put, List.setIfInBounds_toArray, List.set_cons_zero, List.set_cons_succ]
                    refine wpAnyE_take (i := 21) (v := ?_) (.next (.next (.next (.next (.next (.next (.next (.next (.next (.next (.next (.next (.next (.next (.next (.next (.next (.next (.next (.next (.next (.here)))))))))))))))))))))) (by kernel_rfl) (fun _ _ _ h => h) (HKS.out _ (Ext.refl _).drew) (by rfl) ?_ ?_
                    rotate_left
                    focus (intro w hSw; (try dsimp only at hSw); go_simp; try with_reducible rfl)
                    try simp only [Act.put, List.setIfInBounds_toArray, List.set_cons_zero, List.set_cons_succ]
                    refine wpAnyE_take (i := 22) (v := ?_) (.next (.next (.next (.next (.next (.next (.next (.next (.next (.next (.next (.next (.next (.next (.next (.next (.next (.next (.next (.next (.next (.next (.here))))))))))))))))))))))) (by kernel_rfl) (fun _ _ _ h => h) (HKS.out _ (Ext.refl _).drew) (by rfl) ?_ ?_
                    rotate_left
                    focus (intro w hSw; (try dsimp only at hSw); go_simp; try with_reducible rfl)
                    try simp only [Act.put, List.setIfInBounds_toArray, List.set_cons_zero, List.set_cons_succ]
                    refine wpAnyE_take (i := 23) (v := ?_) (.next (.next (.next (.next (.next (.next (.next (.next (.next (.next (.next (.next (.next (.next (.next (.next (.next (.next (.next (.next (.next (.next (.next (.here)))))))))))))))))))))))) (by kernel_rfl) (fun _ _ _ h => h) (HKS.out _ (Ext.refl _).drew) (by rfl) ?_ ?_
                    rotate_left
                    focus (intro w hSw; (try dsimp only at hSw); go_simp; try with_reducible rfl)
                    try simp only [Act.put, List.setIfInBounds_toArray, List.set_cons_zero, List.set_cons_succ]
                    refine wpAnyE_take (i := 24) (v := ?_) (.next (.next (.next (.next (.next (.next (.next (.next (.next (.next (.next (.next (.next (.next (.next (.next (.next (.next (.next (.next (.next (.next (.next (.next (.here))))))))))))))))))))))))) (by kernel_rfl) (fun _ _ _ h => h) (HKS.out _ (Ext.refl _).drew) (by rfl) ?_ ?_
                    rotate_left
                    focus (intro w hSw; (try dsimp only at hSw); go_simp; try with_reducible rfl)
                    try simp only [Act.put, List.setIfInBounds_toArray, List.set_cons_zero, List.set_cons_succ]
                    refine wpAnyE_take (i := 25) (v := ?_) (.next (.next (.next (.next (.next (.next (.next (.next (.next (.next (.next (.next (.next (.next (.next (.next (.next (.next (.next (.next (.next (.next (.next (.next (.next (.here)))))))))))))))))))))))))) (by kernel_rfl) (fun _ _ _ h => h) (HKS.out _ (Ext.refl _).drew) (by rfl) ?_ ?_
                    rotate_left
                    focus (intro w hSw; (try dsimp only at hSw); go_simp; try with_reducible rfl)
                    try simp only [Act.put, List.setIfInBounds_toArray, List.set_cons_zero, List.set_cons_succ]
                    refine wpAnyE_take (i := 26) (v := ?_) (.next (.next (.next (.next (.next (.next (.next (.next (.next (.next (.next (.next (.next (.next (.next (.next (.next (.next (.next (.next (.next (.next (.next (.next (.next (.next (.here))))))))))))))))))))))))))) (by kernel_rfl) (fun _ _ _ h => h) (HKS.out _ (Ext.refl _).drew) (by rfl) ?_ ?_
                    rotate_left
                    focus (intro w hSw; (try dsimp only at hSw); go_simp; try with_reducible rfl)
                    try simp only [Act.put, List.setIfInBounds_toArray, List.set_cons_zero, List.set_cons_succ]
                    refine wpAnyE_take (i := 27) (v := ?_) (.next (.next (.next (.next (.next (.next (.next (.next (.next (.next (.next (.next (.next (.next (.next (.next (.next (.next (.next (.next (.next (.next (.next (.next (.next (.next (.next (.here)))))))))))))))))))))))))))) (by kernel_rfl) (fun _ _ _ h => h) (HKS.out _ (Ext.refl _).drew) (by rfl) ?_ ?_
                    rotate_left
                    focus (intro w hSw; (try dsimp only at hSw); go_simp; try with_reducible rfl)
                    try simp only [Act.put, List.setIfInBounds_toArray, List.set_cons_zero, List.set_cons_succ]
                    refine wpAnyE_take (i := 28) (v := ?_) (.next (.next (.next (.next (.next (.next (.next (.next (.next (.next (.next (.next (.next (.next (.next (.next (.next (.next (.next (.next (.next (.next (.next (.next (.next (.next (.next (.next (.here))))))))))))))))))))))))))))) (by kernel_rfl) (fun _ _ _ h => h) (HKS.out _ (Ext.refl _).drew) (by rfl) ?_ ?_
                    rotate_left
                    focus (intro w hSw; (try dsimp only at hSw); go_simp; try with_reducible rfl)
                    try simp only [Act.put, List.setIfInBounds_toArray, List.set_cons_zero, List.set_cons_succ]
                    refine wpAnyE_take (i := 29) (v := ?_) (.next (.next (.next (.next (.next (.next (.next (.next (.next (.next (.next (.next (.next (.next (.next (.next (.next (.next (.next (.next (.next (.next (.next (.next (.next (.next (.next (.next (.next (.here)))))))))))))))))))))))))))))) (by kernel_rfl) (fun _ _ _ h => h) (HKS.out _ (Ext.refl _).drew) (by rfl) ?_ ?_
                    rotate_left
                    focus (intro w hSw; (try dsimp only at hSw); go_simp; try with_reducible rfl)
                    try simp only [Act.put, List.setIfInBounds_toArray, List.set_cons_zero, List.set_cons_succ]
                    refine wpAnyE_take (i := 30) (v := ?_) (.next (.next (.next (.next (.next (.next (.next (.next (.next (.next (.next (.next (.next (.next (.next (.next (.next (.next (.next (.next (.next (.next (.next (.next (.next (.next (.next (.next (.next (.next (.here))))))))))))))))))))))))))))))) (by kernel_rfl) (fun _ _ _ h => h) (HKS.out _ (Ext.refl _).drew) (by rfl) ?_ ?_
                    rotate_left
                    focus (intro w hSw; (try dsimp only at hSw); go_simp; try with_reducible rfl)
                    try simp only [Act.put, List.setIfInBounds_toArray, List.set_cons_zero, List.set_cons_succ]
                    refine wpAnyE_take (i := 31) (v := ?_) (.next (.next (.next (.next (.next (.next (.next (.next (.next (.next (.next (.next (.next (.next (.next (.next (.next (.next (.next (.next (.next (.next (.next (.next (.next (.next (.next (.next (.next (.next (.next (.here)))))))))))))))))))))))))))))))) (by kernel_rfl) (fun _ _ _ h => h) (HKS.out _ (Ext.refl _).drew) (by rfl) ?_ ?_
                    rotate_left
                    focus (intro w hSw; (try dsimp only at hSw); go_simp; try with_reducible rfl)
                    try simp only [Act.put, List.setIfInBounds_toArray, List.set_cons_zero, List.set_cons_succ]
                    refine wpAnyE_take (i := 32) (v := ?_) (.next (.next (.next (.next (.next (.next (.next (.next (.next (.next (.next (.next (.next (.next (.next (.next (.next (.next (.next (.next (.next (.next (.next (.next (.next (.next (.next (.next (.next (.next (.next (.next (.here))))))))))))))))))))))))))))))))) (by kernel_rfl) (fun _ _ _ h => h) (HKS.out _ (Ext.refl _).drew) (by rfl) ?_ ?_
                    rotate_left
                    focus (intro w hSw; (try dsimp only at hSw); go_simp; try with_reducible rfl)
                    try simp only [Act.put, List.setIfInBounds_toArray, List.set_cons_zero, List.set_cons_succ]
                    refine wpAnyE_take (i := 33) (v := ?_) (.next (.next (.next (.next (.next (.next (.next (.next (.next (.next (.next (.next (.next (.next (.next (.next (.next (.next (.next (.next (.next (.next (.next (.next (.next (.next (.next (.next (.next (.next (.next (.next (.next (.here)))))))))))))))))))))))))))))))))) (by kernel_rfl) (fun _ _ _ h => h) (HKS.out _ (Ext.refl _).drew) (by rfl) ?_ ?_
                    rotate_left
                    focus (intro w hSw; (try dsimp only at hSw); go_simp; try with_reducible rfl)
                    try simp only [Act.put, List.setIfInBounds_toArray, List.set_cons_zero, List.set_cons_succ]
                    refine wpAnyE_skip (i := 34) (.next (.next (.next (.next (.next (.next (.next (.next (.next (.next (.next (.next (.next (.next (.next (.next (.next (.next (.next (.next (.next (.next (.next (.next (.next (.next (.next (.next (.next (.next (.next (.next (.next (.next (.here))))))))))))))))))))))))))))))))))) (by kernel_rfl) (fun _ _ _ h => h) (HKS.out _ (Ext.refl _).drew) (by rfl) ?_
                    try simp only [Act.put, List.setIfInBounds_toArray, List.set_cons_zero, List.set_cons_succ]
                    refine wpAnyE_skip (i := 35) (.next (.next (.next (.next (.next (.next (.next (.next (.next (.next (.next (.next (.next (.next (.next (.next (.next (.next (.next (.next (.next (.next (.next (.next (.next (.next (.next (.next (.next (.next (.next (.next (.next (.next (.next (.here)))))))))))))))))))))))))))))))))))) (by kernel_rfl) (fun _ _ _ h => h) (HKS.out _ (Ext.refl _).drew) (by rfl) ?_
                    try simp only [Act.put, List.setIfInBounds_toArray, List.set_cons_zero, List.set_cons_succ]
                    refine wpAnyE_skip (i := 36) (.next (.next (.next (.next (.next (.next (.next (.next (.next (.next (.next (.next (.next (.next (.next (.next (.next (.next (.next (.next (.next (.next (.next (.next (.next (.next (.next (.next (.next (.next (.next (.next (.next (.next (.next (.next (.here))))))))))))))))))))))))))))))))))))) (by kernel_rfl) (fun _ _ _ h => h) (HKS.out _ (Ext.refl _).drew) (by rfl) ?_
                    try simp only [Act.put, List.setIfInBounds_toArray, List.set_cons_zero, List.set_cons_succ]
                    refine wpAnyE_skip (i := 37) (.next (.next (.next (.next (.next (.next (.next (.next (.next (.next (.next (.next (.next (.next (.next (.next (.next (.next (.next (.next (.next (.next (.next (.next (.next (.next (.next (.next (.next (.next (.next (.next (.next (.next (.next (.next (.next (.here)))))))))))))))))))))))))))))))))))))) (by kernel_rfl) (fun _ _ _ h => h) (HKS.out _ (Ext.refl _).drew) (by rfl) ?_
                    try simp only [Act.put, List.setIfInBounds_toArray, List.set_cons_zero, List.set_cons_succ]
                    refine wpAnyE_skip (i := 38) (.next (.next (.next (.next (.next (.next (.next (.next (.next (.next (.next (.next (.next (.next (.next (.next (.next (.next (.next (.next (.next (.next (.next (.next (.next (.next (.next (.next (.next (.next (.next (.next (.next (.next (.next (.next (.next (.next (.here))))))))))))))))))))))))))))))))))))))) (by kernel_rfl) (fun _ _ _ h => h) (HKS.out _ (Ext.refl _).drew) (by rfl) ?_
                    try simp only [Act.put, List.setIfInBounds_toArray, List.set_cons_zero, List.set_cons_succ]
                    refine wpAnyE_skip (i := 39) (.next (.next (.next (.next (.next (.next (.next (.next (.next (.next (.next (.next (.next (.next (.next (.next (.next (.next (.next (.next (.next (.next (.next (.next (.next (.next (.next (.next (.next (.next (.next (.next (.next (.next (.next (.next (.next (.next (.next (.here)))))))))))))))))))))))))))))))))))))))) (by kernel_rfl) (fun _ _ _ h => h) (HKS.out _ (Ext.refl _).drew) (by rfl) ?_
                    try simp only [Act.put, List.setIfInBounds_toArray, List.set_cons_zero, List.set_cons_succ]
                    refine wpAnyE_take (i := 40) (v := ?_) (.next (.next (.next (.next (.next (.next (.next (.next (.next (.next (.next (.next (.next (.next (.next (.next (.next (.next (.next (.next (.next (.next (.next (.next (.next (.next (.next (.next (.next (.next (.next (.next (.next (.next (.next (.next (.next (.next (.next (.next (.here))))))))))))))))))))))))))))))))))))))))) (by kernel_rfl) (fun _ _ _ h => h) (HKS.out _ (Ext.refl _).drew) (by rfl) ?_ ?_
                    rotate_left
                    focus (intro w hSw; (try dsimp only at hSw); go_simp; try with_reducible rfl)
                    try simp only [Act.put, List.setIfInBounds_toArray, List.set_cons_zero, List.set_cons_succ]
                    refine wpAnyE_take (i := 41) (v := ?_) (.next (.next (.next (.next (.next (.next (.next (.next (.next (.next (.next (.next (.next (.next (.next (.next (.next (.next (.next (.next (.next (.next (.next (.next (.next (.next (.next (.next (.next (.next (.next (.next (.next (.next (.next (.next (.next (.next (.next (.next (.next (.here)))))))))))))))))))))))))))))))))))))))))) (by kernel_rfl) (fun _ _ _ h => h) (HKS.out _ (Ext.refl _).drew) (by rfl) ?_ ?_
                    rotate_left
                    focus (intro w hSw; (try dsimp only at hSw); go_simp; try with_reducible rfl)
                    try simp only [Act.put, List.setIfInBounds_toArray, List.set_cons_zero, List.set_cons_succ]
                    refine wpAnyE_take (i := 42) (v := ?_) (.next (.next (.next (.next (.next (.next (.next (.next (.next (.next (.next (.next (.next (.next (.next (.next (.next (.next (.next (.next (.next (.next (.next (.next (.next (.next (.next (.next (.next (.next (.next (.next (.next (.next (.next (.next (.next (.next (.next (.next (.next (.next (.here))))))))))))))))))))))))))))))))))))))))))) (by kernel_rfl) (fun _ _ _ h => h) (HKS.out _ (Ext.refl _).drew) (by rfl) ?_ ?_
                    rotate_left
                    focus (intro w hSw; (try dsimp only at hSw); go_simp; try with_reducible rfl)
                    try simp only [Act.put, List.setIfInBounds_toArray, List.set_cons_zero, List.set_cons_succ]
                    refine wpAnyE_one (k := 43) (.next (.next (.next (.next (.next (.next (.next (.next (.next (.next (.next (.next (.next (.next (.next (.next (.next (.next (.next (.next (.next (.next (.next (.next (.next (.next (.next (.next (.next (.next (.next (.next (.next (.next (.next (.next (.next (.next (.next (.next (.next (.next (.next (.here)))))))))))))))))))))))))))))))))))))))))))) (by kernel_rfl) (fun K hK => ?_)
                    go_simp
                    refine (awake32_any _ (HT.out.ext (HWQ.out.drew))).mono ?_; rintro _ wf ⟨rfl, hEf⟩; dsimp only
                    refine hK.out _ _ (fun _ => HKS.out _ ((Ext.refl _).drew.trans hEf)) ?_
                    clear hK
                    try simp only [Act.put, List.setIfInBounds_toArray, List.set_cons_zero, List.set_cons_succ]
                    refine wpAnyE_take (i := 44) (v := ?_) (.next (.next (.next (.next (.next (.next (.next (.next (.next (.next (.next (.next (.next (.next (.next (.next (.next (.next (.next (.next (.next (.next (.next (.next (.next (.next (.next (.next (.next (.next (.next (.next (.next (.next (.next (.next (.next (.next (.next (.next (.next (.next (.next (.next (.here))))))))))))))))))))))))))))))))))))))))))))) (by kernel_rfl) (fun _ _ _ h => h) (HKS.out _ ((Ext.refl _).drew.trans hEf)) (by rfl) ?_ ?_
                    rotate_left
                    focus (intro w hSw; (try dsimp only at hSw); go_simp; try with_reducible rfl)
                    try simp only [Act.put, List.setIfInBounds_toArray, List.set_cons_zero, List.set_cons_succ]
                    refine wpAnyE_one (k := 45) (.next (.next (.next (.next (.next (.next (.next (.next (.next (.next (.next (.next (.next (.next (.next (.next (.next (.next (.next (.next (.next (.next (.next (.next (.next (.next (.next (.next (.next (.next (.next (.next (.next (.next (.next (.next (.next (.next (.next (.next (.next (.next (.next (.next (.next (.here)))))))))))))))))))))))))))))))))))))))))))))) (by kernel_rfl) (fun K hK => ?_)
                    go_simp
                    refine hK.out _ _ (fun _ => HKS.out _ ((Ext.refl _).drew.trans hEf)) ?_
                    clear hK
                    try simp only [Act.put, List.setIfInBounds_toArray, List.set_cons_zero, List.set_cons_succ]
                    refine wpAnyE_seq [] (.nil) (by kernel_rfl) (by kernel_rfl) ?_
                    go_wp2_with fail
                    go_ret
                    exact ⟨rfl, HWQ.out.drew.trans hEf⟩
                · have hs1 := hs21 hs2
                  rw [hs2] at cs
                  rw [hs1] at cf
                  rw [hs2, Bool.true_and] at hT3
                  have hui : (((u : Nat) : Int) == 1) = t3 := by rw [hT3, Bool.eq_iff_iff]; simp; omega
                  go_wp2_with fail
                  go_quiet ((go_at_call 37; exact Calls.quiet_of (HUN.out _ (by first | exact (Ext.refl _).drewN _ | exact Ext.refl _ | exact (Ext.refl _).drew))))
                  rename_i nq
                  obtain ⟨wq, hwq⟩ : ∃ wq, wq = wz.drewN nq := ⟨_, rfl⟩
                  have HQ9 : Hid (Ext wz wq) := Lib.hid (by rw [hwq]; exact (Ext.refl _).drewN _)
                  rw [← hwq]
                  replace cf := HQ9.out.cell cf
                  replace cs := HQ9.out.cell cs
                  replace l1 := Nat.lt_of_lt_of_le l1 HQ9.out.size
                  replace l2 := Nat.lt_of_lt_of_le l2 HQ9.out.size
                  have HWQ : Hid (Ext w wq) := Lib.hid (HL9.out.trans (HS9.out.trans HQ9.out))
                  clear hwq hc1 hd1 hb1
                  have hsn : suN L x = 3 := by unfold suN; rw [hs2, hs1]; rfl
                  have htl := HTL.out
                  rw [hsn] at htl ⊢
                  obtain ⟨tb, to0, htb, htlt, ct0, -⟩ := (RTu.ext (HS9.out.trans HQ9.out) HTU.out).get (k := 0) (by rw [htl]; decide)
                  rw [Nat.zero_mul, Nat.add_zero, HT0.out, hs1] at ct0
                  obtain ⟨tb1, to1, htb1, -, ct1, -⟩ := (RTu.ext (HS9.out.trans HQ9.out) HTU.out).get (k := 1) (by rw [htl]; decide)
                  rw [htb] at htb1
                  simp only [Option.some.injEq, Addr.mk.injEq] at htb1
                  obtain ⟨rfl, rfl, -⟩ := htb1
                  have ht1 := HT1.out
                  rw [hsn] at ht1
                  replace ht1 := ht1.resolve_left (by decide)
                  rw [ht1, hs2] at ct1
                  replace ct1 : wq.cell? ⟨tb, to0 + 2, none⟩ = _ := ct1
                  obtain ⟨tb2, to2, htb2, -, ct2, -⟩ := (RTu.ext (HS9.out.trans HQ9.out) HTU.out).get (k := 2) (by rw [htl]; decide)
                  rw [htb] at htb2
                  simp only [Option.some.injEq, Addr.mk.injEq] at htb2
                  obtain ⟨rfl, rfl, -⟩ := htb2
                  have ht2 := HT2.out
                  rw [hsn] at ht2
                  replace ht2 := ht2.resolve_left (by decide)
                  rw [ht2, ht3] at ct2
                  replace ct2 : wq.cell? ⟨tb, to0 + 4, none⟩ = _ := ct2
                  subst htb
                  go_wp2_with fail
                  have HKS : Hid (∀ W, Ext wq W → W.cell? ⟨g1, x, none⟩ = some (.bool true) ∧ W.cell? ⟨g2, x, none⟩ = some (.bool true) ∧ W.cell? ⟨tb, to0, none⟩ = some (.bool true) ∧ W.cell? ⟨tb, to0 + 2, none⟩ = some (.bool true) ∧ W.cell? ⟨tb, to0 + 4, none⟩ = some (.bool t3)) := Lib.hid fun W h => ⟨h.cell cf, h.cell cs, h.cell ct0, h.cell ct1, h.cell ct2⟩
                  refine wp_region_E 46 (fun W => W.cell? ⟨g1, x, none⟩ = some (.bool true) ∧ W.cell? ⟨g2, x, none⟩ = some (.bool true) ∧ W.cell? ⟨tb, to0, none⟩ = some (.bool true) ∧ W.cell? ⟨tb, to0 + 2, none⟩ = some (.bool true) ∧ W.cell? ⟨tb, to0 + 4, none⟩ = some (.bool t3)) (by kernel_rfl) ?_
                  refine wpAnyE_take (i := 0) (v := ?_) (.here) (by kernel_rfl) (fun _ _ _ h => h) (HKS.out _ (Ext.refl _).drew) (by rfl) ?_ ?_
                  rotate_left
                  focus (intro w hSw; (try dsimp only at hSw); go_simp; try with_reducible rfl)
                  try simp only [Act.put, List.setIfInBounds_toArray, List.set_cons_zero, List.set_cons_succ]
                  refine wpAnyE_take (i := 1) (v := ?_) (.next (.here)) (by kernel_rfl) (fun _ _ _ h => h) (HKS.out _ (Ext.refl _).drew) (by rfl) ?_ ?_
                  rotate_left
                  focus (intro w hSw; (try dsimp only at hSw); go_simp; try with_reducible rfl)
                  try simp only [Act.put, List.setIfInBounds_toArray, List.set_cons_zero, List.set_cons_succ]
                  refine wpAnyE_take (i := 2) (v := ?_) (.next (.next (.here))) (by kernel_rfl) (fun _ _ _ h => h) (HKS.out _ (Ext.refl _).drew) (by rfl) ?_ ?_
                  rotate_left
                  focus (intro w hSw; (try dsimp only at hSw); go_simp; try with_reducible rfl)
                  try simp only [Act.put, List.setIfInBounds_toArray, List.set_cons_zero, List.set_cons_succ]
                  refine wpAnyE_take (i := 3) (v := ?_) (.next (.next (.next (.here)))) (by kernel_rfl) (fun _ _ _ h => h) (HKS.out _ (Ext.refl _).drew) (by rfl) ?_ ?_
                  rotate_left
                  focus (intro w hSw; (try dsimp only at hSw); go_simp; try with_reducible rfl)
                  try simp only [Act.put, List.setIfInBounds_toArray, List.set_cons_zero, List.set_cons_succ]
                  refine wpAnyE_take (i := 4) (v := ?_) (.next (.next (.next (.next (.here))))) (by kernel_rfl) (fun _ _ _ h => h) (HKS.out _ (Ext.refl _).drew) (by rfl) ?_ ?_
                  rotate_left
                  focus (intro w hSw; (try dsimp only at hSw); go_simp; try with_reducible rfl)
                  try simp only [Act.put, List.setIfInBounds_toArray, List.set_cons_zero, List.set_cons_succ]
                  refine wpAnyE_take (i := 5) (v := ?_) (.next (.next (.next (.next (.next (.here)))))) (by kernel_rfl) (fun _ _ _ h => h) (HKS.out _ (Ext.refl _).drew) (by rfl) ?_ ?_
                  rotate_left
                  focus (intro w hSw; (try dsimp only at hSw); go_simp; try with_reducible rfl)
                  try simp only [Act.put, List.setIfInBounds_toArray, List.set_cons_zero, List.set_cons_succ]
                  refine wpAnyE_take (i := 6) (v := ?_) (.next (.next (.next (.next (.next (.next (.here))))))) (by kernel_rfl) (fun _ _ _ h => h) (HKS.out _ (Ext.refl _).drew) (by rfl) ?_ ?_
                  rotate_left
                  focus (intro w hSw; (try dsimp only at hSw); go_simp; try with_reducible rfl)
                  try simp only [Act.put, List.setIfInBounds_toArray, List.set_cons_zero, List.set_cons_succ]
                  refine wpAnyE_take (i := 7) (v := ?_) (.next (.next (.next (.next (.next (.next (.next (.here)))))))) (by kernel_rfl) (fun _ _ _ h => h) (HKS.out _ (Ext.refl _).drew) (by rfl) ?_ ?_
                  rotate_left
                  focus (intro w hSw; (try dsimp only at hSw); go_simp; try with_reducible rfl)
                  try simp only [Act.put, List.setIfInBounds_toArray, List.set_cons_zero, List.set_cons_succ]
                  refine wpAnyE_take (i := 8) (v := ?_) (.next (.next (.next (.next (.next (.next (.next (.next (.here))))))))) (by kernel_rfl) (fun _ _ _ h => h) (HKS.out _ (Ext.refl _).drew) (by rfl) ?_ ?_
                  rotate_left
                  focus (intro w hSw; (try dsimp only at hSw); go_simp; try with_reducible rfl)
                  try simp only [Act.put, List.setIfInBounds_toArray, List.set_cons_zero, List.set_cons_succ]
                  refine wpAnyE_take (i := 9) (v := ?_) (.next (.next (.next (.next (.next (.next (.next (.next (.next (.here)))))))))) (by kernel_rfl) (fun _ _ _ h => h) (HKS.out _ (Ext.refl _).drew) (by rfl) ?_ ?_
                  rotate_left
                  focus (intro w hSw; (try dsimp only at hSw); go_simp; try with_reducible rfl)
                  try simp only [Act.put, List.setIfInBounds_toArray, List.set_cons_zero, List.set_cons_succ]
                  refine wpAnyE_take (i := 10) (v := ?_) (.next (.next (.next (.next (.next (.next (.next (.next (.next (.next (.here))))))))))) (by kernel_rfl) (fun _ _ _ h => h) (HKS.out _ (Ext.refl _).drew) (by rfl) ?_ ?_
                  rotate_left
                  focus (intro w hSw; (try dsimp only at hSw); go_simp; try with_reducible rfl)
                  try simp only [Act.put, List.setIfInBounds_toArray, List.set_cons_zero, List.set_cons_succ]
                  refine wpAnyE_take (i := 11) (v := ?_) (.next (.next (.next (.next (.next (.next (.next (.next (.next (.next (.next (.here)))))))))))) (by kernel_rfl) (fun _ _ _ h => h) (HKS.out _ (Ext.refl _).drew) (by rfl) ?_ ?_
                  rotate_left
                  focus (intro w hSw; (try dsimp only at hSw); go_simp; try with_reducible rfl)
                  try simp only [Act.put, List.setIfInBounds_toArray, List.set_cons_zero, List.set_cons_succ]
                  refine wpAnyE_take (i := 12) (v := ?_) (.next (.next (.next (.next (.next (.next (.next (.next (.next (.next (.next (.next (.here))))))))))))) (by kernel_rfl) (fun _ _ _ h => h) (HKS.out _ (Ext.refl _).drew) (by rfl) ?_ ?_
                  rotate_left
                  focus (intro w hSw; (try dsimp only at hSw); go_simp; try with_reducible rfl)
                  try simp only [Act.put, List.setIfInBounds_toArray, List.set_cons_zero, List.set_cons_succ]
                  refine wpAnyE_take (i := 13) (v := ?_) (.next (.next (.next (.next (.next (.next (.next (.next (.next (.next (.next (.next (.next (.here)))))))))))))) (by kernel_rfl) (fun _ _ _ h => h) (HKS.out _ (Ext.refl _).drew) (by rfl) ?_ ?_
                  rotate_left
                  focus (intro w hSw; (try dsimp only at hSw); go_simp; try with_reducible rfl)
                  try simp only [Act.put, List.setIfInBounds_toArray, List.set_cons_zero, List.set_cons_succ]
                  refine wpAnyE_take (i := 14) (v := ?_) (.next (.next (.next (.next (.next (.next (.next (.next (.next (.next (.next (.next (.next (.next (.here))))))))))))))) (by kernel_rfl) (fun _ _ _ h => h) (HKS.out _ (Ext.refl _).drew) (by rfl) ?_ ?_
                  rotate_left
                  focus (intro w hSw; (try dsimp only at hSw); go_simp; try with_reducible rfl)
                  try simp only [Act.put, List.setIfInBounds_toArray, List.set_cons_zero, List.set_cons_succ]
                  refine wpAnyE_take (i := 15) (v := ?_) (.next (.next (.next (.next (.next (.next (.next (.next (.next (.next (.next (.next (.next (.next (.next (.here)))))))))))))))) (by kernel_rfl) (fun _ _ _ h => h) (HKS.out _ (Ext.refl _).drew) (by rfl) ?_ ?_
                  rotate_left
                  focus (intro w hSw; (try dsimp only at hSw); go_simp; try with_reducible rfl)
                  try simp only [Act.put, List.setIfInBounds_toArray, List.set_cons_zero, List.set_cons_succ]
                  refine wpAnyE_take (i := 16) (v := ?_) (.next (.next (.next (.next (.next (.next (.next (.next (.next (.next (.next (.next (.next (.next (.next (.next (.here))))))))))))))))) (by kernel_rfl) (fun _ _ _ h => h) (HKS.out _ (Ext.refl _).drew) (by rfl) ?_ ?_
                  rotate_left
                  focus (intro w hSw; (try dsimp only at hSw); go_simp; try with_reducible rfl)
                  try simp only [Act.put, List.setIfInBounds_toArray, List.set_cons_zero, List.set_cons_succ]
                  refine wpAnyE_take (i := 17) (v := ?_) (.next (.next (.next (.next (.next (.next (.next (.next (.next (.next (.next (.next (.next (.next (.next (.next (.next (.here)))))))))))))))))) (by kernel_rfl) (fun _ _ _ h => h) (HKS.out _ (Ext.refl _).drew) (by rfl) ?_ ?_
                  rotate_left
                  focus (intro w hSw; (try dsimp only at hSw); go_simp; try with_reducible rfl)
                  try simp only [Act.put, List.setIfInBounds_toArray, List.set_cons_zero, List.set_cons_succ]
                  refine wpAnyE_take (i := 18) (v := ?_) (.next (.next (.next (.next (.next (.next (.next (.next (.next (.next (.next (.next (.next (.next (.next (.next (.next (.next (.here))))))))))))))))))) (by kernel_rfl) (fun _ _ _ h => h) (HKS.out _ (Ext.refl _).drew) (by rfl) ?_ ?_
                  rotate_left
                  focus (intro w hSw; (try dsimp only at hSw); go_simp; try with_reducible rfl)
                  try simp only [Act.put, List.setIfInBounds_toArray, List.set_cons_zero, List.set_cons_succ]
                  refine wpAnyE_take (i := 19) (v := ?_) (.next (.next (.next (.next (.next (.next (.next (.next (.next (.next (.next (.next (.next (.next (.next (.next (.next (.next (.next (.here)))))))))))))))))))) (by kernel_rfl) (fun _ _ _ h => h) (HKS.out _ (Ext.refl _).drew) (by rfl) ?_ ?_
                  rotate_left
                  focus (intro w hSw; (try dsimp only at hSw); go_simp; try with_reducible rfl)
                  try simp only [Act.put, List.setIfInBounds_toArray, List.set_cons_zero, List.set_cons_succ]
                  refine wpAnyE_take (i := 20) (v := ?_) (.next (.next (.next (.next (.next (.next (.next (.next (.next (.next (.next (.next (.next (.next (.next (.next (.next (.next (.next (.next (.here))))))))))))))))))))) (by kernel_rfl) (fun _ _ _ h => h) (HKS.out _ (Ext.refl _).drew) (by rfl) ?_ ?_
                  rotate_left
                  focus (intro w hSw; (try dsimp only at hSw); go_simp; try with_reducible rfl)
                  try simp only [Act.put, List.setIfInBounds_toArray, List.set_cons_zero, List.set_cons_succ]
                  refine wpAnyE_take (i := 21) (v := ?_) (.next (.next (.next (.next (.next (.next (.next (.next (.next (.next (.next (.next (.next (.next (.next (.next (.next (.next (.next (.next (.next (.here)))))))))))))))))))))) (by kernel_rfl) (fun _ _ _ h => h) (HKS.out _ (Ext.refl _).drew) (by rfl) ?_ ?_
                  rotate_left
                  focus (intro w hSw; (try dsimp only at hSw); go_simp; try with_reducible rfl)
                  try simp only [Act.put, List.setIfInBounds_toArray, List.set_cons_zero, List.set_cons_succ]
                  refine wpAnyE_take (i := 22) (v := ?_) (.next (.next (.next (.next (.next (.next (.next (.next (.next (.next (.next (.next (.next (.next (.next (.next (.next (.next (.next (.next (.next (.next (.here))))))))))))))))))))))) (by kernel_rfl) (fun _ _ _ h => h) (HKS.out _ (Ext.refl _).drew) (by rfl) ?_ ?_
                  rotate_left
                  focus (intro w hSw; (try dsimp only at hSw); go_simp; try with_reducible rfl)
                  try simp only [Act.put, List.setIfInBounds_toArray, List.set_cons_zero, List.set_cons_succ]
                  refine wpAnyE_take (i := 23) (v := ?_) (.next (.next (.next (.next (.next (.next (.next (.next (.next (.next (.next (.next (.next (.next (.next (.next (.next (.next (.next (.next (.next (.next (.next (.here)))))))))))))))))))))))) (by kernel_rfl) (fun _ _ _ h => h) (HKS.out _ (Ext.refl _).drew) (by rfl) ?_ ?_
                  rotate_left
                  focus (intro w hSw; (try dsimp only at hSw); go_simp; try with_reducible rfl)
                  try simp only [Act.put, List.setIfInBounds_toArray, List.set_cons_zero, List.set_cons_succ]
                  refine wpAnyE_take (i := 24) (v := ?_) (.next (.next (.next (.next (.next (.next (.next (.next (.next (.next (.next (.next (.next (.next (.next (.next (.next (.next (.next (.next (.next (.next (.next (.next (.here))))))))))))))))))))))))) (by kernel_rfl) (fun _ _ _ h => h) (HKS.out _ (Ext.refl _).drew) (by rfl) ?_ ?_
                  rotate_left
                  focus (intro w hSw; (try dsimp only at hSw); go_simp; try with_reducible rfl)
                  try simp only [Act.put, List.setIfInBounds_toArray, List.set_cons_zero, List.set_cons_succ]
                  refine wpAnyE_take (i := 25) (v := ?_) (.next (.next (.next (.next (.next (.next (.next (.next (.next (.next (.next (.next (.next (.next (.next (.next (.next (.next (.next (.next (.next (.next (.next (.next (.next (.here)))))))))))))))))))))))))) (by kernel_rfl) (fun _ _ _ h => h) (HKS.out _ (Ext.refl _).drew) (by rfl) ?_ ?_
                  rotate_left
                  focus (intro w hSw; (try dsimp only at hSw); go_simp; try with_reducible rfl)
                  try simp only [Act.put, List.setIfInBounds_toArray, List.set_cons_zero, List.set_cons_succ]
                  refine wpAnyE_take (i := 26) (v := ?_) (.next (.next (.next (.next (.next (.next (.next (.next (.next (.next (.next (.next (.next (.next (.next (.next (.next (.next (.next (.next (.next (.next (.next (.next (.next (.next (.here))))))))))))))))))))))))))) (by kernel_rfl) (fun _ _ _ h => h) (HKS.out _ (Ext.refl _).drew) (by rfl) ?_ ?_
                  rotate_left
                  focus (intro w hSw; (try dsimp only at hSw); go_simp; try with_reducible rfl)
                  try simp only [Act.put, List.setIfInBounds_toArray, List.set_cons_zero, List.set_cons_succ]
                  refine wpAnyE_take (i := 27) (v := ?_) (.next (.next (.next (.next (.next (.next (.next (.next (.next (.next (.next (.next (.next (.next (.next (.next (.next (.next (.next (.next (.next (.next (.next (.next (.next (.next (.next (.here)))))))))))))))))))))))))))) (by kernel_rfl) (fun _ _ _ h => h) (HKS.out _ (Ext.refl _).drew) (by rfl) ?_ ?_
                  rotate_left
                  focus (intro w hSw; (try dsimp only at hSw); go_simp; try with_reducible rfl)
                  try simp only [Act.put, List.setIfInBounds_toArray, List.set_cons_zero, List.set_cons_succ]
                  refine wpAnyE_take (i := 28) (v := ?_) (.next (.next (.next (.next (.next (.next (.next (.next (.next (.next (.next (.next (.next (.next (.next (.next (.next (.next (.next (.next (.next (.next (.next (.next (.next (.next (.next (.next (.here))))))))))))))))))))))))))))) (by kernel_rfl) (fun _ _ _ h => h) (HKS.out _ (Ext.refl _).drew) (by rfl) ?_ ?_
                  rotate_left
                  focus (intro w hSw; (try dsimp only at hSw); go_simp; try with_reducible rfl)
                  try simp only [Act.put, List.setIfInBounds_toArray, List.set_cons_zero, List.set_cons_succ]
                  refine wpAnyE_take (i := 29) (v := ?_) (.next (.next (.next (.next (.next (.next (.next (.next (.next (.next (.next (.next (.next (.next (.next (.next (.next (.next (.next (.next (.next (.next (.next (.next (.next (.next (.next (.next (.next (.here)))))))))))))))))))))))))))))) (by kernel_rfl) (fun _ _ _ h => h) (HKS.out _ (Ext.refl _).drew) (by rfl) ?_ ?_
                  rotate_left
                  focus (intro w hSw; (try dsimp only at hSw); go_simp; try with_reducible rfl)
                  try simp only [Act.put, List.setIfInBounds_toArray, List.set_cons_zero, List.set_cons_succ]
                  refine wpAnyE_take (i := 30) (v := ?_) (.next (.next (.next (.next (.next (.next (.next (.next (.next (.next (.next (.next (.next (.next (.next (.next (.next (.next (.next (.next (.next (.next (.next (.next (.next (.next (.next (.next (.next (.next (.here))))))))))))))))))))))))))))))) (by kernel_rfl) (fun _ _ _ h => h) (HKS.out _ (Ext.refl _).drew) (by rfl) ?_ ?_
                  rotate_left
                  focus (intro w hSw; (try dsimp only at hSw); go_simp; try with_reducible rfl)
                  try simp only [Act.put, List.setIfInBounds_toArray, List.set_cons_zero, List.set_cons_succ]
                  refine wpAnyE_take (i := 31) (v := ?_) (.next (.next (.next (.next (.next (.next (.next (.next (.next (.next (.next (.next (.next (.next (.next (.next (.next (.next (.next (.next (.next (.next (.next (.next (.next (.next (.next (.next (.next (.next (.next (.here)))))))))))))))))))))))))))))))) (by kernel_rfl) (fun _ _ _ h => h) (HKS.out _ (Ext.refl _).drew) (by rfl) ?_ ?_
                  rotate_left
                  focus (intro w hSw; (try dsimp only at hSw); go_simp; try with_reducible rfl)
                  try simp only [Act.put, List.setIfInBounds_toArray, List.set_cons_zero, List.set_cons_succ]
                  refine wpAnyE_take (i := 32) (v := ?_) (.next (.next (.next (.next (.next (.next (.next (.next (.next (.next (.next (.next (.next (.next (.next (.next (.next (.next (.next (.next (.next (.next (.next (.next (.next (.next (.next (.next (.next (.next (.next (.next (.here))))))))))))))))))))))))))))))))) (by kernel_rfl) (fun _ _ _ h => h) (HKS.out _ (Ext.refl _).drew) (by rfl) ?_ ?_
                  rotate_left
                  focus (intro w hSw; (try dsimp only at hSw); go_simp; try with_reducible rfl)
                  try simp only [Act.put, List.setIfInBounds_toArray, List.set_cons_zero, List.set_cons_succ]
                  refine wpAnyE_take (i := 33) (v := ?_) (.next (.next (.next (.next (.next (.next (.next (.next (.next (.next (.next (.next (.next (.next (.next (.next (.next (.next (.next (.next (.next (.next (.next (.next (.next (.next (.next (.next (.next (.next (.next (.next (.next (.here)))))))))))))))))))))))))))))))))) (by kernel_rfl) (fun _ _ _ h => h) (HKS.out _ (Ext.refl _).drew) (by rfl) ?_ ?_
                  rotate_left
                  focus (intro w hSw; (try dsimp only at hSw); go_simp; try with_reducible rfl)
                  try simp only [Act.put, List.setIfInBounds_toArray, List.set_cons_zero, List.set_cons_succ]
                  refine wpAnyE_take (i := 34) (v := ?_) (.next (.next (.next (.next (.next (.next (.next (.next (.next (.next (.next (.next (.next (.next (.next (.next (.next (.next (.next (.next (.next (.next (.next (.next (.next (.next (.next (.next (.next (.next (.next (.next (.next (.next (.here))))))))))))))))))))))))))))))))))) (by kernel_rfl) (fun _ _ _ h => h) (HKS.out _ (Ext.refl _).drew) (by rfl) ?_ ?_
                  rotate_left
                  focus (intro w hSw; (try dsimp only at hSw); go_simp; try with_reducible rfl)
                  try simp only [Act.put, List.setIfInBounds_toArray, List.set_cons_zero, List.set_cons_succ]
                  refine wpAnyE_take (i := 35) (v := ?_) (.next (.next (.next (.next (.next (.next (.next (.next (.next (.next (.next (.next (.next (.next (.next (.next (.next (.next (.next (.next (.next (.next (.next (.next (.next (.next (.next (.next (.next (.next (.next (.next (.next (.next (.next (.here)))))))))))))))))))))))))))))))))))) (by kernel_rfl) (fun _ _ _ h => h) (HKS.out _ (Ext.refl _).drew) (by rfl) ?_ ?_
                  rotate_left
                  focus (intro w hSw; (try dsimp only at hSw); go_simp; try with_reducible rfl)
                  try simp only [Act.put, List.setIfInBounds_toArray, List.set_cons_zero, List.set_cons_succ]
                  refine wpAnyE_take (i := 36) (v := ?_) (.next (.next (.next (.next (.next (.next (.next (.next (.next (.next (.next (.next (.next (.next (.next (.next (.next (.next (.next (.next (.next (.next (.next (.next (.next (.next (.next (.next (.next (.next (.next (.next (.next (.next (.next (.next (.here))))))))))))))))))))))))))))))))))))) (by kernel_rfl) (fun _ _ _ h => h) (HKS.out _ (Ext.refl _).drew) (by rfl) ?_ ?_
                  rotate_left
                  focus (intro w hSw; (try dsimp only at hSw); go_simp; try with_reducible rfl)
                  try simp only [Act.put, List.setIfInBounds_toArray, List.set_cons_zero, List.set_cons_succ]
                  refine wpAnyE_take (i := 37) (v := ?_) (.next (.next (.next (.next (.next (.next (.next (.next (.next (.next (.next (.next (.next (.next (.next (.next (.next (.next (.next (.next (.next (.next (.next (.next (.next (.next (.next (.next (.next (.next (.next (.next (.next (.next (.next (.next (.next (.here)))))))))))))))))))))))))))))))))))))) (by kernel_rfl) (fun _ _ _ h => h) (HKS.out _ (Ext.refl _).drew) (by rfl) ?_ ?_
                  rotate_left
                  focus (intro w hSw; (try dsimp only at hSw); go_simp; try with_reducible rfl)
                  try simp only [Act.put, List.setIfInBounds_toArray, List.set_cons_zero, List.set_cons_succ]
                  refine wpAnyE_take (i := 38) (v := ?_) (.next (.next (.next (.next (.next (.next (.next (.next (.next (.next (.next (.next (.next (.next (.next (.next (.next (.next (.next (.next (.next (.next (.next (.next (.next (.next (.next (.next (.next (.next (.next (.next (.next (.next (.next (.next (.next (.next (.here))))))))))))))))))))))))))))))))))))))) (by kernel_rfl) (fun _ _ _ h => h) (HKS.out _ (Ext.refl _).drew) (by rfl) ?_ ?_
                  rotate_left
                  focus (intro w hSw; (try dsimp only at hSw); go_simp; try with_reducible rfl)
                  try simp only [Act.put, List.setIfInBounds_toArray, List.set_cons_zero, List.set_cons_succ]
                  refine wpAnyE_take (i := 39) (v := ?_) (.next (.next (.next (.next (.next (.next (.next (.next (.next (.next (.next (.next (.next (.next (.next (.next (.next (.next (.next (.next (.next (.next (.next (.next (.next (.next (.next (.next (.next (.next (.next (.next (.next (.next (.next (.next (.next (.next (.next (.here)))))))))))))))))))))))))))))))))))))))) (by kernel_rfl) (fun _ _ _ h => h) (HKS.out _ (Ext.refl _).drew) (by rfl) ?_ ?_
                  rotate_left
                  focus (intro w hSw; (try dsimp only at hSw); go_simp; try with_reducible rfl)
                  try simp only [Act.put, List.setIfInBounds_toArray, List.set_cons_zero, List.set_cons_succ]
                  refine wpAnyE_take (i := 40) (v := ?_) (.next (.next (.next (.next (.next (.next (.next (.next (.next (.next (.next (.next (.next (.next (.next (.next (.next (.next (.next (.next (.next (.next (.next (.next (.next (.next (.next (.next (.next (.next (.next (.next (.next (.next (.next (.next (.next (.next (.next (.next (.here))))))))))))))))))))))))))))))))))))))))) (by kernel_rfl) (fun _ _ _ h => h) (HKS.out _ (Ext.refl _).drew) (by rfl) ?_ ?_
                  rotate_left
                  focus (intro w hSw; (try dsimp only at hSw); go_simp; try with_reducible rfl)
                  try simp only [Act.put, List.setIfInBounds_toArray, List.set_cons_zero, List.set_cons_succ]
                  refine wpAnyE_take (i := 41) (v := ?_) (.next (.next (.next (.next (.next (.next (.next (.next (.next (.next (.next (.next (.next (.next (.next (.next (.next (.next (.next (.next (.next (.next (.next (.next (.next (.next (.next (.next (.next (.next (.next (.next (.next (.next (.next (.next (.next (.next (.next (.next (.next (.here)))))))))))))))))))))))))))))))))))))))))) (by kernel_rfl) (fun _ _ _ h => h) (HKS.out _ (Ext.refl _).drew) (by rfl) ?_ ?_
                  rotate_left
                  focus (intro w hSw; (try dsimp only at hSw); go_simp; try with_reducible rfl)
                  try simp only [Act.put, List.setIfInBounds_toArray, List.set_cons_zero, List.set_cons_succ]
                  refine wpAnyE_take (i := 42) (v := ?_) (.next (.next (.next (.next (.next (.next (.next (.next (.next (.next (.next (.next (.next (.next (.next (.next (.next (.next (.next (.next (.next (.next (.next (.next (.next (.next (.next (.next (.next (.next (.next (.next (.next (.next (.next (.next (.next (.next (.next (.next (.next (.next (.here))))))))))))))))))))))))))))))))))))))))))) (by kernel_rfl) (fun _ _ _ h => h) (HKS.out _ (Ext.refl _).drew) (by rfl) ?_ ?_
                  rotate_left
                  focus (intro w hSw; (try dsimp only at hSw); go_simp; try with_reducible rfl)
                  try simp only [Act.put, List.setIfInBounds_toArray, List.set_cons_zero, List.set_cons_succ]
                  refine wpAnyE_one (k := 43) (.next (.next (.next (.next (.next (.next (.next (.next (.next (.next (.next (.next (.next (.next (.next (.next (.next (.next (.next (.next (.next (.next (.next (.next (.next (.next (.next (.next (.next (.next (.next (.next (.next (.next (.next (.next (.next (.next (.next (.next (.next (.next (.next (.here)))))))))))))))))))))))))))))))))))))))))))) (by kernel_rfl) (fun K hK => ?_)
                  go_simp
                  refine (awake32_any _ (HT.out.ext (HWQ.out.drew))).mono ?_; rintro _ wf ⟨rfl, hEf⟩; dsimp only
                  refine hK.out _ _ (fun _ => HKS.out _ ((Ext.refl _).drew.trans hEf)) ?_
                  clear hK
                  try simp only [Act.put, List.setIfInBounds_toArray, List.set_cons_zero, List.set_cons_succ]
                  refine wpAnyE_take (i := 44) (v := ?_) (.next (.next (.next (.next (.next (.next (.next (.next (.next (.next (.next (.next (.next (.next (.next (.next (.next (.next (.next (.next (.next (.next (.next (.next (.next (.next (.next (.next (.next (.next (.next (.next (.next (.next (.next (.next (.next (.next (.next (.next (.next (.next (.next (.next (.here))))))))))))))))))))))))))))))))))))))))))))) (by kernel_rfl) (fun _ _ _ h => h) (HKS.out _ ((Ext.refl _).drew.trans hEf)) (by rfl) ?_ ?_
                  rotate_left
                  focus (intro w hSw; (try dsimp only at hSw); go_simp; try with_reducible rfl)
                  try simp only [Act.put, List.setIfInBounds_toArray, List.set_cons_zero, List.set_cons_succ]
                  refine wpAnyE_one (k := 45) (.next (.next (.next (.next (.next (.next (.next (.next (.next (.next (.next (.next (.next (.next (.next (.next (.next (.next (.next (.next (.next (.next (.next (.next (.next (.next (.next (.next (.next (.next (.next (.next (.next (.next (.next (.next (.next (.next (.next (.next (.next (.next (.next (.next (.next (.here)))))))))))))))))))))))))))))))))))))))))))))) (by kernel_rfl) (fun K hK => ?_)
                  go_simp
                  refine hK.out _ _ (fun _ => HKS.out _ ((Ext.refl _).drew.trans hEf)) ?_
                  clear hK
                  try simp only [Act.put, List.setIfInBounds_toArray, List.set_cons_zero, List.set_cons_succ]
                  refine wpAnyE_seq [] (.nil) (by kernel_rfl) (by kernel_rfl) ?_
                  go_wp2_with fail
                  go_ret
                  exact ⟨rfl, HWQ.out.drew.trans hEf⟩
theorem puzzlesSums_int (s v q : Int) (bs : 0 ≤ s ∧ s ≤ 255) (bv : 0 ≤ v ∧ v ≤ 255) (bq : 0 ≤ q ∧ q ≤ 255) (w : World) (hT : Tab w) :
    Calls Tryz.prog 7 #[.int .u8 s, .int .u8 v, .int .u8 q] w fun e w' => e = .returned (.bool true) ∧ Ext w w' := by
  obtain ⟨s, rfl⟩ := Int.eq_ofNat_of_zero_le bs.1
  obtain ⟨v, rfl⟩ := Int.eq_ofNat_of_zero_le bv.1
  obtain ⟨q, rfl⟩ := Int.eq_ofNat_of_zero_le bq.1
  exact puzzlesSums_any s v q (by omega) (by omega) (by omega) w hT
end Wt

/- The law PuzzlesSums returns true at every input, and its arguments read behind the call as they did before. the tied card: the library's table of TrailingZeros64 lies as the program's text lays it. -/
namespace Go.Proofs.YtoacdccachhjdaaGreatDoor
open Go.ChangeShapes Go.WideShapes Go.ChangeAt Go.WideMaps Go.WideElems Go.RowKit

theorem own : ownKnob Tryz.prog.godebug = none := by kernel_rfl
theorem laidOut : laidOutB Tryz.prog = true := by kernel_rfl
theorem door_met (os : Os) (args : Array Value) : laidMetH Tryz.prog [("math/bits.deBruijn64tab", Rows.laid_math_bits_deBruijn64tab)] ((World.doorLaid Tryz.prog 400 os).forCall (fun _ _ => 0) ⟨#[], args, []⟩).memory := by
  rw [MakeChecks.laidMetH_plain _ _ _ (by kernel_rfl)]
  exact laidMet_of_run' 8 (by kernel_rfl) (by kernel_rfl)
set_option maxRecDepth 100000 in
set_option maxHeartbeats 1000000 in
theorem law_lifted (os : Os) (started : os.Started) (H : Type) (enc : TypeId × Value → H) :
    ReturnsInHanded {} Tryz.checked os 7 .any (fun w args => (Rows.puzzlesSumsSpec.pre enc Tryz.prog Tryz.f7 Rows.puzzlesSumsRow.domain false w args ∧ laidMetH Tryz.prog [("math/bits.deBruijn64tab", Rows.laid_math_bits_deBruijn64tab)] w) ∧ sizedMet enc Tryz.prog Tryz.f7 (OpenSpec.ofChange Rows.puzzlesSumsSpec) false w args)
      (Rows.puzzlesSumsSpec.post enc Tryz.prog Tryz.f7 false true false false) := by
  refine returnsInHanded_of_change_and (C := Tryz.checked) (X := fun w _ => laidMetH Tryz.prog [("math/bits.deBruijn64tab", Rows.laid_math_bits_deBruijn64tab)] w) (fun _ _ _ hh h => h.of_heap hh) own started (by kernel_rfl) Tryz.func7
    (ChangeSpec.witness_shaped (enc := enc) (C := Tryz.checked) (os := os) (X := fun w _ => laidMetH Tryz.prog [("math/bits.deBruijn64tab", Rows.laid_math_bits_deBruijn64tab)] w) false (World.doorLaid Tryz.prog 400 os) #[.int .u8 0, .int .u8 0, .int .u8 0] 8 rfl (World.shaped_of_RefB (by kernel_rfl) (by kernel_rfl)) (by kernel_rfl) (by kernel_rfl) (by kernel_rfl) (door_met os _)) ?_
  intro W base args ds gs before hval0 hW _ hsz0 hL _
  have hT := of_laid hL
  have hval : ∀ (j : Nat) t v, Tryz.f7.params[j]? = some t → args[j]? = some v → Value.okWide Tryz.prog W .any base t v := hval0
  have hsz : (DataW.weightsEach Tryz.prog (Tryz.f7.params.toList ++ Rows.puzzlesSumsSpec.plain.varTypes Tryz.prog) (ds ++ gs)).all (· ≤ reachBytes) = true := hsz0
  have hW' := hW
  obtain ⟨p, q, hA0, hV, rfl, hfz, hnd⟩ := hW
  have hA : DataW.TrodAll enc Tryz.prog W 0 (fun _ => true) true Tryz.f7.params.toList args.toList ds p := hA0
  rw [Tryz.params7] at hA hval hsz
  obtain ⟨v0, v1, v2, d0, d1, d2, p0, p1, p2, rfl, rfl, rfl, h0, h1, h2⟩ := trodAll_three hA
  obtain ⟨rfl, rfl⟩ := trodVars_none hV
  have hv0 : Rows.puzzlesSumsSpec.plain.varTypes Tryz.prog = [] := rfl
  rw [hv0] at hsz
  have hz : ∀ n ∈ DataW.weightsEach Tryz.prog [5, 5, 5] [d0, d1, d2], n ≤ reachBytes := fun n hn => by
    have := List.all_eq_true.1 hsz n (by simpa using hn)
    simpa using this
  have k0 := h0
  have k1 := h1
  have k2 := h2
  obtain ⟨s, rfl, rfl, rfl, ws⟩ := open_int Tryz.underlying5 (hval 0 5 v0 rfl rfl) h0
  have bs := ws
  simp [Lit.wf, IntKind.min, IntKind.max, IntKind.signed, IntKind.bits] at bs
  obtain ⟨v, rfl, rfl, rfl, wv⟩ := open_int Tryz.underlying5 (hval 1 5 v1 rfl rfl) h1
  have bv := wv
  simp [Lit.wf, IntKind.min, IntKind.max, IntKind.signed, IntKind.bits] at bv
  obtain ⟨q, rfl, rfl, rfl, wq⟩ := open_int Tryz.underlying5 (hval 2 5 v2 rfl rfl) h2
  have bq := wq
  simp [Lit.wf, IntKind.min, IntKind.max, IntKind.signed, IntKind.bits] at bq
  refine (Wt.puzzlesSums_int s v q bs bv bq W hT).mono fun e W' he => ?_
  obtain ⟨rfl, hE⟩ := he
  have bel : Below W.heap.size W W' := hE
  refine ⟨_, rfl, ⟨_, _, _, [], [] ++ ([] ++ ([])), [], hW', trodAll_mk1 (shut_bool Tryz.underlying4 true), trodAll_mk3 (shut_int Tryz.underlying5 ws) (shut_int Tryz.underlying5 wv) (shut_int Tryz.underlying5 wq), rfl, bel.frame _, fun h => by cases h⟩⟩
theorem puzzlesSums_holds : Rows.PuzzlesSumsSaid :=
  OpenClaim.holds_of_wide 7 Tryz.f7 rfl rfl rfl rfl rfl rfl rfl ⟨rfl, rfl, rfl, rfl, rfl⟩ rfl rfl rfl rfl rfl (by kernel_rfl) Tryz.func7 (by kernel_rfl)
    (of_decide_eq_true (by kernel_rfl)) (by unfold Func.isWrapper; first | (rw [if_pos (by decide +kernel)]; kernel_rfl) | (rw [if_neg (by decide +kernel)]; exact ⟨rfl, rfl⟩))
    (fun os started H enc _ => law_lifted os started H enc)
theorem puzzlesSums_card_holds : Rows.PuzzlesSumsCardSaid :=
  Claim7.holds_tied_plain_at .later [] [.data] true Rows.puzzlesSumsCard.stood.harness false
    puzzlesSums_holds (fun _ h => by cases h) (by kernel_rfl) (fun _ h => by cases h) puzzlesSums_row_tie rfl ⟨rfl, rfl⟩ (by kernel_rfl) rfl
    (fun f fn hf hfn => by
      obtain rfl : f = 7 := Option.some.inj ((show Tryz.prog.funcNamed "witting/wittinglaw32.PuzzlesSums" = some 7 by kernel_rfl).symm.trans hf) |>.symm
      obtain rfl : fn = Tryz.f7 := (Option.some.inj (Tryz.func7.symm.trans hfn)).symm
      exact ⟨by kernel_rfl, fun j t ht => by
        rw [Tryz.params7] at ht
        have hm : t ∈ [5, 5, 5] := by simpa using Array.mem_of_getElem? ht
        have hall : ([5, 5, 5].all fun u => !Tryz.prog.wantsStandIn u) = true := by kernel_rfl
        exact (show Tryz.prog.wantsStandIn t = false by simpa using List.all_eq_true.1 hall t hm)⟩)
    (by kernel_rfl)
#print axioms puzzlesSums_card_holds
end Go.Proofs.YtoacdccachhjdaaGreatDoor
