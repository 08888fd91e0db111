/- Walk: observe.Reveal. -/
import Derived.Test.YtaghfmcaikjobaaGreatMOfB
import Derived.Test.YtaghfmcaikjobaaGreatMObQ
namespace Wt
open Go Go.RowKit Go.Maps Go.Proofs Fm

/-- The rows, the first a of them done, and j worlds of the next one. -/
def rvR (G : Nat) (s : BitVec 64) (R : List (List (BitVec 64))) (a j : Nat) : List (List (BitVec 64)) := (List.range R.length).map fun q => if q < a then (if G.testBit q then whRow s (nth R q) else nth R q) else if q = a then whP s (nth R q) j else nth R q
theorem rvR_len (G : Nat) (s : BitVec 64) (R : List (List (BitVec 64))) (a j : Nat) : (rvR G s R a j).length = R.length := by simp [rvR]
theorem rvR_nth (G : Nat) (s : BitVec 64) (R : List (List (BitVec 64))) {a j : Nat} (h : a < R.length) : nth (rvR G s R a j) a = whP s (nth R a) j := by
  unfold rvR
  rw [nth_mapR _ h, if_neg (by omega), if_pos rfl]
theorem rvR_other (G : Nat) (s : BitVec 64) (R : List (List (BitVec 64))) {a j q : Nat} (h : q ≠ a) : nth (rvR G s R a (j + 1)) q = nth (rvR G s R a j) q := by
  by_cases hq : q < R.length
  · unfold rvR
    rw [nth_mapR _ hq, nth_mapR _ hq, if_neg h, if_neg h]
  · rw [nth_out (by rw [rvR_len]; omega), nth_out (by rw [rvR_len]; omega)]
theorem rvR_zero (G : Nat) (s : BitVec 64) (R : List (List (BitVec 64))) : rvR G s R 0 0 = R := nth_ext (rvR_len _ _ _ _ _) fun k hk => by
  rw [rvR_len] at hk
  unfold rvR
  rw [nth_mapR _ hk, if_neg (by omega)]
  by_cases h : k = 0
  · rw [if_pos h, whP_zero]
  · rw [if_neg h]
theorem rvR_next (G : Nat) (s : BitVec 64) (R : List (List (BitVec 64))) {a : Nat} (hg : G.testBit a = true) : rvR G s R (a + 1) 0 = rvR G s R a (nth R a).length := nth_ext (by rw [rvR_len, rvR_len]) fun k hk => by
  rw [rvR_len] at hk
  unfold rvR
  rw [nth_mapR _ hk, nth_mapR _ hk]
  rcases Nat.lt_trichotomy k a with h | h | h
  · rw [if_pos (show k < a + 1 by omega), if_pos h]
  · subst h; rw [if_pos (show k < k + 1 by omega), if_neg (show ¬ k < k by omega), if_pos rfl, if_pos hg, whP_full]
  · rw [if_neg (show ¬ k < a + 1 by omega), if_neg (show ¬ k < a by omega), if_neg (show ¬ k = a by omega)]
    by_cases h2 : k = a + 1
    · rw [if_pos h2, whP_zero]
    · rw [if_neg h2]
theorem rvR_skip (G : Nat) (s : BitVec 64) (R : List (List (BitVec 64))) {a : Nat} (hg : G.testBit a = false) : rvR G s R (a + 1) 0 = rvR G s R a 0 := nth_ext (by rw [rvR_len, rvR_len]) fun k hk => by
  rw [rvR_len] at hk
  unfold rvR
  rw [nth_mapR _ hk, nth_mapR _ hk]
  rcases Nat.lt_trichotomy k a with h | h | h
  · rw [if_pos (show k < a + 1 by omega), if_pos h]
  · subst h; rw [if_pos (show k < k + 1 by omega), if_neg (show ¬ k < k by omega), if_pos rfl, if_neg (by simp [hg]), whP_zero]
  · rw [if_neg (show ¬ k < a + 1 by omega), if_neg (show ¬ k < a by omega), if_neg (show ¬ k = a by omega)]
    by_cases h2 : k = a + 1
    · rw [if_pos h2, whP_zero]
    · rw [if_neg h2]
theorem rvR_full (G : Nat) (s : BitVec 64) (M : Mo) : rvR G s M.rel M.rel.length 0 = (List.range M.rel.length).map (revR M G s) := nth_ext (by simp [rvR]) fun k hk => by
  rw [rvR_len] at hk
  unfold rvR
  rw [nth_mapR _ hk, if_pos hk, nth_mapR _ hk]
  rfl
/-- The rounds of Reveal. -/
structure RvI (W0 : World) (B bo : Nat) (W : Int) (V : List (BitVec 64)) (R : List (List (BitVec 64))) (G : Nat) (s : BitVec 64) (va ra : Option Addr) (vc rc : Nat) (svs : List Value) (a j : Nat) (wr : World) : Prop where
  fr : FrM B wr va ra vc rc ⟨W, V, rvR G s R a j⟩ svs
  out : OutAt wr bo (.int .i64 W) (.slice va V.length vc) (.slice ra R.length rc)
  old : Below B W0 wr
  sz : W0.heap.size ≤ wr.heap.size
section
variable {W0 wr : World} {B bo : Nat} {W : Int} {V : List (BitVec 64)} {R : List (List (BitVec 64))} {G : Nat} {s : BitVec 64} {va ra : Option Addr} {vc rc : Nat} {svs : List Value} {a j : Nat}
theorem RvI.row (h : RvI W0 B bo W V R G s va ra vc rc svs a j wr) {q : Nat} (hq : q < R.length) : ∃ b, ra = some ⟨b, 0, none⟩ ∧ b < wr.heap.size ∧ wr.cell? ⟨b, q, none⟩ = some (nth svs q) := by
  obtain ⟨b, p, c, h1, _, h2, h3, h4, _⟩ := h.fr.row (q := q) (by rw [rvR_len]; exact hq)
  exact ⟨b, h1, h2, by rw [h3]; exact h4⟩
theorem RvI.shape (h : RvI W0 B bo W V R G s va ra vc rc svs a 0 wr) (ha : a < R.length) : ∃ p c, nth svs a = .slice p (nth R a).length c := by
  obtain ⟨b, p, c, h1, _, h2, h3, h4, _⟩ := h.fr.row (q := a) (by rw [rvR_len]; exact ha)
  dsimp only at h3
  rw [rvR_nth G s R ha, whP_len] at h3
  exact ⟨p, c, h3⟩
theorem RvI.step (h : RvI W0 B bo W V R G s va ra vc rc svs a j wr) (ha : a < R.length) (hj : j < (nth R a).length) (hsv : ∀ q g, q < R.length → (nth svs q).ownBlock = some g → g < bo) :
    ∃ g c, nth svs a = .slice (some ⟨g, 0, none⟩) (nth R a).length c ∧ g < wr.heap.size ∧ wr.frozen? ⟨g, j, none⟩ = false ∧ wr.cell? ⟨g, j, none⟩ = some (.int .u64 (un (nth (nth R a) j))) ∧ RvI W0 B bo W V R G s va ra vc rc svs a (j + 1) (wr.setCell ⟨g, j, none⟩ (.int .u64 (un (whE s j (nth (nth R a) j))))) := by
  have e1 : nth (rvR G s R a j) a = whP s (nth R a) j := rvR_nth G s R ha
  obtain ⟨g, c, h1, h2, h3, h4, h5, h6⟩ := h.fr.set (A' := ⟨W, V, rvR G s R a (j + 1)⟩) (q := a) (k := j) (by rw [rvR_len]; exact ha) (by rw [e1, whP_len]; exact hj) (whE s j (nth (nth R a) j)) rfl (by rw [rvR_len, rvR_len]) (fun q hq => rvR_other G s R hq) (by rw [rvR_nth G s R ha, e1]; exact whP_step s _ hj)
  have e1 : nth (rvR G s R a j) a = whP s (nth R a) j := e1
  dsimp only at h1 h5
  rw [e1, whP_len] at h1
  rw [e1, whP_nth s _ hj] at h5
  refine ⟨g, c, h1, h3, h4, h5, h6, h.out.other (fun e => ?_), h.old.setCell h2 _, by simpa using h.sz⟩
  have := hsv a g ha (by rw [h1]; rfl)
  omega
theorem RvI.zero {M : Mo} (hm : FrM B wr va ra vc rc M svs) (ho : OutAt wr bo (.int .i64 M.worlds) (.slice va M.val.length vc) (.slice ra M.rel.length rc)) (hB : Below B W0 wr) (hs : W0.heap.size ≤ wr.heap.size) : RvI W0 B bo M.worlds M.val M.rel G s va ra vc rc svs 0 0 wr :=
  ⟨by rw [rvR_zero]; exact hm, ho, hB, hs⟩
theorem RvI.next (h : RvI W0 B bo W V R G s va ra vc rc svs a (nth R a).length wr) (hg : G.testBit a = true) : RvI W0 B bo W V R G s va ra vc rc svs (a + 1) 0 wr :=
  ⟨by rw [rvR_next G s R hg]; exact h.fr, h.out, h.old, h.sz⟩
theorem RvI.skip (h : RvI W0 B bo W V R G s va ra vc rc svs a 0 wr) (hg : G.testBit a = false) : RvI W0 B bo W V R G s va ra vc rc svs (a + 1) 0 wr :=
  ⟨by rw [rvR_skip G s R hg]; exact h.fr, h.out, h.old, h.sz⟩
end
set_option maxRecDepth 20000 in
set_option maxHeartbeats 8000000 in
theorem oreveal_any (M : Mo) (va ra : Option Addr) (vc rc : Nat) (g : Int) (fa : Option Addr) (fc : Nat) (f : List Nd) (w : World) (hm : RM w va ra M) (hf : RN w fa f) :
    Calls Tryz.prog 6 #[.agg #[.int .i64 M.worlds, .slice va M.val.length vc, .slice ra M.rel.length rc], .int .i64 g, .slice fa f.length fc] w fun e w' => RetW (revM M g f) (revErr M g f) e w w' := by
  have hbx := MoBox.new w M.worlds M.val M.rel va vc ra rc 25
  have hE0 : Ext w ((w.alloc (.cells #[.int .i64 M.worlds, .slice va M.val.length vc, .slice ra M.rel.length rc] 25)).alloc (.cells #[.int .i64 0, .slice none 0 0, .slice none 0 0] 25)) := ((Ext.refl w).alloc _).alloc _
  have hbx0 := hbx.ext ((Ext.refl _).alloc (.cells #[.int .i64 0, .slice none 0 0, .slice none 0 0] 25))
  have hm0 := hm.ext hE0
  have HHO := Lib.hid (sets_any M va ra vc rc fa fc f _ hm0 (hf.ext hE0))
  have HM0 := Lib.hid hm0
  obtain ⟨m0, m1, m2⟩ := hbx0
  dsimp only at m0 m1 m2
  have HE := Lib.hid hE0
  have HR := Lib.hid (OutAt.new1 w (.cells #[.int .i64 M.worlds, .slice va M.val.length vc, .slice ra M.rel.length rc] 25) (.int .i64 0) (.slice none 0 0) (.slice none 0 0) 25)
  have hs0 : ((w.alloc (.cells #[.int .i64 M.worlds, .slice va M.val.length vc, .slice ra M.rel.length rc] 25)).alloc (.cells #[.int .i64 0, .slice none 0 0, .slice none 0 0] 25)).heap.size = w.heap.size + 2 := by simp
  have HS0 := Lib.hid hs0
  clear hm hbx hE0 hf hs0 hm0
  by_cases hM : reqErr M f = 0
  rotate_left
  · have hq : (reqErr M f != 0) = true := by simpa using hM
    have hn : revErr M g f = reqErr M f := if_pos hM
    have hn2 : revM M g f = ⟨0, [], []⟩ := if_neg (by rw [hn]; exact hM)
    have HN := Lib.hid hn
    have HN2 := Lib.hid hn2
    clear hn hn2 hM
    go_enter Tryz.func6, Tryz.ntmps6
    go_wp2_with fail
    generalize (w.alloc (.cells #[.int .i64 M.worlds, .slice va M.val.length vc, .slice ra M.rel.length rc] 25)).alloc (.cells #[.int .i64 0, .slice none 0 0, .slice none 0 0] 25) = W0 at *
    refine HHO.out.mono ?_
    rintro _ w1 ⟨ua, uc, rfl, -, hE1⟩
    dsimp only
    obtain ⟨r0, r1, r2, rfz⟩ := HR.out.ext hE1
    have f0 := rfz 0
    have f1 := rfz 1
    have f2 := rfz 2
    have HO := Lib.hid (HR.out.ext hE1)
    have hsz := HO.out.lt
    clear rfz
    go_wp2_with fail
    rw [HN.out, HN2.out]
    have hEx : Ext w (((w1.setCell ⟨w.heap.size + 1, 0, none⟩ (.int .i64 0)).setCell ⟨w.heap.size + 1, 1, none⟩ (.slice none 0 0)).setCell ⟨w.heap.size + 1, 2, none⟩ (.slice none 0 0)) := (HE.out.trans hE1).set3 (by simp) _ _ _
    obtain ⟨d0, d1, d2, -⟩ := ((HO.out.set0 (.int .i64 0)).set1 (.slice none 0 0)).set2 (.slice none 0 0)
    generalize (((w1.setCell ⟨w.heap.size + 1, 0, none⟩ (.int .i64 0)).setCell ⟨w.heap.size + 1, 1, none⟩ (.slice none 0 0)).setCell ⟨w.heap.size + 1, 2, none⟩ (.slice none 0 0)) = W2 at *
    refine bodyPost_ret (v := .tuple #[.agg #[.int .i64 0, .slice none 0 0, .slice none 0 0], .int .i64 (reqErr M f)]) ?_ rfl ?_
    · rw [results_cell_v rfl]
      go_simp
    · exact RetW.zero _ hEx
  have hRq0 := Lib.hid hM
  have hM0 := (reqErr_ok hM).1
  have hr4 : M.rel.length ≤ 4 := by obtain ⟨N, ok⟩ := moCheck_ok hM0; exact ok.rel
  have h63 : M.rel.length < 63 := by omega
  by_cases hz : revErr M g f = 0
  rotate_left
  · have hn : revErr M g f = 1 := by
      unfold revErr at hz ⊢
      rw [if_neg (by simp [hM])] at hz ⊢
      split
      · rfl
      · next h => rw [if_neg h] at hz; exact absurd rfl hz
    have hn2 : revM M g f = ⟨0, [], []⟩ := if_neg hz
    have hd : (decide (g < 1) || decide (p2 M.rel.length ≤ g)) = true := by
      have h2 : g < 1 ∨ p2 M.rel.length ≤ g := by
        by_cases h : g < 1 ∨ p2 M.rel.length ≤ g
        · exact h
        · unfold revErr at hz; rw [if_neg (by simp [hM]), if_neg h] at hz; exact absurd rfl hz
      rcases h2 with h | h
      · simp [h]
      · simp [h]
    have HN := Lib.hid hn
    have HN2 := Lib.hid hn2
    clear hz hn hn2 hM hM0
    cases d2 : decide (g < 1) <;> cases d3 : decide (p2 M.rel.length ≤ g)
    all_goals rw [d2, d3] at hd
    case false.false => cases hd
    all_goals
      clear hd
      go_enter Tryz.func6, Tryz.ntmps6
      go_wp2_with fail
      generalize (w.alloc (.cells #[.int .i64 M.worlds, .slice va M.val.length vc, .slice ra M.rel.length rc] 25)).alloc (.cells #[.int .i64 0, .slice none 0 0, .slice none 0 0] 25) = W0 at *
      refine HHO.out.mono ?_
      rintro _ w1 ⟨ua, uc, rfl, -, hE1⟩
      rw [hRq0.out]
      dsimp only
      obtain ⟨r0, r1, r2, rfz⟩ := HR.out.ext hE1
      have f0 := rfz 0
      have f1 := rfz 1
      have f2 := rfz 2
      have HO := Lib.hid (HR.out.ext hE1)
      have hsz := HO.out.lt
      have q0 := hE1.cell m0
      have q1 := hE1.cell m1
      have q2 := hE1.cell m2
      clear rfz m0 m1 m2
      go_wp2_with fail
      rw [HN.out, HN2.out]
      have hEx : Ext w (((w1.setCell ⟨w.heap.size + 1, 0, none⟩ (.int .i64 0)).setCell ⟨w.heap.size + 1, 1, none⟩ (.slice none 0 0)).setCell ⟨w.heap.size + 1, 2, none⟩ (.slice none 0 0)) := (HE.out.trans hE1).set3 (by simp) _ _ _
      obtain ⟨d0, d1, d2, -⟩ := ((HO.out.set0 (.int .i64 0)).set1 (.slice none 0 0)).set2 (.slice none 0 0)
      generalize (((w1.setCell ⟨w.heap.size + 1, 0, none⟩ (.int .i64 0)).setCell ⟨w.heap.size + 1, 1, none⟩ (.slice none 0 0)).setCell ⟨w.heap.size + 1, 2, none⟩ (.slice none 0 0)) = W2 at *
      refine bodyPost_ret (v := .tuple #[.agg #[.int .i64 0, .slice none 0 0, .slice none 0 0], .int .i64 1]) ?_ rfl ?_
      · rw [results_cell_v rfl]
        go_simp
      · exact RetW.zero _ hEx
  · obtain ⟨-, hg1, hg2⟩ := revErr_ok hz
    obtain ⟨gn, rfl⟩ := Int.eq_ofNat_of_zero_le (show 0 ≤ g by omega)
    have d2 : decide ((gn : Int) < 1) = false := by simp; omega
    have d3 : decide (p2 M.rel.length ≤ (gn : Int)) = false := by simp; omega
    have hgn : gn < 9223372036854775808 := by
      unfold p2 at hg2
      have h5 : 2 ^ M.rel.length ≤ 2 ^ 4 := Nat.pow_le_pow_right (by omega) hr4
      omega
    obtain ⟨N, ok⟩ := moCheck_ok hM0
    have hR : revM M gn f = ⟨M.worlds, M.val, (List.range M.rel.length).map (revR M gn (holdsOf M f))⟩ := by unfold revM; rw [if_pos hz]; simp
    have hf0 := (fCheck_ok.1 (reqErr_ok hM).2.1).1
    have hf200 := (fCheck_ok.1 (reqErr_ok hM).2.1).2.1
    have hSet : setsOf M f = (List.range f.length).map (fun k => (semT M (trAt f k)).1) := if_pos hM
    have hSl : (setsOf M f).length = f.length := by rw [hSet]; simp
    have hSn : nth (setsOf M f) (f.length - 1) = holdsOf M f := by
      rw [show holdsOf M f = lastSet M f from if_pos hM, nth_eq _ _ (by omega)]
      simp [hSet, lastSet]
    have HSn := Lib.hid hSn
    have HSl := Lib.hid hSl
    have HRE := Lib.hid hR
    have HZ := Lib.hid hz
    have hoks := Lib.hid ok.row
    have hN64 := ok.most
    have HOK := Lib.hid ok
    have hsub : IntKind.i64.wrap ((f.length : Int) - 1) = ((f.length - 1 : Nat) : Int) := by rw [IntWalk.i64_in _ (by omega)]; omega
    clear hM hM0 hz hg1 hg2 hR hSet hSl hSn ok
    generalize holdsOf M f = S at *
    go_enter Tryz.func6, Tryz.ntmps6
    go_wp2_with fail
    generalize (w.alloc (.cells #[.int .i64 M.worlds, .slice va M.val.length vc, .slice ra M.rel.length rc] 25)).alloc (.cells #[.int .i64 0, .slice none 0 0, .slice none 0 0] 25) = W0 at *
    refine HHO.out.mono ?_
    rintro _ wa1 ⟨ua, uc, rfl, hu, hEa⟩
    rw [hRq0.out]
    dsimp only
    obtain ⟨gb, goff, rfl, hgb, hgc⟩ := hu.get (k := f.length - 1) (by rw [HSl.out]; omega)
    rw [HSn.out] at hgc
    rw [HSl.out]
    have q0 := hEa.cell m0
    have q1 := hEa.cell m1
    have q2 := hEa.cell m2
    have HCL := Lib.hid (oclone_any M va ra vc rc wa1 N HOK.out (HM0.out.ext hEa))
    have HEa := Lib.hid hEa
    clear hu m0 m1 m2
    go_wp2_with fail
    refine HCL.out.mono ?_
    rintro _ w1 ⟨va2, ra2, vc2, rc2, svs, rfl, hm3, hEb⟩
    dsimp only
    have hE1 : Ext W0 w1 := hEa.trans hEb
    have hBB : w.heap.size + 2 ≤ wa1.heap.size := by have := hEa.size; rw [HS0.out] at this; exact this
    have hlt1 : ∀ q g, q < M.rel.length → (nth svs q).ownBlock = some g → g < w1.heap.size := fun q g hq hg => ((hm3.rw q hq).lt g hg).2
    have hXX : Ext W0 (w1.alloc (.cells #[.int .i64 M.worlds, .slice va2 M.val.length vc2, .slice ra2 M.rel.length rc2] 25)) := hE1.alloc _
    have hwi := RvI.zero (G := gn) (s := S) (W0 := W0) (B := w.heap.size + 2) (bo := w1.heap.size) ((hm3.mono hBB).agree (Agree.ofExt ((Ext.refl _).alloc (.cells #[.int .i64 M.worlds, .slice va2 M.val.length vc2, .slice ra2 M.rel.length rc2] 25)))) (OutAt.new w1 _ _ _ 25) (Below.mono hXX (by rw [HS0.out]; exact Nat.le_refl _)) hXX.size
    have HWI := Lib.hid hwi
    have HLT := Lib.hid hlt1
    have HB1 := Lib.hid hE1.size
    clear hm3 hwi hlt1 hXX q0 q1 q2 hE1 hEb hEa
    go_wp2_with fail
    go_loopw [47] (fun i wr => ∃ a : Nat, a ≤ M.rel.length ∧ i = .int .i64 (a : Int) ∧ RvI W0 (w.heap.size + 2) w1.heap.size M.worlds M.val M.rel gn S va2 ra2 vc2 rc2 svs a 0 wr) (fun i _ => M.rel.length - (intOf i).toNat)
    case atStart => exact ⟨0, Nat.zero_le _, rfl, HWI.out⟩
    case round =>
      obtain ⟨a, ha, rfl, hI⟩ := hrel
      have HI := Lib.hid hI
      by_cases hal : a < M.rel.length
      · have hrow : (nth M.rel a).length = N := hoks.out _ (nth_mem hal)
        obtain ⟨b, rfl, hb, hc⟩ := hI.row hal
        obtain ⟨p, pc, hsh⟩ := hI.shape hal
        rw [hsh, hrow] at hc
        cases hg : gn.testBit a
        · have hb0 : b01 gn a = 0 := by simp [b01, hg]
          have HNX := Lib.hid (hI.skip hg)
          clear hI hg hsh hrow
          go_wp2_with fail
          go_roundw
          case rel => exact ⟨a + 1, hal, by go_num, HNX.out⟩
          case measure => simp [intOf]; omega
        · have hb0 : b01 gn a = 1 := by simp [b01, hg]
          have HG := Lib.hid hg
          have HSH := Lib.hid hsh
          have HROW := Lib.hid hrow
          clear hI hg hsh hrow
          go_wp2_with fail
          go_loopw [59] (fun i wz => ∃ j : Nat, j ≤ N ∧ i = .int .i64 (j : Int) ∧ RvI W0 (w.heap.size + 2) w1.heap.size M.worlds M.val M.rel gn S va2 (some ⟨b, 0, none⟩) vc2 rc2 svs a j wz) (fun i _ => N - (intOf i).toNat)
          case atStart => exact ⟨0, Nat.zero_le _, rfl, HI.out⟩
          case round =>
            rename World => wz
            obtain ⟨j, hj, rfl, hJ⟩ := hrel
            have HJ := Lib.hid hJ
            by_cases hjl : j < N
            · obtain ⟨g2, gc2, hsv2, hg2, hf2, hc2, hnext⟩ := hJ.step hal (by rw [HROW.out]; exact hjl) HLT.out
              rw [HSH.out] at hsv2
              simp only [Value.slice.injEq] at hsv2
              obtain ⟨rfl, -, -⟩ := hsv2
              unfold whE at hnext
              cases hbt : bt S j
              · rw [hbt, if_neg (by simp)] at hnext
                have HNE := Lib.hid hnext
                clear hnext hJ
                go_wp2
                go_roundw
                case rel => exact ⟨j + 1, hjl, by go_num, HNE.out⟩
                case measure => simp [intOf]; omega
              · rw [hbt, if_pos rfl] at hnext
                have HNE := Lib.hid hnext
                clear hnext hJ
                go_wp2
                go_roundw
                case rel => exact ⟨j + 1, hjl, by go_num, HNE.out⟩
                case measure => simp [intOf]; omega
            · obtain rfl : N = j := by omega
              have HNX := Lib.hid (RvI.next (a := a) (by rw [HROW.out]; exact hJ) HG.out)
              clear hJ
              go_wp2
              go_roundw
              case rel => exact ⟨a + 1, hal, by go_num, HNX.out⟩
              case measure => simp [intOf]; omega
      · obtain rfl : a = M.rel.length := by omega
        have hfr := hI.fr
        rw [rvR_full] at hfr
        have HFR := Lib.hid hfr
        obtain ⟨o0, o1, o2, -⟩ := hI.out
        have hol := hI.out.lt
        have hres : OutAt wr (w.heap.size + 1) (.int .i64 0) (.slice none 0 0) (.slice none 0 0) := HR.out.keep (hI.old.block _ (by omega))
        have HO := Lib.hid hres
        obtain ⟨r0, r1, r2, rfz⟩ := hres
        have f0 := rfz 0
        have f1 := rfz 1
        have f2 := rfz 2
        have hrl := HO.out.lt
        have hEw : Ext w wr := Below.trans HE.out (Below.mono hI.old (by omega))
        have HEW := Lib.hid hEw
        clear hI rfz hfr hEw
        go_wp2_with fail
        have hEx : Ext w (((wr.setCell ⟨w.heap.size + 1, 0, none⟩ (.int .i64 M.worlds)).setCell ⟨w.heap.size + 1, 1, none⟩ (.slice va2 M.val.length vc2)).setCell ⟨w.heap.size + 1, 2, none⟩ (.slice ra2 M.rel.length rc2)) := HEW.out.set3 (by simp) _ _ _
        obtain ⟨d0, d1, d2, -⟩ := ((HO.out.set0 (.int .i64 M.worlds)).set1 (.slice va2 M.val.length vc2)).set2 (.slice ra2 M.rel.length rc2)
        have hag : Agree (w.heap.size + 2) wr (((wr.setCell ⟨w.heap.size + 1, 0, none⟩ (.int .i64 M.worlds)).setCell ⟨w.heap.size + 1, 1, none⟩ (.slice va2 M.val.length vc2)).setCell ⟨w.heap.size + 1, 2, none⟩ (.slice ra2 M.rel.length rc2)) := Agree.set3 (B := w.heap.size + 2) wr (b := w.heap.size + 1) (by omega) (.int .i64 M.worlds) (.slice va2 M.val.length vc2) (.slice ra2 M.rel.length rc2)
        generalize (((wr.setCell ⟨w.heap.size + 1, 0, none⟩ (.int .i64 M.worlds)).setCell ⟨w.heap.size + 1, 1, none⟩ (.slice va2 M.val.length vc2)).setCell ⟨w.heap.size + 1, 2, none⟩ (.slice ra2 M.rel.length rc2)) = W2 at *
        refine bodyPost_ret (v := .tuple #[.agg #[.int .i64 M.worlds, .slice va2 M.val.length vc2, .slice ra2 M.rel.length rc2], .int .i64 0]) ?_ rfl ?_
        · rw [results_cell_v rfl]
          go_simp
        · rw [HRE.out, HZ.out]
          exact ⟨va2, ra2, vc2, rc2, by simp, fun w'' hw => ((HFR.out.agree hag).agree (hw.mono (by omega))).rm, hEx⟩
end Wt
