/- Walks: wittingref44.together, Learns, Guesses, Traces (printed by gen_s4g.py). -/
import Derived.Test.YtflnfcmbalhpnaaGreatDoorM7Ab
import Derived.Deep.RegionHeld3
import Derived.Deep.CutRange
namespace Wt
open Go Go.RowKit Go.Maps Go.Proofs Fm

set_option maxRecDepth 20000 in
set_option maxHeartbeats 4000000 in
theorem r44together_any (N : Nat) (V : List (BitVec 64)) (R : List (List (BitVec 64))) (va ra : Option Addr) (vc rc : Nat) (x g i : Nat) (w : World) (hm : RM w va ra ⟨(N : Int), V, R⟩) (hg : 1 ≤ g ∧ g ≤ 15) (hi : i < 8) :
    Calls Tryz.prog 66 #[.agg #[.int .i64 (N : Int), .slice va V.length vc, .slice ra R.length rc], .int .i64 (x : Int), .int .i64 (g : Int), .int .i64 (i : Int)] w fun e w' => e = .returned (.bool (knowsW (⟨(N : Int), V, R⟩, (x : Int)) (g : Int) (i : Int))) ∧ Ext w w' := by
  have hE0 : Ext w (w.alloc (.cells #[.int .i64 (N : Int), .slice va V.length vc, .slice ra R.length rc] 25)) := (Ext.refl w).alloc _
  have HB0 := Lib.hid (OutAt.new w (.int .i64 (N : Int)) (.slice va V.length vc) (.slice ra R.length rc) 25)
  have HK : Hid (knowsW (⟨(N : Int), V, R⟩, (x : Int)) (g : Int) (i : Int) = (atOf ⟨(N : Int), V, R⟩ (x : Int) (ccDist (g : Int) (ccFact (i : Int))) || atOf ⟨(N : Int), V, R⟩ (x : Int) (ccDist (g : Int) (ccNot (ccFact (i : Int)))))) := Lib.hid rfl
  have HM := Lib.hid (hm.ext' hE0)
  have HAT := Lib.hid (fun W a c f (h : RM W va ra ⟨(N : Int), V, R⟩) (hf : RN W a f) => r17At_any ⟨(N : Int), V, R⟩ va ra vc rc (x : Int) a c f W h hf)
  have f1 := isF_fact hi
  have f2 := isF_notFact hi
  have z1 := fsize_leaf 3 (i : Int) 0 0
  have z2 := fsize_un (a := .leaf 3 (i : Int) 0 0) 4 0 0 0
  have z3 := fsize_un (a := .leaf 3 (i : Int) 0 0) 12 0 0 (g : Int)
  have z4 := fsize_un (a := .un 4 0 0 0 (.leaf 3 (i : Int) 0 0)) 12 0 0 (g : Int)
  have h15 : (1 : Int) ≤ (g : Int) ∧ (g : Int) ≤ 15 := by omega
  have HFA : Hid (∀ W, Calls Tryz.prog 55 #[.int .i64 (i : Int)] W fun e w' => RetN (ccFact (i : Int)) e W w') := Lib.hid fun W => (r5Fact_any i hi W).mono fun e w' h => h.n
  have HD1 : Hid (∀ W a c, RN W a (ccFact (i : Int)) → Calls Tryz.prog 101 #[.int .i64 (g : Int), .slice a (ccFact (i : Int)).length c] W fun e w' => RetN (ccDist (g : Int) (ccFact (i : Int))) e W w') := Lib.hid fun W a c h => (r5Dist_any (g : Int) a c (ccFact (i : Int)) _ W h f1 (fok_dist _ h15 f1.fk) (by omega)).mono fun e w' h => h.n
  have HNO : Hid (∀ W a c, RN W a (ccFact (i : Int)) → Calls Tryz.prog 90 #[.slice a (ccFact (i : Int)).length c] W fun e w' => RetN (ccNot (ccFact (i : Int))) e W w') := Lib.hid fun W a c h => (r5Not_any a c (ccFact (i : Int)) _ W h f1 (fok_notS f1.fk) (by omega)).mono fun e w' h => h.n
  have HD2 : Hid (∀ W a c, RN W a (ccNot (ccFact (i : Int))) → Calls Tryz.prog 101 #[.int .i64 (g : Int), .slice a (ccNot (ccFact (i : Int))).length c] W fun e w' => RetN (ccDist (g : Int) (ccNot (ccFact (i : Int)))) e W w') := Lib.hid fun W a c h => (r5Dist_any (g : Int) a c (ccNot (ccFact (i : Int))) _ W h f2 (fok_dist _ h15 f2.fk) (by omega)).mono fun e w' h => h.n
  generalize ccDist (g : Int) (ccFact (i : Int)) = D1 at *
  generalize ccDist (g : Int) (ccNot (ccFact (i : Int))) = D2 at *
  generalize ccNot (ccFact (i : Int)) = NF at *
  generalize ccFact (i : Int) = FF at *
  have HA1 : Hid (∀ W a c, RM W va ra ⟨(N : Int), V, R⟩ → RN W a D1 → Calls Tryz.prog 100 #[.agg #[.int .i64 (N : Int), .slice va V.length vc, .slice ra R.length rc], .int .i64 (x : Int), .slice a D1.length c] W fun e w' => RetP (.bool (atOf ⟨(N : Int), V, R⟩ (x : Int) D1)) (atErr ⟨(N : Int), V, R⟩ (x : Int) D1) e W w') := Lib.hid fun W a c => HAT.out W a c D1
  have HA2 : Hid (∀ W a c, RM W va ra ⟨(N : Int), V, R⟩ → RN W a D2 → Calls Tryz.prog 100 #[.agg #[.int .i64 (N : Int), .slice va V.length vc, .slice ra R.length rc], .int .i64 (x : Int), .slice a D2.length c] W fun e w' => RetP (.bool (atOf ⟨(N : Int), V, R⟩ (x : Int) D2)) (atErr ⟨(N : Int), V, R⟩ (x : Int) D2) e W w') := Lib.hid fun W a c => HAT.out W a c D2
  generalize atOf ⟨(N : Int), V, R⟩ (x : Int) D1 = y1 at *
  generalize atOf ⟨(N : Int), V, R⟩ (x : Int) D2 = y2 at *
  generalize atErr ⟨(N : Int), V, R⟩ (x : Int) D1 = e1 at *
  generalize atErr ⟨(N : Int), V, R⟩ (x : Int) D2 = e2 at *
  have HE0 := Lib.hid hE0
  clear hE0 hm HAT f1 f2 z1 z2 z3 z4 h15 hg hi
  go_enter Tryz.func66, Tryz.ntmps66
  go_upto_region 1 with fail
  generalize w.alloc (.cells #[.int .i64 (N : Int), .slice va V.length vc, .slice ra R.length rc] 25) = w1 at *
  have HRM : Hid (∀ W, Ext w1 W → RM W va ra ⟨(N : Int), V, R⟩) := Lib.hid fun W e => HM.out.ext' e
  have HKP : Hid (∀ w', Ext w1 w' → w'.cell? ⟨w.heap.size, 0, none⟩ = some (.int .i64 (N : Int)) ∧ w'.cell? ⟨w.heap.size, 1, none⟩ = some (.slice va V.length vc) ∧ w'.cell? ⟨w.heap.size, 2, none⟩ = some (.slice ra R.length rc)) := Lib.hid fun w' e => by
    obtain ⟨c0, c1, c2, -⟩ := HB0.out.ext e
    exact ⟨c0, c1, c2⟩
  have HA1 : Hid (∀ W a c, Ext w1 W → RN W a D1 → Calls Tryz.prog 100 #[.agg #[.int .i64 (N : Int), .slice va V.length vc, .slice ra R.length rc], .int .i64 (x : Int), .slice a D1.length c] W fun e w' => RetP (.bool y1) e1 e W w') := Lib.hid fun W a c h => HA1.out W a c (HRM.out W h)
  obtain ⟨m0, m1, m2⟩ := HKP.out w1 (Ext.refl _)
  have ml := World.block_lt_of_cell? _ _ m0
  go_cut [9, 10] from 13 to 22 (fun s1 s2 wc => s1 = .bool y1 ∧ Hid (Ext w1 wc))
  case first =>
    go_region_held3 (fun w' => w'.cell? ⟨w.heap.size, 0, none⟩ = some (.int .i64 (N : Int)) ∧ w'.cell? ⟨w.heap.size, 1, none⟩ = some (.slice va V.length vc) ∧ w'.cell? ⟨w.heap.size, 2, none⟩ = some (.slice ra R.length rc)) (first | exact HKP.out _ (Ext.refl _) | exact HKP.out _ ((Ext.refl _).drew) | exact HKP.out _ (by first | exact Ext.refl _ | exact (Ext.refl _).drew | assumption | (refine Ext.trans ?_ (by assumption); first | exact Ext.refl _ | exact (Ext.refl _).drew | assumption | (refine Ext.trans ?_ (by assumption); first | exact Ext.refl _ | exact (Ext.refl _).drew | assumption | (refine Ext.trans ?_ (by assumption); first | exact Ext.refl _ | exact (Ext.refl _).drew | assumption | (refine Ext.trans ?_ (by assumption); first | exact Ext.refl _ | exact (Ext.refl _).drew | assumption))))) | go_keep)
      (first | (go_at_call 55; refine (HFA.out _).mono ?_; rintro _ wf ⟨fa, fc, rfl, hrf, hYf⟩) | (go_at_call 101; refine (HD1.out _ _ _ (by assumption)).mono ?_; rintro _ wd ⟨da, dc, rfl, hrd, hYd⟩) | (go_at_call 100; refine (HA1.out _ _ _ (by first | exact Ext.refl _ | exact (Ext.refl _).drew | assumption | (refine Ext.trans ?_ (by assumption); first | exact Ext.refl _ | exact (Ext.refl _).drew | assumption | (refine Ext.trans ?_ (by assumption); first | exact Ext.refl _ | exact (Ext.refl _).drew | assumption | (refine Ext.trans ?_ (by assumption); first | exact Ext.refl _ | exact (Ext.refl _).drew | assumption | (refine Ext.trans ?_ (by assumption); first | exact Ext.refl _ | exact (Ext.refl _).drew | assumption))))) (by assumption)).mono ?_; rintro _ wv ⟨rfl, hYv⟩) | fail)
    all_goals
      go_wp2_with fail
      go_meet
      case rel => exact ⟨rfl, Lib.hid (by first | exact Ext.refl _ | exact (Ext.refl _).drew | assumption | (refine Ext.trans ?_ (by assumption); first | exact Ext.refl _ | exact (Ext.refl _).drew | assumption | (refine Ext.trans ?_ (by assumption); first | exact Ext.refl _ | exact (Ext.refl _).drew | assumption | (refine Ext.trans ?_ (by assumption); first | exact Ext.refl _ | exact (Ext.refl _).drew | assumption | (refine Ext.trans ?_ (by assumption); first | exact Ext.refl _ | exact (Ext.refl _).drew | assumption)))))⟩
  case rest =>
    obtain ⟨rfl, HEC⟩ := hcut
    rename World => w2
    have HKP2 : Hid (∀ w', Ext w2 w' → w'.cell? ⟨w.heap.size, 0, none⟩ = some (.int .i64 (N : Int)) ∧ w'.cell? ⟨w.heap.size, 1, none⟩ = some (.slice va V.length vc) ∧ w'.cell? ⟨w.heap.size, 2, none⟩ = some (.slice ra R.length rc)) := Lib.hid fun w' e => HKP.out w' (HEC.out.trans e)
    have HA3 : Hid (∀ W a c, Ext w2 W → RN W a D2 → Calls Tryz.prog 100 #[.agg #[.int .i64 (N : Int), .slice va V.length vc, .slice ra R.length rc], .int .i64 (x : Int), .slice a D2.length c] W fun e w' => RetP (.bool y2) e2 e W w') := Lib.hid fun W a c h => HA2.out W a c (HRM.out W (HEC.out.trans h))
    clear m0 m1 m2 ml
    obtain ⟨m0, m1, m2⟩ := HKP2.out w2 (Ext.refl _)
    have ml := World.block_lt_of_cell? _ _ m0
    go_upto_region 2 with fail
    go_cut [11, 12] from 23 to 33 (fun s1 s2 wc => s1 = .bool y2 ∧ Hid (Ext w2 wc))
    case first =>
      go_region_held3 (fun w' => w'.cell? ⟨w.heap.size, 0, none⟩ = some (.int .i64 (N : Int)) ∧ w'.cell? ⟨w.heap.size, 1, none⟩ = some (.slice va V.length vc) ∧ w'.cell? ⟨w.heap.size, 2, none⟩ = some (.slice ra R.length rc)) (first | exact HKP2.out _ (Ext.refl _) | exact HKP2.out _ ((Ext.refl _).drew) | exact HKP2.out _ (by first | exact Ext.refl _ | exact (Ext.refl _).drew | assumption | (refine Ext.trans ?_ (by assumption); first | exact Ext.refl _ | exact (Ext.refl _).drew | assumption | (refine Ext.trans ?_ (by assumption); first | exact Ext.refl _ | exact (Ext.refl _).drew | assumption | (refine Ext.trans ?_ (by assumption); first | exact Ext.refl _ | exact (Ext.refl _).drew | assumption | (refine Ext.trans ?_ (by assumption); first | exact Ext.refl _ | exact (Ext.refl _).drew | assumption))))) | go_keep)
        (first | (go_at_call 55; refine (HFA.out _).mono ?_; rintro _ wf ⟨fa, fc, rfl, hrf, hYf⟩) | (go_at_call 90; refine (HNO.out _ _ _ (by assumption)).mono ?_; rintro _ wn ⟨na, nc, rfl, hrn, hYn⟩) | (go_at_call 101; refine (HD2.out _ _ _ (by assumption)).mono ?_; rintro _ wd ⟨da, dc, rfl, hrd, hYd⟩) | (go_at_call 100; refine (HA3.out _ _ _ (by first | exact Ext.refl _ | exact (Ext.refl _).drew | assumption | (refine Ext.trans ?_ (by assumption); first | exact Ext.refl _ | exact (Ext.refl _).drew | assumption | (refine Ext.trans ?_ (by assumption); first | exact Ext.refl _ | exact (Ext.refl _).drew | assumption | (refine Ext.trans ?_ (by assumption); first | exact Ext.refl _ | exact (Ext.refl _).drew | assumption | (refine Ext.trans ?_ (by assumption); first | exact Ext.refl _ | exact (Ext.refl _).drew | assumption))))) (by assumption)).mono ?_; rintro _ wv ⟨rfl, hYv⟩) | fail)
      all_goals
        go_wp2_with fail
        go_meet
        case rel => exact ⟨rfl, Lib.hid (by first | exact Ext.refl _ | exact (Ext.refl _).drew | assumption | (refine Ext.trans ?_ (by assumption); first | exact Ext.refl _ | exact (Ext.refl _).drew | assumption | (refine Ext.trans ?_ (by assumption); first | exact Ext.refl _ | exact (Ext.refl _).drew | assumption | (refine Ext.trans ?_ (by assumption); first | exact Ext.refl _ | exact (Ext.refl _).drew | assumption | (refine Ext.trans ?_ (by assumption); first | exact Ext.refl _ | exact (Ext.refl _).drew | assumption)))))⟩
    case rest =>
      obtain ⟨rfl, HEC2⟩ := hcut
      rename World => w3
      cases y1
      all_goals
        go_wp2_with fail
        go_ret
        exact ⟨by rw [HK.out]; rfl, HE0.out.trans (HEC.out.trans HEC2.out)⟩
set_option maxRecDepth 20000 in
set_option maxHeartbeats 4000000 in
theorem r44Learns_yes (v : Int) (N x G I n : Nat) (V : List (BitVec 64)) (R : List (List (BitVec 64))) (hn : 2 ≤ n ∧ n ≤ 4) (hg : 1 ≤ G ∧ (G : Int) ≤ p2 n - 1) (hi : I < n) (w : World) (hc : Calls Tryz.prog 27 #[.int .i64 (n : Int), .int .i64 v] w fun e w' => RetGE (⟨(N : Int), V, R⟩, (x : Int)) 0 e w w') :
    Calls Tryz.prog 31 #[.int .i64 (n : Int), .int .i64 v, .int .i64 (G : Int), .int .i64 (I : Int)] w fun e w' => RetP (.bool (knowsW (⟨(N : Int), V, R⟩, (x : Int)) (G : Int) (I : Int))) 0 e w w' := by
  have h63 : n < 63 := by omega
  obtain ⟨hq1, hq2⟩ := pw_int hn.2
  have hb1 : btw (G : Int) 1 (p2 n - 1) = true := btw_yes (by omega)
  have hb2 : btw (I : Int) 0 ((n : Int) - 1) = true := btw_yes (by omega)
  have HC := Lib.hid hc
  have HA := Lib.hid (fun va ra vc rc W (hm : RM W va ra ⟨(N : Int), V, R⟩) => r44together_any N V R va ra vc rc x G I W hm (by omega) (by omega))
  generalize knowsW (⟨(N : Int), V, R⟩, (x : Int)) (G : Int) (I : Int) = y at *
  clear hc hg hi
  go_enter Tryz.func31, Tryz.ntmps31
  go_wp2_with fail
  refine HC.out.mono ?_
  rintro _ w1 ⟨va, ra, vc, rc, rfl, hk1, hE1⟩
  have hA1 : Ext w1 (w1.alloc (.cells #[.int .i64 (N : Int), .slice va V.length vc, .slice ra R.length rc] 25)) := (Ext.refl w1).alloc _
  have HM1 := Lib.hid (hk1 _ (Agree.ofExt hA1))
  have HE1 := Lib.hid (hE1.trans hA1)
  clear hk1 hE1 hA1
  dsimp only
  go_wp2_with (first | (go_at_call 54; refine (r44in_any _ _ _ _).mono ?_; rintro _ _ ⟨rfl, rfl⟩) | fail)
  refine (HA.out va ra vc rc _ HM1.out).mono ?_
  rintro _ w2 ⟨rfl, hE2⟩
  dsimp only
  go_wp2_with fail
  go_ret2
  exact ⟨rfl, HE1.out.trans hE2⟩
set_option maxRecDepth 20000 in
set_option maxHeartbeats 4000000 in
theorem r44Learns_noA (v : Int) (n g i : Int) (w : World) (hc : Calls Tryz.prog 27 #[.int .i64 n, .int .i64 v] w fun e w' => RetGE (⟨0, [], []⟩, 0) 2 e w w') :
    Calls Tryz.prog 31 #[.int .i64 n, .int .i64 v, .int .i64 g, .int .i64 i] w fun e w' => RetP (.bool false) 2 e w w' := by
  have HC := Lib.hid hc
  clear hc
  go_enter Tryz.func31, Tryz.ntmps31
  go_wp2_with fail
  refine HC.out.mono ?_
  rintro _ w1 ⟨va, ra, vc, rc, rfl, hk1, hE1⟩
  have hA1 : Ext w1 (w1.alloc (.cells #[.int .i64 0, .slice va 0 vc, .slice ra 0 rc] 25)) := (Ext.refl w1).alloc _
  have HE1 := Lib.hid (hE1.trans hA1)
  clear hk1 hE1 hA1
  dsimp only
  go_wp2_with (first | (go_at_call 54; refine (r44in_any _ _ _ _).mono ?_; rintro _ _ ⟨rfl, rfl⟩) | fail)
  go_ret2
  exact ⟨rfl, HE1.out⟩
set_option maxRecDepth 20000 in
set_option maxHeartbeats 4000000 in
theorem r44Learns_noB (v : Int) (n : Nat) (g i : Int) (P : Mo × Int) (hn : 2 ≤ n ∧ n ≤ 4) (hb : gBad n g i) (w : World) (hc : Calls Tryz.prog 27 #[.int .i64 (n : Int), .int .i64 v] w fun e w' => RetGE P 0 e w w') :
    Calls Tryz.prog 31 #[.int .i64 (n : Int), .int .i64 v, .int .i64 g, .int .i64 i] w fun e w' => RetP (.bool false) 2 e w w' := by
  have h63 : n < 63 := by omega
  obtain ⟨hq1, hq2⟩ := pw_int hn.2
  have HC := Lib.hid hc
  clear hc
  rcases hb with hb1 | ⟨hb1, hb2⟩
  all_goals
    go_enter Tryz.func31, Tryz.ntmps31
    go_wp2_with fail
    refine HC.out.mono ?_
    rintro _ w1 ⟨va, ra, vc, rc, rfl, hk1, hE1⟩
    have hA1 : Ext w1 (w1.alloc (.cells #[.int .i64 P.1.worlds, .slice va P.1.val.length vc, .slice ra P.1.rel.length rc] 25)) := (Ext.refl w1).alloc _
    have HE1 := Lib.hid (hE1.trans hA1)
    clear hk1 hE1 hA1
    dsimp only
    go_wp2_with (first | (go_at_call 54; refine (r44in_any _ _ _ _).mono ?_; rintro _ _ ⟨rfl, rfl⟩) | fail)
    go_ret2
    exact ⟨rfl, HE1.out⟩
set_option maxRecDepth 20000 in
set_option maxHeartbeats 4000000 in
theorem r44Guesses_yes (v q : Int) (N x G I n : Nat) (V : List (BitVec 64)) (R : List (List (BitVec 64))) (hn : 2 ≤ n ∧ n ≤ 4) (hg : 1 ≤ G ∧ (G : Int) ≤ p2 n - 1) (hi : I < n) (w : World) (hc : Calls Tryz.prog 29 #[.int .i64 (n : Int), .int .i64 v, .int .i64 q] w fun e w' => RetGE (⟨(N : Int), V, R⟩, (x : Int)) 0 e w w') :
    Calls Tryz.prog 32 #[.int .i64 (n : Int), .int .i64 v, .int .i64 q, .int .i64 (G : Int), .int .i64 (I : Int)] w fun e w' => RetP (.bool (knowsW (⟨(N : Int), V, R⟩, (x : Int)) (G : Int) (I : Int))) 0 e w w' := by
  have h63 : n < 63 := by omega
  obtain ⟨hq1, hq2⟩ := pw_int hn.2
  have hb1 : btw (G : Int) 1 (p2 n - 1) = true := btw_yes (by omega)
  have hb2 : btw (I : Int) 0 ((n : Int) - 1) = true := btw_yes (by omega)
  have HC := Lib.hid hc
  have HA := Lib.hid (fun va ra vc rc W (hm : RM W va ra ⟨(N : Int), V, R⟩) => r44together_any N V R va ra vc rc x G I W hm (by omega) (by omega))
  generalize knowsW (⟨(N : Int), V, R⟩, (x : Int)) (G : Int) (I : Int) = y at *
  clear hc hg hi
  go_enter Tryz.func32, Tryz.ntmps32
  go_wp2_with fail
  refine HC.out.mono ?_
  rintro _ w1 ⟨va, ra, vc, rc, rfl, hk1, hE1⟩
  have hA1 : Ext w1 (w1.alloc (.cells #[.int .i64 (N : Int), .slice va V.length vc, .slice ra R.length rc] 25)) := (Ext.refl w1).alloc _
  have HM1 := Lib.hid (hk1 _ (Agree.ofExt hA1))
  have HE1 := Lib.hid (hE1.trans hA1)
  clear hk1 hE1 hA1
  dsimp only
  go_wp2_with (first | (go_at_call 54; refine (r44in_any _ _ _ _).mono ?_; rintro _ _ ⟨rfl, rfl⟩) | fail)
  refine (HA.out va ra vc rc _ HM1.out).mono ?_
  rintro _ w2 ⟨rfl, hE2⟩
  dsimp only
  go_wp2_with fail
  go_ret2
  exact ⟨rfl, HE1.out.trans hE2⟩
set_option maxRecDepth 20000 in
set_option maxHeartbeats 4000000 in
theorem r44Guesses_noA (v q : Int) (n g i : Int) (w : World) (hc : Calls Tryz.prog 29 #[.int .i64 n, .int .i64 v, .int .i64 q] w fun e w' => RetGE (⟨0, [], []⟩, 0) 2 e w w') :
    Calls Tryz.prog 32 #[.int .i64 n, .int .i64 v, .int .i64 q, .int .i64 g, .int .i64 i] w fun e w' => RetP (.bool false) 2 e w w' := by
  have HC := Lib.hid hc
  clear hc
  go_enter Tryz.func32, Tryz.ntmps32
  go_wp2_with fail
  refine HC.out.mono ?_
  rintro _ w1 ⟨va, ra, vc, rc, rfl, hk1, hE1⟩
  have hA1 : Ext w1 (w1.alloc (.cells #[.int .i64 0, .slice va 0 vc, .slice ra 0 rc] 25)) := (Ext.refl w1).alloc _
  have HE1 := Lib.hid (hE1.trans hA1)
  clear hk1 hE1 hA1
  dsimp only
  go_wp2_with (first | (go_at_call 54; refine (r44in_any _ _ _ _).mono ?_; rintro _ _ ⟨rfl, rfl⟩) | fail)
  go_ret2
  exact ⟨rfl, HE1.out⟩
set_option maxRecDepth 20000 in
set_option maxHeartbeats 4000000 in
theorem r44Guesses_noB (v q : Int) (n : Nat) (g i : Int) (P : Mo × Int) (hn : 2 ≤ n ∧ n ≤ 4) (hb : gBad n g i) (w : World) (hc : Calls Tryz.prog 29 #[.int .i64 (n : Int), .int .i64 v, .int .i64 q] w fun e w' => RetGE P 0 e w w') :
    Calls Tryz.prog 32 #[.int .i64 (n : Int), .int .i64 v, .int .i64 q, .int .i64 g, .int .i64 i] w fun e w' => RetP (.bool false) 2 e w w' := by
  have h63 : n < 63 := by omega
  obtain ⟨hq1, hq2⟩ := pw_int hn.2
  have HC := Lib.hid hc
  clear hc
  rcases hb with hb1 | ⟨hb1, hb2⟩
  all_goals
    go_enter Tryz.func32, Tryz.ntmps32
    go_wp2_with fail
    refine HC.out.mono ?_
    rintro _ w1 ⟨va, ra, vc, rc, rfl, hk1, hE1⟩
    have hA1 : Ext w1 (w1.alloc (.cells #[.int .i64 P.1.worlds, .slice va P.1.val.length vc, .slice ra P.1.rel.length rc] 25)) := (Ext.refl w1).alloc _
    have HE1 := Lib.hid (hE1.trans hA1)
    clear hk1 hE1 hA1
    dsimp only
    go_wp2_with (first | (go_at_call 54; refine (r44in_any _ _ _ _).mono ?_; rintro _ _ ⟨rfl, rfl⟩) | fail)
    go_ret2
    exact ⟨rfl, HE1.out⟩
set_option maxRecDepth 20000 in
set_option maxHeartbeats 4000000 in
theorem r44Traces_yes (v q : Int) (N x G I n : Nat) (V : List (BitVec 64)) (R : List (List (BitVec 64))) (hn : 2 ≤ n ∧ n ≤ 4) (hg : 1 ≤ G ∧ (G : Int) ≤ p2 n - 1) (hi : I < n) (w : World) (hc : Calls Tryz.prog 21 #[.int .i64 (n : Int), .int .i64 v, .int .i64 q] w fun e w' => RetGE (⟨(N : Int), V, R⟩, (x : Int)) 0 e w w') :
    Calls Tryz.prog 23 #[.int .i64 (n : Int), .int .i64 v, .int .i64 q, .int .i64 (G : Int), .int .i64 (I : Int)] w fun e w' => RetP (.bool (knowsW (⟨(N : Int), V, R⟩, (x : Int)) (G : Int) (I : Int))) 0 e w w' := by
  have h63 : n < 63 := by omega
  obtain ⟨hq1, hq2⟩ := pw_int hn.2
  have hb1 : btw (G : Int) 1 (p2 n - 1) = true := btw_yes (by omega)
  have hb2 : btw (I : Int) 0 ((n : Int) - 1) = true := btw_yes (by omega)
  have HC := Lib.hid hc
  have HA := Lib.hid (fun va ra vc rc W (hm : RM W va ra ⟨(N : Int), V, R⟩) => r44together_any N V R va ra vc rc x G I W hm (by omega) (by omega))
  generalize knowsW (⟨(N : Int), V, R⟩, (x : Int)) (G : Int) (I : Int) = y at *
  clear hc hg hi
  go_enter Tryz.func23, Tryz.ntmps23
  go_wp2_with fail
  refine HC.out.mono ?_
  rintro _ w1 ⟨va, ra, vc, rc, rfl, hk1, hE1⟩
  have hA1 : Ext w1 (w1.alloc (.cells #[.int .i64 (N : Int), .slice va V.length vc, .slice ra R.length rc] 25)) := (Ext.refl w1).alloc _
  have HM1 := Lib.hid (hk1 _ (Agree.ofExt hA1))
  have HE1 := Lib.hid (hE1.trans hA1)
  clear hk1 hE1 hA1
  dsimp only
  go_wp2_with (first | (go_at_call 54; refine (r44in_any _ _ _ _).mono ?_; rintro _ _ ⟨rfl, rfl⟩) | fail)
  refine (HA.out va ra vc rc _ HM1.out).mono ?_
  rintro _ w2 ⟨rfl, hE2⟩
  dsimp only
  go_wp2_with fail
  go_ret2
  exact ⟨rfl, HE1.out.trans hE2⟩
set_option maxRecDepth 20000 in
set_option maxHeartbeats 4000000 in
theorem r44Traces_noA (v q : Int) (n g i : Int) (w : World) (hc : Calls Tryz.prog 21 #[.int .i64 n, .int .i64 v, .int .i64 q] w fun e w' => RetGE (⟨0, [], []⟩, 0) 2 e w w') :
    Calls Tryz.prog 23 #[.int .i64 n, .int .i64 v, .int .i64 q, .int .i64 g, .int .i64 i] w fun e w' => RetP (.bool false) 2 e w w' := by
  have HC := Lib.hid hc
  clear hc
  go_enter Tryz.func23, Tryz.ntmps23
  go_wp2_with fail
  refine HC.out.mono ?_
  rintro _ w1 ⟨va, ra, vc, rc, rfl, hk1, hE1⟩
  have hA1 : Ext w1 (w1.alloc (.cells #[.int .i64 0, .slice va 0 vc, .slice ra 0 rc] 25)) := (Ext.refl w1).alloc _
  have HE1 := Lib.hid (hE1.trans hA1)
  clear hk1 hE1 hA1
  dsimp only
  go_wp2_with (first | (go_at_call 54; refine (r44in_any _ _ _ _).mono ?_; rintro _ _ ⟨rfl, rfl⟩) | fail)
  go_ret2
  exact ⟨rfl, HE1.out⟩
set_option maxRecDepth 20000 in
set_option maxHeartbeats 4000000 in
theorem r44Traces_noB (v q : Int) (n : Nat) (g i : Int) (P : Mo × Int) (hn : 2 ≤ n ∧ n ≤ 4) (hb : gBad n g i) (w : World) (hc : Calls Tryz.prog 21 #[.int .i64 (n : Int), .int .i64 v, .int .i64 q] w fun e w' => RetGE P 0 e w w') :
    Calls Tryz.prog 23 #[.int .i64 (n : Int), .int .i64 v, .int .i64 q, .int .i64 g, .int .i64 i] w fun e w' => RetP (.bool false) 2 e w w' := by
  have h63 : n < 63 := by omega
  obtain ⟨hq1, hq2⟩ := pw_int hn.2
  have HC := Lib.hid hc
  clear hc
  rcases hb with hb1 | ⟨hb1, hb2⟩
  all_goals
    go_enter Tryz.func23, Tryz.ntmps23
    go_wp2_with fail
    refine HC.out.mono ?_
    rintro _ w1 ⟨va, ra, vc, rc, rfl, hk1, hE1⟩
    have hA1 : Ext w1 (w1.alloc (.cells #[.int .i64 P.1.worlds, .slice va P.1.val.length vc, .slice ra P.1.rel.length rc] 25)) := (Ext.refl w1).alloc _
    have HE1 := Lib.hid (hE1.trans hA1)
    clear hk1 hE1 hA1
    dsimp only
    go_wp2_with (first | (go_at_call 54; refine (r44in_any _ _ _ _).mono ?_; rintro _ _ ⟨rfl, rfl⟩) | fail)
    go_ret2
    exact ⟨rfl, HE1.out⟩
end Wt

namespace Wt
open Go Go.RowKit Go.Maps Go.Proofs Fm

structure SpR (b : Nat) (w : World) (P : Mo) (wr : World) : Prop where
  lo : w.heap.size + 1 ≤ b
  e : Ext w wr
  box : ∃ va ra vc rc, OutAt wr b (.int .i64 P.worlds) (.slice va P.val.length vc) (.slice ra P.rel.length rc) ∧ ∀ w'', AgreeX (w.heap.size + 1) b wr w'' → RM w'' va ra P
  res : OutAt wr w.heap.size (.int .i64 0) (.slice none 0 0) (.slice none 0 0)
set_option maxRecDepth 20000 in
set_option maxHeartbeats 4000000 in
theorem r44spoken0_any (n c : Nat) (hn : 2 ≤ n ∧ n ≤ 3) (hc : c < 2 ^ n) (w : World) :
    Calls Tryz.prog 21 #[.int .i64 (n : Int), .int .i64 (-1), .int .i64 (c : Int)] w fun e w' => RetGE (spokeTo n 0 c n) 0 e w w' := by
  have h8 : 2 ^ n ≤ 8 := by rcases (show n = 2 ∨ n = 3 by omega) with rfl | rfl <;> decide
  have h63 : n < 63 := by omega
  obtain ⟨hq1, hq2⟩ := pw_int (show n ≤ 4 by omega)
  obtain ⟨s, hs⟩ : ∃ s, s = dinSt n 0 c := ⟨_, rfl⟩
  have HST : Hid (slN c n = (s : Int)) := Lib.hid (by rw [hs]; exact st_zero n c)
  have hst := HST.out
  have hcn : c * 2 ^ n < 4611686018427387904 := by
    have := Nat.mul_le_mul (show c ≤ 7 by omega) h8
    omega
  have hb0 : btw (n : Int) 2 3 = true := btw_yes (by omega)
  have hb1 : btw (-1) (-1) ((n : Int) - 1) = true := btw_yes (by omega)
  have hb2 : btw (c : Int) 0 (p2 n - 1) = true := btw_yes (by unfold p2; omega)
  have HDI := Lib.hid (r44dining_any n hn)
  have HSAY := Lib.hid (fun k hk W => r44says_any n k hn hk W)
  have HP0 : Hid (spokeTo n 0 c 0 = (dinM n, posI (dinS n) (s : Int))) := Lib.hid (by rw [hs]; rfl)
  have HPS : Hid (∀ k, spokeTo n 0 c (k + 1) = annW (spokeTo n 0 c k) (sayF n k)) := Lib.hid fun k => rfl
  have HOK : Hid (∀ k, k ≤ n → okP n (2 * n) (spokeTo n 0 c k) = true ∧ (spokeTo n 0 c k).1.worlds < 64) := Lib.hid fun k hk => ⟨sp_ok hn (Nat.zero_le _) hc hk, sp_lt hn (Nat.zero_le _) hc hk⟩
  generalize spokeTo n 0 c = SP at *
  have hE0 : Ext w (w.alloc (.cells #[.int .i64 0, .slice none 0 0, .slice none 0 0] 25)) := (Ext.refl w).alloc _
  have HR0 := Lib.hid (OutAt.new w (.int .i64 0) (.slice none 0 0) (.slice none 0 0) 25)
  have HS0 : Hid ((w.alloc (.cells #[.int .i64 0, .slice none 0 0, .slice none 0 0] 25)).heap.size = w.heap.size + 1) := Lib.hid (by simp)
  have HE0 := Lib.hid hE0
  have HN := Lib.hid hn
  generalize dinM n = A at *
  generalize dinS n = SS at *
  obtain ⟨K, hK, hpos, hat, hno⟩ := posI_pos (l := SS) (x := (s : Int)) (by have := okP_pos (HOK.out 0 (Nat.zero_le _)).1; rw [HP0.out] at this; exact this)
  have HNO := Lib.hid hno
  have HPO : Hid ((SP 0).1 = A ∧ (SP 0).2 = (K : Int)) := Lib.hid (by rw [HP0.out]; exact ⟨rfl, hpos⟩)
  have HLL := Lib.hid (natI_len SS)
  clear hE0 hc h8 hs hno hpos HP0
  go_enter Tryz.func21, Tryz.ntmps21
  go_wp2_with (first | (go_at_call 54; refine (r44in_any _ _ _ _).mono ?_; rintro _ _ ⟨rfl, rfl⟩) | fail)
  generalize w.alloc (.cells #[.int .i64 0, .slice none 0 0, .slice none 0 0] 25) = W0 at *
  refine (HDI.out _).mono ?_
  rintro _ w1 ⟨va, ra, la, vc, rc, lc, rfl, hk1, hE1⟩
  have HK1 := Lib.hid hk1
  have HE1 := Lib.hid hE1
  have HA1 : Hid (Ext w1 (w1.alloc (.cells #[.int .i64 A.worlds, .slice va A.val.length vc, .slice ra A.rel.length rc] 25))) := Lib.hid ((Ext.refl w1).alloc _)
  have HO1 := Lib.hid (OutAt.new w1 (.int .i64 A.worlds) (.slice va A.val.length vc) (.slice ra A.rel.length rc) 25)
  clear hk1 hE1
  dsimp only
  go_wp2_with fail
  have HW2 : Hid (Ext w (w1.alloc (.cells #[.int .i64 A.worlds, .slice va A.val.length vc, .slice ra A.rel.length rc] 25))) := Lib.hid (HE0.out.trans (HE1.out.trans HA1.out))
  have HRI := Lib.hid ((HK1.out _ (Agree.ofExt HA1.out)).2)
  have HSZ1 : Hid (w.heap.size + 1 ≤ w1.heap.size) := Lib.hid (Nat.lt_of_lt_of_le HR0.out.lt HE1.out.size)
  have HSP0 : Hid (SpR w1.heap.size w A (w1.alloc (.cells #[.int .i64 A.worlds, .slice va A.val.length vc, .slice ra A.rel.length rc] 25))) := Lib.hid ⟨HSZ1.out, HW2.out, ⟨va, ra, vc, rc, HO1.out, fun w'' ha => (HK1.out w'' ((ha.ext HA1.out).agree (Nat.le_of_eq HS0.out.symm) (.inr (Nat.le_refl _)))).1⟩, HR0.out.ext (HE1.out.trans HA1.out)⟩
  generalize w1.alloc (.cells #[.int .i64 A.worlds, .slice va A.val.length vc, .slice ra A.rel.length rc] 25) = w2 at *
  generalize w1.heap.size = b at *
  go_loopw [13] (fun i wr => ∃ k : Nat, k ≤ K ∧ i = .int .i64 (k : Int) ∧ wr = w2) (fun i _ => K - (intOf i).toNat)
  case atStart => exact ⟨0, Nat.zero_le _, rfl, rfl⟩
  case round =>
    obtain ⟨k, hk, rfl, rfl⟩ := hrel
    have hkl : k < SS.length := by omega
    have hlb : (natI SS).length ≤ 140737488355328 := HRI.out.len
    have hkn : k < (natI SS).length := by have := HLL.out; omega
    obtain ⟨b1, off, rfl, hb, hc⟩ := HRI.out.get (k := k) hkn
    rw [nth_natI hkl] at hc
    by_cases hlt : k < K
    · have hq : (((nth SS k : Nat) : Int) != (s : Int)) = true := by simpa using HNO.out k hlt
      go_wp2_with fail
      go_roundw
      case rel => exact ⟨k + 1, hlt, by go_num, trivial⟩
      case measure => simp [intOf]; omega
    · obtain rfl : k = K := by omega
      have hq : (((nth SS k : Nat) : Int) != (s : Int)) = false := by simp [hat]
      go_wp2_with fail
      clear hb hc hq hkl hk hlt hK hat hst hkn hlb
      go_loopw [13, 14] (fun a i wz => ∃ j : Nat, j ≤ n ∧ a = .int .i64 (SP j).2 ∧ i = .int .i64 (j : Int) ∧ Hid (SpR b w (SP j).1 wz)) (fun _ i _ => n - (intOf i).toNat)
      case atStart => exact ⟨0, Nat.zero_le _, by rw [HPO.out.2], rfl, Lib.hid (by rw [HPO.out.1]; exact HSP0.out)⟩
      case round =>
        obtain ⟨j, hj, rfl, rfl, HSK⟩ := hrel
        have hnn := HN.out
        by_cases hlt : j < n
        · obtain ⟨N, x, ok, -, hpx, hxN, -, -⟩ := okP_at (HOK.out j hj).1
          have h64 := (HOK.out j hj).2
          have hwN := ok.worlds
          have HNX := Lib.hid (HPS.out j)
          have HPN := Lib.hid (okP_pos (HOK.out (j + 1) hlt).1)
          have HSY := Lib.hid (HSAY.out j hlt)
          generalize hQe : SP (j + 1) = Q at *
          have HQE := Lib.hid hQe
          clear hQe
          generalize SP j = P at *
          generalize sayF n j = F at *
          obtain ⟨⟨W, V, R⟩, px⟩ := P
          obtain rfl : W = (N : Int) := hwN
          obtain rfl : px = (x : Int) := hpx
          obtain ⟨va2, ra2, vc2, rc2, hbx, hk2⟩ := HSK.out.box
          have HBX := Lib.hid hbx
          have HK2 := Lib.hid hk2
          have HER := Lib.hid HSK.out.e
          have HLO := Lib.hid HSK.out.lo
          have HRS := Lib.hid HSK.out.res
          have HN64 : Hid (N < 64 ∧ x < 64) := Lib.hid ⟨by have : (N : Int) < 64 := h64; omega, by have : (N : Int) < 64 := h64; omega⟩
          have HAN := Lib.hid (fun W fa fc (hm : RM W va2 ra2 ⟨(N : Int), V, R⟩) (hf : RN W fa F) => r44announce_any N V R va2 ra2 vc2 rc2 x fa fc F W HN64.out.1 HN64.out.2 hm hf (by rw [← HNX.out]; exact HPN.out))
          simp only [← HNX.out] at HAN
          clear hbx hk2 HSK ok h64 hxN HNX HPN
          go_wp2_with (first | (go_at_call 15; refine (HSY.out _).mono ?_; rintro _ w3 ⟨a3, c3, rfl, h3, hE3⟩; have HR3 := Lib.hid h3; have HE3 := Lib.hid hE3; have HB3 := Lib.hid (HBX.out.ext hE3); obtain ⟨p0, p1, p2', -⟩ := HB3.out; have pl := HB3.out.lt; clear h3 hE3) | fail)
          refine (HAN.out _ a3 c3 (HK2.out _ (AgreeX.of (Agree.ofExt HE3.out))) HR3.out).mono ?_
          rintro _ w6 ⟨va6, ra6, vc6, rc6, rfl, hk6, hE6⟩
          have HK6 := Lib.hid hk6
          have HE36 := Lib.hid (HE3.out.trans hE6)
          have HB6 := Lib.hid (HBX.out.ext (HE3.out.trans hE6))
          have HLB : Hid (b < w3.heap.size) := Lib.hid (HBX.out.ext HE3.out).lt
          clear p0 p1 p2' pl hk6 hE6
          obtain ⟨p0, p1, p2', pf⟩ := HB6.out
          have pl := HB6.out.lt
          have f0 := pf 0
          have f1 := pf 1
          have f2 := pf 2
          clear pf
          dsimp only
          go_wp2_with fail
          go_roundw
          case rel =>
            refine ⟨j + 1, hlt, by rw [HQE.out], by go_num, Lib.hid ?_⟩
            rw [HQE.out]
            exact ⟨HLO.out, (HER.out.trans HE36.out).set3 (by have := HLO.out; omega) _ _ _, ⟨va6, ra6, vc6, rc6, ((HB6.out.set0 _).set1 _).set2 _, fun w'' ha => HK6.out w'' ((ha.set.set.set).agree (by have := HLO.out; have := HLB.out; omega) (.inl HLB.out))⟩, (((HRS.out.ext HE36.out).other (by have := HLO.out; omega)).other (by have := HLO.out; omega)).other (by have := HLO.out; omega)⟩
          case measure => simp [intOf]; omega
        · obtain rfl : j = n := by omega
          generalize hpe : SP j = P at *
          have HPE := Lib.hid hpe
          clear hpe
          obtain ⟨va2, ra2, vc2, rc2, hbx, hk2⟩ := HSK.out.box
          have HK2 := Lib.hid hk2
          have HER := Lib.hid HSK.out.e
          have HRS := Lib.hid HSK.out.res
          obtain ⟨p0, p1, p2', -⟩ := hbx
          obtain ⟨r0, r1, r2, rf⟩ := HRS.out
          have pl := World.block_lt_of_cell? _ _ p0
          have rl := HRS.out.lt
          have f0 := rf 0
          have f1 := rf 1
          have f2 := rf 2
          clear rf hk2
          go_wp2_with fail
          have hst := stored3 HRS.out HER.out (Nat.le_refl _) (Nat.lt_succ_self _) (.int .i64 P.1.worlds) (.slice va2 P.1.val.length vc2) (.slice ra2 P.1.rel.length rc2)
          generalize ((wr.setCell ⟨w.heap.size, 0, none⟩ (.int .i64 P.1.worlds)).setCell ⟨w.heap.size, 1, none⟩ (.slice va2 P.1.val.length vc2)).setCell ⟨w.heap.size, 2, none⟩ (.slice ra2 P.1.rel.length rc2) = W2 at *
          obtain ⟨hEx, ⟨d0, d1, d2, -⟩, hag, hsw⟩ := hst
          refine bodyPost_ret (v := .tuple #[.agg #[.int .i64 P.1.worlds, .slice va2 P.1.val.length vc2, .slice ra2 P.1.rel.length rc2], .int .i64 P.2, .int .i64 0]) ?_ rfl ?_
          · rw [results_cell_two rfl]
            go_simp
          · rw [HPE.out]
            exact ⟨va2, ra2, vc2, rc2, rfl, fun w'' ha => HK2.out w'' (AgreeX.of (agree_up hag ha (Nat.le_succ _) hsw)), hEx⟩
set_option maxRecDepth 20000 in
set_option maxHeartbeats 4000000 in
theorem r44spoken1_any (n p q c : Nat) (hn : 2 ≤ n ∧ n ≤ 3) (hp : p ≤ n) (hpq : p - 1 = q) (hp1 : 1 ≤ p) (hc : c < 2 ^ n) (w : World) :
    Calls Tryz.prog 21 #[.int .i64 (n : Int), .int .i64 (q : Int), .int .i64 (c : Int)] w fun e w' => RetGE (spokeTo n p c n) 0 e w w' := by
  have h8 : 2 ^ n ≤ 8 := by rcases (show n = 2 ∨ n = 3 by omega) with rfl | rfl <;> decide
  have h63 : n < 63 := by omega
  obtain ⟨hq1, hq2⟩ := pw_int (show n ≤ 4 by omega)
  obtain ⟨s, hs⟩ : ∃ s, s = dinSt n p c := ⟨_, rfl⟩
  have hst : bits .or .i64 (slN c n) (p2 q) = (s : Int) := by rw [hs, ← hpq]; exact st_or hn.2 (by omega) hp hc
  have hcn : c * 2 ^ n < 4611686018427387904 := by
    have := Nat.mul_le_mul (show c ≤ 7 by omega) h8
    omega
  have hb0 : btw (n : Int) 2 3 = true := btw_yes (by omega)
  have hb1 : btw ((q : Int)) (-1) ((n : Int) - 1) = true := btw_yes (by omega)
  have hq63 : q < 63 := by omega
  have hb2 : btw (c : Int) 0 (p2 n - 1) = true := btw_yes (by unfold p2; omega)
  have HDI := Lib.hid (r44dining_any n hn)
  have HSAY := Lib.hid (fun k hk W => r44says_any n k hn hk W)
  have HP0 : Hid (spokeTo n p c 0 = (dinM n, posI (dinS n) (s : Int))) := Lib.hid (by rw [hs]; rfl)
  have HPS : Hid (∀ k, spokeTo n p c (k + 1) = annW (spokeTo n p c k) (sayF n k)) := Lib.hid fun k => rfl
  have HOK : Hid (∀ k, k ≤ n → okP n (2 * n) (spokeTo n p c k) = true ∧ (spokeTo n p c k).1.worlds < 64) := Lib.hid fun k hk => ⟨sp_ok hn hp hc hk, sp_lt hn hp hc hk⟩
  generalize spokeTo n p c = SP at *
  have hE0 : Ext w (w.alloc (.cells #[.int .i64 0, .slice none 0 0, .slice none 0 0] 25)) := (Ext.refl w).alloc _
  have HR0 := Lib.hid (OutAt.new w (.int .i64 0) (.slice none 0 0) (.slice none 0 0) 25)
  have HS0 : Hid ((w.alloc (.cells #[.int .i64 0, .slice none 0 0, .slice none 0 0] 25)).heap.size = w.heap.size + 1) := Lib.hid (by simp)
  have HE0 := Lib.hid hE0
  have HN := Lib.hid hn
  generalize dinM n = A at *
  generalize dinS n = SS at *
  obtain ⟨K, hK, hpos, hat, hno⟩ := posI_pos (l := SS) (x := (s : Int)) (by have := okP_pos (HOK.out 0 (Nat.zero_le _)).1; rw [HP0.out] at this; exact this)
  have HNO := Lib.hid hno
  have HPO : Hid ((SP 0).1 = A ∧ (SP 0).2 = (K : Int)) := Lib.hid (by rw [HP0.out]; exact ⟨rfl, hpos⟩)
  have HLL := Lib.hid (natI_len SS)
  clear hE0 hc h8 hs hp hpq hp1 hno hpos HP0
  go_enter Tryz.func21, Tryz.ntmps21
  go_wp2_with (first | (go_at_call 54; refine (r44in_any _ _ _ _).mono ?_; rintro _ _ ⟨rfl, rfl⟩) | fail)
  generalize w.alloc (.cells #[.int .i64 0, .slice none 0 0, .slice none 0 0] 25) = W0 at *
  refine (HDI.out _).mono ?_
  rintro _ w1 ⟨va, ra, la, vc, rc, lc, rfl, hk1, hE1⟩
  have HK1 := Lib.hid hk1
  have HE1 := Lib.hid hE1
  have HA1 : Hid (Ext w1 (w1.alloc (.cells #[.int .i64 A.worlds, .slice va A.val.length vc, .slice ra A.rel.length rc] 25))) := Lib.hid ((Ext.refl w1).alloc _)
  have HO1 := Lib.hid (OutAt.new w1 (.int .i64 A.worlds) (.slice va A.val.length vc) (.slice ra A.rel.length rc) 25)
  clear hk1 hE1
  dsimp only
  go_wp2_with fail
  have HW2 : Hid (Ext w (w1.alloc (.cells #[.int .i64 A.worlds, .slice va A.val.length vc, .slice ra A.rel.length rc] 25))) := Lib.hid (HE0.out.trans (HE1.out.trans HA1.out))
  have HRI := Lib.hid ((HK1.out _ (Agree.ofExt HA1.out)).2)
  have HSZ1 : Hid (w.heap.size + 1 ≤ w1.heap.size) := Lib.hid (Nat.lt_of_lt_of_le HR0.out.lt HE1.out.size)
  have HSP0 : Hid (SpR w1.heap.size w A (w1.alloc (.cells #[.int .i64 A.worlds, .slice va A.val.length vc, .slice ra A.rel.length rc] 25))) := Lib.hid ⟨HSZ1.out, HW2.out, ⟨va, ra, vc, rc, HO1.out, fun w'' ha => (HK1.out w'' ((ha.ext HA1.out).agree (Nat.le_of_eq HS0.out.symm) (.inr (Nat.le_refl _)))).1⟩, HR0.out.ext (HE1.out.trans HA1.out)⟩
  generalize w1.alloc (.cells #[.int .i64 A.worlds, .slice va A.val.length vc, .slice ra A.rel.length rc] 25) = w2 at *
  generalize w1.heap.size = b at *
  go_loopw [13] (fun i wr => ∃ k : Nat, k ≤ K ∧ i = .int .i64 (k : Int) ∧ wr = w2) (fun i _ => K - (intOf i).toNat)
  case atStart => exact ⟨0, Nat.zero_le _, rfl, rfl⟩
  case round =>
    obtain ⟨k, hk, rfl, rfl⟩ := hrel
    have hkl : k < SS.length := by omega
    have hlb : (natI SS).length ≤ 140737488355328 := HRI.out.len
    have hkn : k < (natI SS).length := by have := HLL.out; omega
    obtain ⟨b1, off, rfl, hb, hc⟩ := HRI.out.get (k := k) hkn
    rw [nth_natI hkl] at hc
    by_cases hlt : k < K
    · have hq : (((nth SS k : Nat) : Int) != (s : Int)) = true := by simpa using HNO.out k hlt
      go_wp2_with fail
      go_roundw
      case rel => exact ⟨k + 1, hlt, by go_num, trivial⟩
      case measure => simp [intOf]; omega
    · obtain rfl : k = K := by omega
      have hq : (((nth SS k : Nat) : Int) != (s : Int)) = false := by simp [hat]
      go_wp2_with fail
      clear hb hc hq hkl hk hlt hK hat hst hkn hlb
      go_loopw [13, 14] (fun a i wz => ∃ j : Nat, j ≤ n ∧ a = .int .i64 (SP j).2 ∧ i = .int .i64 (j : Int) ∧ Hid (SpR b w (SP j).1 wz)) (fun _ i _ => n - (intOf i).toNat)
      case atStart => exact ⟨0, Nat.zero_le _, by rw [HPO.out.2], rfl, Lib.hid (by rw [HPO.out.1]; exact HSP0.out)⟩
      case round =>
        obtain ⟨j, hj, rfl, rfl, HSK⟩ := hrel
        have hnn := HN.out
        by_cases hlt : j < n
        · obtain ⟨N, x, ok, -, hpx, hxN, -, -⟩ := okP_at (HOK.out j hj).1
          have h64 := (HOK.out j hj).2
          have hwN := ok.worlds
          have HNX := Lib.hid (HPS.out j)
          have HPN := Lib.hid (okP_pos (HOK.out (j + 1) hlt).1)
          have HSY := Lib.hid (HSAY.out j hlt)
          generalize hQe : SP (j + 1) = Q at *
          have HQE := Lib.hid hQe
          clear hQe
          generalize SP j = P at *
          generalize sayF n j = F at *
          obtain ⟨⟨W, V, R⟩, px⟩ := P
          obtain rfl : W = (N : Int) := hwN
          obtain rfl : px = (x : Int) := hpx
          obtain ⟨va2, ra2, vc2, rc2, hbx, hk2⟩ := HSK.out.box
          have HBX := Lib.hid hbx
          have HK2 := Lib.hid hk2
          have HER := Lib.hid HSK.out.e
          have HLO := Lib.hid HSK.out.lo
          have HRS := Lib.hid HSK.out.res
          have HN64 : Hid (N < 64 ∧ x < 64) := Lib.hid ⟨by have : (N : Int) < 64 := h64; omega, by have : (N : Int) < 64 := h64; omega⟩
          have HAN := Lib.hid (fun W fa fc (hm : RM W va2 ra2 ⟨(N : Int), V, R⟩) (hf : RN W fa F) => r44announce_any N V R va2 ra2 vc2 rc2 x fa fc F W HN64.out.1 HN64.out.2 hm hf (by rw [← HNX.out]; exact HPN.out))
          simp only [← HNX.out] at HAN
          clear hbx hk2 HSK ok h64 hxN HNX HPN
          go_wp2_with (first | (go_at_call 15; refine (HSY.out _).mono ?_; rintro _ w3 ⟨a3, c3, rfl, h3, hE3⟩; have HR3 := Lib.hid h3; have HE3 := Lib.hid hE3; have HB3 := Lib.hid (HBX.out.ext hE3); obtain ⟨p0, p1, p2', -⟩ := HB3.out; have pl := HB3.out.lt; clear h3 hE3) | fail)
          refine (HAN.out _ a3 c3 (HK2.out _ (AgreeX.of (Agree.ofExt HE3.out))) HR3.out).mono ?_
          rintro _ w6 ⟨va6, ra6, vc6, rc6, rfl, hk6, hE6⟩
          have HK6 := Lib.hid hk6
          have HE36 := Lib.hid (HE3.out.trans hE6)
          have HB6 := Lib.hid (HBX.out.ext (HE3.out.trans hE6))
          have HLB : Hid (b < w3.heap.size) := Lib.hid (HBX.out.ext HE3.out).lt
          clear p0 p1 p2' pl hk6 hE6
          obtain ⟨p0, p1, p2', pf⟩ := HB6.out
          have pl := HB6.out.lt
          have f0 := pf 0
          have f1 := pf 1
          have f2 := pf 2
          clear pf
          dsimp only
          go_wp2_with fail
          go_roundw
          case rel =>
            refine ⟨j + 1, hlt, by rw [HQE.out], by go_num, Lib.hid ?_⟩
            rw [HQE.out]
            exact ⟨HLO.out, (HER.out.trans HE36.out).set3 (by have := HLO.out; omega) _ _ _, ⟨va6, ra6, vc6, rc6, ((HB6.out.set0 _).set1 _).set2 _, fun w'' ha => HK6.out w'' ((ha.set.set.set).agree (by have := HLO.out; have := HLB.out; omega) (.inl HLB.out))⟩, (((HRS.out.ext HE36.out).other (by have := HLO.out; omega)).other (by have := HLO.out; omega)).other (by have := HLO.out; omega)⟩
          case measure => simp [intOf]; omega
        · obtain rfl : j = n := by omega
          generalize hpe : SP j = P at *
          have HPE := Lib.hid hpe
          clear hpe
          obtain ⟨va2, ra2, vc2, rc2, hbx, hk2⟩ := HSK.out.box
          have HK2 := Lib.hid hk2
          have HER := Lib.hid HSK.out.e
          have HRS := Lib.hid HSK.out.res
          obtain ⟨p0, p1, p2', -⟩ := hbx
          obtain ⟨r0, r1, r2, rf⟩ := HRS.out
          have pl := World.block_lt_of_cell? _ _ p0
          have rl := HRS.out.lt
          have f0 := rf 0
          have f1 := rf 1
          have f2 := rf 2
          clear rf hk2
          go_wp2_with fail
          have hst := stored3 HRS.out HER.out (Nat.le_refl _) (Nat.lt_succ_self _) (.int .i64 P.1.worlds) (.slice va2 P.1.val.length vc2) (.slice ra2 P.1.rel.length rc2)
          generalize ((wr.setCell ⟨w.heap.size, 0, none⟩ (.int .i64 P.1.worlds)).setCell ⟨w.heap.size, 1, none⟩ (.slice va2 P.1.val.length vc2)).setCell ⟨w.heap.size, 2, none⟩ (.slice ra2 P.1.rel.length rc2) = W2 at *
          obtain ⟨hEx, ⟨d0, d1, d2, -⟩, hag, hsw⟩ := hst
          refine bodyPost_ret (v := .tuple #[.agg #[.int .i64 P.1.worlds, .slice va2 P.1.val.length vc2, .slice ra2 P.1.rel.length rc2], .int .i64 P.2, .int .i64 0]) ?_ rfl ?_
          · rw [results_cell_two rfl]
            go_simp
          · rw [HPE.out]
            exact ⟨va2, ra2, vc2, rc2, rfl, fun w'' ha => HK2.out w'' (AgreeX.of (agree_up hag ha (Nat.le_succ _) hsw)), hEx⟩
theorem r44spoken_any (n p c : Nat) (hn : 2 ≤ n ∧ n ≤ 3) (hp : p ≤ n) (hc : c < 2 ^ n) (w : World) :
    Calls Tryz.prog 21 #[.int .i64 (n : Int), .int .i64 ((p : Int) - 1), .int .i64 (c : Int)] w fun e w' => RetGE (spokeTo n p c n) 0 e w w' := by
  by_cases h : p = 0
  · subst h
    exact r44spoken0_any n c hn hc w
  · have e : (p : Int) - 1 = ((p - 1 : Nat) : Int) := by omega
    rw [e]
    exact r44spoken1_any n p (p - 1) c hn hp rfl (by omega) hc w
theorem ask_split (n : Nat) (_hn : 2 ≤ n ∧ n ≤ 4) (g i : Int) : gBad n g i ∨ ∃ G I : Nat, g = (G : Int) ∧ i = (I : Int) ∧ (1 ≤ G ∧ (G : Int) ≤ p2 n - 1) ∧ I < n := by
  unfold gBad
  cases h1 : btw g 1 (p2 n - 1)
  · exact .inl (.inl rfl)
  · cases h2 : btw i 0 ((n : Int) - 1)
    · exact .inl (.inr ⟨rfl, rfl⟩)
    · obtain ⟨a1, a2⟩ := btw_true h1
      obtain ⟨b1, b2⟩ := btw_true h2
      obtain ⟨G, rfl⟩ := Int.eq_ofNat_of_zero_le (show 0 ≤ g by omega)
      obtain ⟨I, rfl⟩ := Int.eq_ofNat_of_zero_le b1
      exact .inr ⟨G, I, rfl, rfl, ⟨by omega, a2⟩, by omega⟩
theorem counted_both (n v : Int) : ∃ P c, (∀ w, Tab w → Calls Tryz.prog 26 #[.int .i64 n, .int .i64 v] w fun e w' => RetGE P c e w w') ∧ (∀ w, Calls Tryz.prog 27 #[.int .i64 n, .int .i64 v] w fun e w' => RetGE P c e w w') ∧ ∀ g i : Int, ∃ b d, (∀ w, Tab w → Calls Tryz.prog 30 #[.int .i64 n, .int .i64 v, .int .i64 g, .int .i64 i] w fun e w' => RetP (.bool b) d e w w') ∧ (∀ w, Calls Tryz.prog 31 #[.int .i64 n, .int .i64 v, .int .i64 g, .int .i64 i] w fun e w' => RetP (.bool b) d e w w') := by
  cases hb : btw n 2 4
  · exact ⟨_, _, fun w _ => CountedNo_any n v (countedNoA n v hb) w, fun w => r44countedNoA n v hb w, fun g i => ⟨_, _, fun w _ => LearnsNoA n v g i (countedNoA n v hb) w, fun w => r44Learns_noA v n g i w (r44countedNoA n v hb w)⟩⟩
  obtain ⟨h1, h2⟩ := btw_true hb
  obtain ⟨N, rfl⟩ := Int.eq_ofNat_of_zero_le (show 0 ≤ n by omega)
  have hN : 2 ≤ N ∧ N ≤ 4 := by omega
  have hN4 : 2 ≤ N ∧ N ≤ 4 := by omega
  cases hb1 : btw v 0 (p2 N - 1)
  · exact ⟨_, _, fun w _ => CountedNo_any (N : Int) v (countedNoB N v hN hb1) w, fun w => r44countedNoB N v hN hb1 w, fun g i => ⟨_, _, fun w _ => LearnsNoA (N : Int) v g i (countedNoB N v hN hb1) w, fun w => r44Learns_noA v (N : Int) g i w (r44countedNoB N v hN hb1 w)⟩⟩
  obtain ⟨h3, h4⟩ := btw_true hb1
  obtain ⟨X, rfl⟩ := Int.eq_ofNat_of_zero_le h3
  have hX : X < 2 ^ N := by unfold p2 at h4; omega
  refine ⟨countedW N X, 0, fun w hT => (Counted_any N X hN hX w hT).mono fun _ _ h => h.ge, fun w => r44counted_any N X hN hX w, fun g i => ?_⟩
  rcases ask_split N hN4 g i with hq | ⟨G, I, rfl, rfl, hG, hI⟩
  · exact ⟨_, _, fun w hT => LearnsNoB N (X : Int) g i (countedW N X) hN4 hq w (counted_any N X hN hX w hT), fun w => r44Learns_noB (X : Int) N g i (countedW N X) hN4 hq w (r44counted_any N X hN hX w)⟩
  · obtain ⟨M, x, ok, -, hpx, hxN, -, -⟩ := okP_at (cnt_okP hN hX)
    refine ⟨knowsW (countedW N X) (G : Int) (I : Int), 0, fun w hT => Learns_any N X (G : Int) (I : Int) hN hX (by omega) (by omega) w hT, fun w => ?_⟩
    have hwN := ok.worlds
    have hr := r44counted_any N X hN hX w
    generalize countedW N X = P at *
    obtain ⟨⟨W, V, R⟩, px⟩ := P
    obtain rfl : W = (M : Int) := hwN
    obtain rfl : px = (x : Int) := hpx
    exact r44Learns_yes (X : Int) M x G I N V R hN4 hG hI w hr
theorem decided_both (n v q : Int) : ∃ P c, (∀ w, Tab w → Calls Tryz.prog 28 #[.int .i64 n, .int .i64 v, .int .i64 q] w fun e w' => RetGE P c e w w') ∧ (∀ w, Calls Tryz.prog 29 #[.int .i64 n, .int .i64 v, .int .i64 q] w fun e w' => RetGE P c e w w') ∧ ∀ g i : Int, ∃ b d, (∀ w, Tab w → Calls Tryz.prog 25 #[.int .i64 n, .int .i64 v, .int .i64 q, .int .i64 g, .int .i64 i] w fun e w' => RetP (.bool b) d e w w') ∧ (∀ w, Calls Tryz.prog 32 #[.int .i64 n, .int .i64 v, .int .i64 q, .int .i64 g, .int .i64 i] w fun e w' => RetP (.bool b) d e w w') := by
  cases hb : btw n 2 4
  · exact ⟨_, _, fun w _ => DecidedNo_any n v q (decidedNoA n v q hb) w, fun w => r44decidedNoA n v q hb w, fun g i => ⟨_, _, fun w _ => GuessesNoA n v q g i (decidedNoA n v q hb) w, fun w => r44Guesses_noA v q n g i w (r44decidedNoA n v q hb w)⟩⟩
  obtain ⟨h1, h2⟩ := btw_true hb
  obtain ⟨N, rfl⟩ := Int.eq_ofNat_of_zero_le (show 0 ≤ n by omega)
  have hN : 2 ≤ N ∧ N ≤ 4 := by omega
  have hN4 : 2 ≤ N ∧ N ≤ 4 := by omega
  cases hb1 : btw v 0 (p2 N - 1)
  · exact ⟨_, _, fun w _ => DecidedNo_any (N : Int) v q (decidedNoB N v q hN hb1) w, fun w => r44decidedNoB N v q hN hb1 w, fun g i => ⟨_, _, fun w _ => GuessesNoA (N : Int) v q g i (decidedNoB N v q hN hb1) w, fun w => r44Guesses_noA v q (N : Int) g i w (r44decidedNoB N v q hN hb1 w)⟩⟩
  cases hb2 : btw q 0 (N : Int)
  · exact ⟨_, _, fun w _ => DecidedNo_any (N : Int) v q (decidedNoC N v q hN hb1 hb2) w, fun w => r44decidedNoC N v q hN hb1 hb2 w, fun g i => ⟨_, _, fun w _ => GuessesNoA (N : Int) v q g i (decidedNoC N v q hN hb1 hb2) w, fun w => r44Guesses_noA v q (N : Int) g i w (r44decidedNoC N v q hN hb1 hb2 w)⟩⟩
  obtain ⟨h3, h4⟩ := btw_true hb1
  obtain ⟨h5, h6⟩ := btw_true hb2
  obtain ⟨X, rfl⟩ := Int.eq_ofNat_of_zero_le h3
  have hX : X < 2 ^ N := by unfold p2 at h4; omega
  obtain ⟨Q, rfl⟩ := Int.eq_ofNat_of_zero_le h5
  have hQN : Q ≤ N := by omega
  refine ⟨decidedW N X Q, 0, fun w hT => (Decided_any N X Q hN hX hQN w hT).mono fun _ _ h => h.ge, fun w => r44decided_any N X Q hN hX hQN w, fun g i => ?_⟩
  rcases ask_split N hN4 g i with hq | ⟨G, I, rfl, rfl, hG, hI⟩
  · exact ⟨_, _, fun w hT => GuessesNoB N (X : Int) (Q : Int) g i (decidedW N X Q) hN4 hq w (decided_any N X Q hN hX hQN w hT), fun w => r44Guesses_noB (X : Int) (Q : Int) N g i (decidedW N X Q) hN4 hq w (r44decided_any N X Q hN hX hQN w)⟩
  · obtain ⟨M, x, ok, -, hpx, hxN, -, -⟩ := okP_at (dcd_okP hN hX hQN)
    refine ⟨knowsW (decidedW N X Q) (G : Int) (I : Int), 0, fun w hT => Guesses_any N X Q (G : Int) (I : Int) hN hX hQN (by omega) (by omega) w hT, fun w => ?_⟩
    have hwN := ok.worlds
    have hr := r44decided_any N X Q hN hX hQN w
    generalize decidedW N X Q = P at *
    obtain ⟨⟨W, V, R⟩, px⟩ := P
    obtain rfl : W = (M : Int) := hwN
    obtain rfl : px = (x : Int) := hpx
    exact r44Guesses_yes (X : Int) (Q : Int) M x G I N V R hN4 hG hI w hr
theorem spoken_both (n v q : Int) : ∃ P c, (∀ w, Tab w → Calls Tryz.prog 20 #[.int .i64 n, .int .i64 v, .int .i64 q] w fun e w' => RetGE P c e w w') ∧ (∀ w, Calls Tryz.prog 21 #[.int .i64 n, .int .i64 v, .int .i64 q] w fun e w' => RetGE P c e w w') ∧ ∀ g i : Int, ∃ b d, (∀ w, Tab w → Calls Tryz.prog 22 #[.int .i64 n, .int .i64 v, .int .i64 q, .int .i64 g, .int .i64 i] w fun e w' => RetP (.bool b) d e w w') ∧ (∀ w, Calls Tryz.prog 23 #[.int .i64 n, .int .i64 v, .int .i64 q, .int .i64 g, .int .i64 i] w fun e w' => RetP (.bool b) d e w w') := by
  cases hb : btw n 2 3
  · exact ⟨_, _, fun w _ => SpokenNo_any n v q (spokenNoA n v q hb) w, fun w => r44spokenNoA n v q hb w, fun g i => ⟨_, _, fun w _ => TracesNoA n v q g i (spokenNoA n v q hb) w, fun w => r44Traces_noA v q n g i w (r44spokenNoA n v q hb w)⟩⟩
  obtain ⟨h1, h2⟩ := btw_true hb
  obtain ⟨N, rfl⟩ := Int.eq_ofNat_of_zero_le (show 0 ≤ n by omega)
  have hN : 2 ≤ N ∧ N ≤ 3 := by omega
  have hN4 : 2 ≤ N ∧ N ≤ 4 := by omega
  cases hb1 : btw v (-1) ((N : Int) - 1)
  · exact ⟨_, _, fun w _ => SpokenNo_any (N : Int) v q (spokenNoB N v q hN hb1) w, fun w => r44spokenNoB N v q hN hb1 w, fun g i => ⟨_, _, fun w _ => TracesNoA (N : Int) v q g i (spokenNoB N v q hN hb1) w, fun w => r44Traces_noA v q (N : Int) g i w (r44spokenNoB N v q hN hb1 w)⟩⟩
  cases hb2 : btw q 0 (p2 N - 1)
  · exact ⟨_, _, fun w _ => SpokenNo_any (N : Int) v q (spokenNoC N v q hN hb1 hb2) w, fun w => r44spokenNoC N v q hN hb1 hb2 w, fun g i => ⟨_, _, fun w _ => TracesNoA (N : Int) v q g i (spokenNoC N v q hN hb1 hb2) w, fun w => r44Traces_noA v q (N : Int) g i w (r44spokenNoC N v q hN hb1 hb2 w)⟩⟩
  obtain ⟨h3, h4⟩ := btw_true hb1
  obtain ⟨h5, h6⟩ := btw_true hb2
  obtain ⟨X, hX⟩ := Int.eq_ofNat_of_zero_le (show 0 ≤ v + 1 by omega)
  obtain rfl : v = (X : Int) - 1 := by omega
  obtain ⟨Q, rfl⟩ := Int.eq_ofNat_of_zero_le h5
  have hXN : X ≤ N := by omega
  have hQN : Q < 2 ^ N := by unfold p2 at h6; omega
  refine ⟨spokeTo N X Q N, 0, fun w hT => (Spoken_any N X Q hN hXN hQN w hT).mono fun _ _ h => h.ge, fun w => r44spoken_any N X Q hN hXN hQN w, fun g i => ?_⟩
  rcases ask_split N hN4 g i with hq | ⟨G, I, rfl, rfl, hG, hI⟩
  · exact ⟨_, _, fun w hT => TracesNoB N ((X : Int) - 1) (Q : Int) g i (spokeTo N X Q N) hN4 hq w (spoken_any N X Q hN hXN hQN w hT), fun w => r44Traces_noB ((X : Int) - 1) (Q : Int) N g i (spokeTo N X Q N) hN4 hq w (r44spoken_any N X Q hN hXN hQN w)⟩
  · obtain ⟨M, x, ok, -, hpx, hxN, -, -⟩ := okP_at (sp_ok hN hXN hQN (Nat.le_refl _))
    refine ⟨knowsW (spokeTo N X Q N) (G : Int) (I : Int), 0, fun w hT => Traces_any N X Q (G : Int) (I : Int) hN hXN hQN (by omega) (by omega) w hT, fun w => ?_⟩
    have hwN := ok.worlds
    have hr := r44spoken_any N X Q hN hXN hQN w
    generalize spokeTo N X Q N = P at *
    obtain ⟨⟨W, V, R⟩, px⟩ := P
    obtain rfl : W = (M : Int) := hwN
    obtain rfl : px = (x : Int) := hpx
    exact r44Traces_yes ((X : Int) - 1) (Q : Int) M x G I N V R hN4 hG hI w hr
end Wt
