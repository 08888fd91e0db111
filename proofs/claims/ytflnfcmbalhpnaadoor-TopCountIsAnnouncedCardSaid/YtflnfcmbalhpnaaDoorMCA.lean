/- The walk of TopCountIsAnnounced (printed by gen_lca.py). -/
import Derived.Test.YtflnfcmbalhpnaaDoorM4Bp
import Derived.Test.YtflnfcmbalhpnaaDoorM8Aa
import Derived.Test.YtflnfcmbalhpnaaDoorM4Ba
import Derived.Test.YtflnfcmbalhpnaaDoorM4Bd
import Derived.Test.YtflnfcmbalhpnaaDoorM5Af
import Derived.Deep.RegionHeld3
import Derived.Deep.CutRange
import Derived.Test.YtflnfcmbalhpnaaDoorRows
import Derived.Test.YtflnfcmbalhpnaaDoorCards
import Derived.Test.YtflnfcmbalhpnaaDoorTie
import Derived.ProofKit
import Derived.LaidMore
import Derived.SizedLaws
import Derived.SevenTiedAt
import Derived.OpenShut
namespace Wt
open Go Go.RowKit Go.Maps Go.Proofs Fm

/-- The votes counted one by one. -/
def sumB (v : Nat) : Nat → Nat
  | 0 => 0
  | k + 1 => sumB v k + (if v.testBit k then 1 else 0)
theorem sumB_tab : ∀ n : _root_.Fin 5, ∀ v : _root_.Fin 16, v.val < 2 ^ n.val → sumB v.val n.val = onesN v.val := by decide +kernel
theorem sumB_ones {n v : Nat} (hn : n ≤ 4) (hv : v < 2 ^ n) : sumB v n = onesN v := sumB_tab ⟨n, by omega⟩ ⟨v, by have := pow16 hn; omega⟩ hv
theorem sumB_le (v : Nat) : ∀ k, sumB v k ≤ k
  | 0 => Nat.le_refl _
  | k + 1 => by
    have := sumB_le v k
    simp only [sumB]
    split <;> omega
theorem sumB_step (v k : Nat) : ((sumB v k : Nat) : Int) + b01 v k = ((sumB v (k + 1) : Nat) : Int) := by
  unfold b01
  simp only [sumB]
  split <;> omega
theorem atErr_dist {n f : Nat} {p : Mo × Int} (h : okP n f p = true) {g i : Nat} (hn : n ≤ 4) (h1 : 1 ≤ g) (h2 : g < 2 ^ n) (hi : i < f) : atErr p.1 p.2 (ccDist (g : Int) (ccFact (i : Int))) = 0 ∧ atErr p.1 p.2 (ccDist (g : Int) (ccNot (ccFact (i : Int)))) = 0 := by
  obtain ⟨N, x, ok, hM, hx, hxN, hr, hv⟩ := okP_at h
  have hp : p2 p.1.rel.length = (2 ^ n : Nat) := by
    rw [hr]; rcases (show n = 0 ∨ n = 1 ∨ n = 2 ∨ n = 3 ∨ n = 4 by omega) with rfl | rfl | rfl | rfl | rfl <;> rfl
  have h2' : (g : Int) < p2 p.1.rel.length := by rw [hp]; omega
  have hi8 : i < 8 := by have := ok.val; omega
  have hni : ¬ ((p.1.val.length : Int) ≤ (i : Int)) := by omega
  have e1 : semT p.1 (.leaf 3 (i : Int) 0 0) = (nth p.1.val i, true) := by simp [semT, valN, hni]
  have hN : p.1.worlds.toNat = N := by rw [ok.worlds]; rfl
  have e2 : semT p.1 (.un 4 0 0 0 (.leaf 3 (i : Int) 0 0)) = (allW N &&& ~~~ nth p.1.val i, true) := by
    rw [semT_un _ _ _ _ (by rw [e1]), e1]; simp [valN, hN]
  have z1 : fsize (.leaf 3 (i : Int) 0 0) ≤ 1 := by simp [fsize, addT, put]
  rw [hx]
  exact ⟨(dist_at ok hM (isF_fact hi8) e1 (by omega) h1 h2' hxN).1, (dist_at ok hM (isF_notFact hi8) e2 (by have := fsize_un (a := .leaf 3 (i : Int) 0 0) 4 0 0 0; omega) h1 h2' hxN).1⟩
theorem and_div (v k : Nat) : bits .and .i64 ((v : Int) / 2 ^ k) 1 = b01 v k := by
  rw [← sr_and1]; unfold sr; rw [Nat.shiftRight_eq_div_pow]; simp
/-- What an update that is possible returns. -/
def RetUp (A : Mo) (l : List Nat) (e : Ending) (w w' : World) : Prop := ∃ va ra la vc rc lc, e = .returned (.tuple #[.agg #[.int .i64 A.worlds, .slice va A.val.length vc, .slice ra A.rel.length rc], .slice la l.length lc, .int .i64 0]) ∧ (∀ w'', Agree w.heap.size w' w'' → RM w'' va ra A ∧ RI w'' la (natI l)) ∧ Ext w w'
theorem updateP_any (M : Mo) (va ra : Option Addr) (vc rc : Nat) (fa : Option Addr) (fc : Nat) (f : List Nd) (w : World) (hm : RM w va ra M) (hf : RN w fa f) (hT : Tab w) (hu : upErr M f = 0) :
    Calls Tryd.prog 9 #[.agg #[.int .i64 M.worlds, .slice va M.val.length vc, .slice ra M.rel.length rc], .slice fa f.length fc] w fun e w' => RetUp (upM M f) (upL M f) e w w' :=
  (update_any M va ra vc rc fa fc f w hm hf hT).mono fun e w' h => by
    obtain ⟨va, ra, la, vc, rc, lc, h1, h2, h3⟩ := h.r
    rw [hu, natI_len] at h1
    exact ⟨va, ra, la, vc, rc, lc, h1, h2, h3⟩
set_option maxRecDepth 20000 in
set_option maxHeartbeats 16000000 in
theorem topCountN_any (sz vt q0 q1 q2 : Nat) (_h1 : sz ≤ 255) (h2 : vt ≤ 255) (h3 : q0 ≤ 255) (h4 : q1 ≤ 255) (h5 : q2 ≤ 255) (hlt : onesN (vt &&& (2 ^ (2 + sz % 3) - 1)) < q0 % (2 + sz % 3 + 1)) (w : World) (hT : Tab w) :
    Calls Tryd.prog 3 #[.int .u8 (sz : Int), .int .u8 (vt : Int), .agg #[.int .u8 (q0 : Int), .int .u8 (q1 : Int), .int .u8 (q2 : Int)]] w fun e w' => e = .returned (.bool true) ∧ Ext w w' := by
  obtain ⟨r, hr⟩ : ∃ r, r = sz % 3 := ⟨_, rfl⟩
  have hr3 : r < 3 := by omega
  have hrI : (sz : Int) % 3 = (r : Int) := by omega
  obtain ⟨n, hnr⟩ : ∃ n, n = 2 + r := ⟨_, rfl⟩
  have hnI : 2 + (r : Int) = (n : Int) := by omega
  have HZ := Lib.hid (Sz.mk' n (by omega) (by omega))
  obtain ⟨a, ha⟩ : ∃ a, a = 2 ^ n - 1 := ⟨_, rfl⟩
  rw [← ha] at HZ
  have hn2 := HZ.out.n2
  have hn4 := HZ.out.n4
  have ha3 := HZ.out.lo
  have ha15 := HZ.out.hi
  have hpa := HZ.out.pw
  have h63 : n < 63 := by omega
  obtain ⟨hq1, hq2⟩ := pw_int hn4
  have haI : p2 n - 1 = (a : Int) := by unfold p2; omega
  have ha0 : ((a : Int) == 0) = false := by simp; omega
  have ha0' : ¬ ((a : Int) = 0) := by omega
  obtain ⟨v, hv⟩ : ∃ v, v = vt &&& a := ⟨_, rfl⟩
  have hvI : bits .and .i64 (vt : Int) (a : Int) = (v : Int) := by rw [hv]; exact and_nat vt a (by omega) (by omega)
  have hva : v ≤ a := by rw [hv]; exact Nat.and_le_right
  obtain ⟨gm, hgm⟩ : ∃ gm, gm = q1 % a := ⟨_, rfl⟩
  have hgmI : (q1 : Int).tmod (a : Int) = (gm : Int) := by rw [hgm]; exact (Int.ofNat_tmod q1 a).symm
  have hgml : gm < a := by rw [hgm]; exact Nat.mod_lt _ (by omega)
  obtain ⟨g, hg⟩ : ∃ g, g = 1 + gm := ⟨_, rfl⟩
  have hgI : 1 + (gm : Int) = (g : Int) := by omega
  have hg1 : 1 ≤ g := by omega
  have hga : g ≤ a := by omega
  obtain ⟨q, hq⟩ : ∃ q, q = q0 % (n + 1) := ⟨_, rfl⟩
  have hqI : (q0 : Int).tmod ((n : Int) + 1) = (q : Int) := by rw [hq]; exact (Int.ofNat_tmod q0 (n + 1)).symm
  have hqn : q ≤ n := by have := Nat.mod_lt q0 (show 0 < n + 1 by omega); omega
  have hn10 : ((n : Int) + 1 == 0) = false := by simp; omega
  have hn10' : ¬ ((n : Int) + 1 = 0) := by omega
  have hn0 : ((n : Int) == 0) = false := by simp; omega
  have hn0' : ¬ ((n : Int) = 0) := by omega
  obtain ⟨i, hi⟩ : ∃ i, i = q2 % n := ⟨_, rfl⟩
  have hiI : (q2 : Int).tmod (n : Int) = (i : Int) := by rw [hi]; exact (Int.ofNat_tmod q2 n).symm
  have hin : i < n := by rw [hi]; exact Nat.mod_lt _ (by omega)
  have hv2 : v < 2 ^ n := by omega
  have hg2 : g < 2 ^ n := by omega
  have hlq : onesN v < q := by rw [hv, hq, ha, hnr, hr]; exact hlt
  obtain ⟨uc, ud⟩ := upd_count (n := n) (v := v) ⟨hn2, hn4⟩ hv2
  obtain ⟨sc, sd⟩ := upd_dec (n := n) (v := v) (q := q) ⟨hn2, hn4⟩ hv2 hqn
  have hsf : saidF n v q = ccNot (passF n q) := if_pos hlq
  have okc := cnt_okP (n := n) ⟨hn2, hn4⟩ hv2
  obtain ⟨ae1, ae2⟩ := atErr_dist okc hn4 hg1 hg2 hin
  have HKW : Hid (knowsW (countedW n v) (g : Int) (i : Int) = (atOf (countedW n v).1 (countedW n v).2 (ccDist (g : Int) (ccFact (i : Int))) || atOf (countedW n v).1 (countedW n v).2 (ccDist (g : Int) (ccNot (ccFact (i : Int)))))) := Lib.hid rfl
  have HVO := Lib.hid (votesE_any n ⟨hn2, hn4⟩)
  have HTL := Lib.hid (tally_any n (onesN v) ⟨hn2, hn4⟩ (ones_le hn4 hv2))
  have HPS := Lib.hid (passes_any n q ⟨hn2, hn4⟩ hqn)
  have HSN : Hid (sumB v n = onesN v) := Lib.hid (sumB_ones hn4 hv2)
  have hov := ones4 (show v < 16 by omega)
  have HCO := Lib.hid (fun W hT => Counted_any n v ⟨hn2, hn4⟩ hv2 W hT)
  have HDE := Lib.hid (fun W hT => Decided_any n v q ⟨hn2, hn4⟩ hv2 hqn W hT)
  have HLE := Lib.hid (fun W hT => Learns_any n v (g : Int) (i : Int) ⟨hn2, hn4⟩ hv2 ⟨by omega, by unfold p2; omega⟩ ⟨by omega, by omega⟩ W hT)
  have HUC : Hid (∀ W va ra vc rc fa fc, RM W va ra (votesM n) → RN W fa (tallyF n (onesN v)) → Tab W → Calls Tryd.prog 9 #[.agg #[.int .i64 (votesM n).worlds, .slice va (votesM n).val.length vc, .slice ra (votesM n).rel.length rc], .slice fa (tallyF n (onesN v)).length fc] W fun e w' => RetUp (countedW n v).1 (upL (votesM n) (tallyF n (onesN v))) e W w') := Lib.hid fun W va ra vc rc fa fc hm hf hT => by
    have h := updateP_any (votesM n) va ra vc rc fa fc _ W hm hf hT uc
    rw [← ud]; exact h
  have HUD : Hid (∀ W va ra vc rc fa fc, RM W va ra (votesM n) → RN W fa (saidF n v q) → Tab W → Calls Tryd.prog 9 #[.agg #[.int .i64 (votesM n).worlds, .slice va (votesM n).val.length vc, .slice ra (votesM n).rel.length rc], .slice fa (saidF n v q).length fc] W fun e w' => RetUp (decidedW n v q).1 (upL (votesM n) (saidF n v q)) e W w') := Lib.hid fun W va ra vc rc fa fc hm hf hT => by
    have h := updateP_any (votesM n) va ra vc rc fa fc _ W hm hf hT sc
    rw [← sd]; exact h
  have HP1 : Hid (posI (upL (votesM n) (tallyF n (onesN v))) (v : Int) = (countedW n v).2) := Lib.hid (by rw [← ud]; rfl)
  have HP2 : Hid (posI (upL (votesM n) (saidF n v q)) (v : Int) = (decidedW n v q).2) := Lib.hid (by rw [← sd]; rfl)
  have HFA : Hid (∀ W, Calls Tryd.prog 17 #[.int .i64 (i : Int)] W fun e w' => RetN (ccFact (i : Int)) e W w') := Lib.hid fun W => cFact_any (i : Int) W
  have HD1 : Hid (∀ W a c, RN W a (ccFact (i : Int)) → Calls Tryd.prog 16 #[.int .i64 (g : Int), .slice a (ccFact (i : Int)).length c] W fun e w' => RetN (ccDist (g : Int) (ccFact (i : Int))) e W w') := Lib.hid fun W a c h => cDist_any (g : Int) a c (ccFact (i : Int)) W h
  have HNO : Hid (∀ W a c, RN W a (ccFact (i : Int)) → Calls Tryd.prog 8 #[.slice a (ccFact (i : Int)).length c] W fun e w' => RetN (ccNot (ccFact (i : Int))) e W w') := Lib.hid fun W a c h => cNot_any a c (ccFact (i : Int)) W h
  have HD2 : Hid (∀ W a c, RN W a (ccNot (ccFact (i : Int))) → Calls Tryd.prog 16 #[.int .i64 (g : Int), .slice a (ccNot (ccFact (i : Int))).length c] W fun e w' => RetN (ccDist (g : Int) (ccNot (ccFact (i : Int)))) e W w') := Lib.hid fun W a c h => cDist_any (g : Int) a c (ccNot (ccFact (i : Int))) W h
  have HAT1 : Hid (∀ W va ra vc rc a c, RM W va ra (countedW n v).1 → RN W a (ccDist (g : Int) (ccFact (i : Int))) → Calls Tryd.prog 15 #[.agg #[.int .i64 (countedW n v).1.worlds, .slice va (countedW n v).1.val.length vc, .slice ra (countedW n v).1.rel.length rc], .int .i64 (countedW n v).2, .slice a (ccDist (g : Int) (ccFact (i : Int))).length c] W fun e w' => RetP (.bool (atOf (countedW n v).1 (countedW n v).2 (ccDist (g : Int) (ccFact (i : Int))))) 0 e W w') := Lib.hid fun W va ra vc rc a c hm hf => by
    have h := at_any (countedW n v).1 va ra vc rc (countedW n v).2 a c _ W hm hf
    rw [ae1] at h; exact h
  have HAT2 : Hid (∀ W va ra vc rc a c, RM W va ra (countedW n v).1 → RN W a (ccDist (g : Int) (ccNot (ccFact (i : Int)))) → Calls Tryd.prog 15 #[.agg #[.int .i64 (countedW n v).1.worlds, .slice va (countedW n v).1.val.length vc, .slice ra (countedW n v).1.rel.length rc], .int .i64 (countedW n v).2, .slice a (ccDist (g : Int) (ccNot (ccFact (i : Int)))).length c] W fun e w' => RetP (.bool (atOf (countedW n v).1 (countedW n v).2 (ccDist (g : Int) (ccNot (ccFact (i : Int)))))) 0 e W w') := Lib.hid fun W va ra vc rc a c hm hf => by
    have h := at_any (countedW n v).1 va ra vc rc (countedW n v).2 a c _ W hm hf
    rw [ae2] at h; exact h
  have HN2 : Hid (∀ W a c, RN W a (passF n q) → Calls Tryd.prog 8 #[.slice a (passF n q).length c] W fun e w' => RetN (saidF n v q) e W w') := Lib.hid fun W a c h => by rw [hsf]; exact cNot_any a c (passF n q) W h
  rw [HKW.out] at HLE
  have HSB := Lib.hid (fun k => sumB_step v k)
  have HSL := Lib.hid (fun k => sumB_le v k)
  have HV64 : Hid (v < 16) := Lib.hid (by omega)
  generalize upL (votesM n) (tallyF n (onesN v)) = l1 at *
  generalize upL (votesM n) (saidF n v q) = l2 at *
  generalize saidF n v q = SF at *
  generalize tallyF n (onesN v) = TF at *
  generalize passF n q = PF at *
  generalize votesM n = VM at *
  generalize atOf (countedW n v).1 (countedW n v).2 (ccDist (g : Int) (ccFact (i : Int))) = y1 at *
  generalize atOf (countedW n v).1 (countedW n v).2 (ccDist (g : Int) (ccNot (ccFact (i : Int)))) = y2 at *
  generalize ccDist (g : Int) (ccFact (i : Int)) = D1 at *
  generalize ccDist (g : Int) (ccNot (ccFact (i : Int))) = D2 at *
  generalize ccNot (ccFact (i : Int)) = NF at *
  generalize ccFact (i : Int) = FF at *
  generalize countedW n v = P at *
  generalize decidedW n v q = Q at *
  generalize hoe : onesN v = ov at *
  have hdl : decide (ov < q) = true := decide_eq_true (by omega)
  have HDL := Lib.hid hdl
  clear hdl
  have hE0 : Ext w (w.alloc (.cells #[.int .u8 (q0 : Int), .int .u8 (q1 : Int), .int .u8 (q2 : Int)] 22)) := (Ext.refl w).alloc _
  have HBX := Lib.hid (OutAt.new w (.int .u8 (q0 : Int)) (.int .u8 (q1 : Int)) (.int .u8 (q2 : Int)) 22)
  have HE0 := Lib.hid hE0
  have HT := Lib.hid (hT.ext hE0)
  have HAW := Lib.hid (cAwake22_any _ (hT.ext hE0))
  have hnn1 : ((P.2 : Int) != P.2) = false := by simp
  have hnn2 : ((Q.2 : Int) != Q.2) = false := by simp
  clear hT hE0 hi hq hv hgm hg ha hnr hr hpa HZ uc ud sc sd hsf okc ae1 ae2 hlt hlq HKW hoe hv2 hg2
  go_enter Tryd.func3, Tryd.ntmps3
  go_wp2_with fail
  go_quiet (fail)
  clear hgmI hqI hiI hvI hgI hrI
  have HE1 : Hid (Ext w (World.drewN (w.alloc (.cells #[.int .u8 (q0 : Int), .int .u8 (q1 : Int), .int .u8 (q2 : Int)] 22)) nq)) := Lib.hid (HE0.out.drewN _)
  have HT1 := Lib.hid (HT.out.ext ((Ext.refl _).drewN nq))
  go_wp2_with fail
  refine (cAwake22_any _ HT1.out).mono ?_
  rintro _ w1 ⟨rfl, hE1⟩
  have HX1 := Lib.hid (HE1.out.trans hE1)
  have HTW : Hid (∀ W, Ext w1 W → Tab W) := Lib.hid fun W e => HT1.out.ext (hE1.trans e)
  clear hE1
  dsimp only
  go_wp2_with fail
  refine (HVO.out _).mono ?_
  rintro _ w2 ⟨va, ra, vc, rc, rfl, hk2, hE2⟩
  have hA2 : Ext w2 (w2.alloc (.cells #[.int .i64 VM.worlds, .slice va VM.val.length vc, .slice ra VM.rel.length rc] 28)) := (Ext.refl w2).alloc _
  have HM2 := Lib.hid (hk2 _ (Agree.ofExt hA2))
  have HO2 := Lib.hid (OutAt.new w2 (.int .i64 VM.worlds) (.slice va VM.val.length vc) (.slice ra VM.rel.length rc) 28)
  have HA2 := Lib.hid (hE2.trans hA2)
  clear hk2 hA2 hE2
  dsimp only
  go_wp2_with fail
  generalize w2.alloc (.cells #[.int .i64 VM.worlds, .slice va VM.val.length vc, .slice ra VM.rel.length rc] 28) = W2 at *
  go_loopw [15, 76] (fun c ix wr => ∃ k s : Nat, k ≤ n ∧ c = .int .i64 (s : Int) ∧ ix = .int .i64 (k : Int) ∧ Hid (s = sumB v k) ∧ wr = W2) (fun _ ix _ => n - (intOf ix).toNat)
  case atStart => exact ⟨0, 0, Nat.zero_le _, rfl, rfl, Lib.hid rfl, rfl⟩
  case round =>
    obtain ⟨k, s, hk, rfl, rfl, HS, rfl⟩ := hrel
    by_cases hkn : k < n
    · have hs1 : (s : Int) + b01 v k = ((sumB v (k + 1) : Nat) : Int) := by rw [HS.out]; exact HSB.out k
      have hs2 := HSL.out (k + 1)
      have hs0 := and_div v k
      obtain ⟨s2, hsn⟩ : ∃ s2, s2 = sumB v (k + 1) := ⟨_, rfl⟩
      rw [← hsn] at hs1 hs2
      have HS2 := Lib.hid hsn
      clear hsn
      have hv16 := HV64.out
      go_wp2_with fail
      go_roundw
      case rel => exact ⟨k + 1, s2, hkn, rfl, by go_num, HS2, trivial⟩
      case measure => simp [intOf]; omega
    · obtain rfl : k = n := by omega
      obtain rfl : s = ov := HS.out.trans HSN.out
      clear HS HSN HSB HSL
      have hdl := HDL.out
      have hdp := of_decide_eq_true hdl
      go_wp2_with fail
      refine (HTL.out _).mono ?_
      rintro _ w3 ⟨fa, fc, rfl, h3, hE3⟩
      have HE3 := Lib.hid hE3
      have HF3 := Lib.hid h3
      clear h3 hE3
      dsimp only
      go_wp2_with fail
      refine (HPS.out _).mono ?_
      rintro _ w4 ⟨pa, pc, rfl, h4, hE4⟩
      have HE4 := Lib.hid (HE3.out.trans hE4)
      have HE34 := Lib.hid hE4
      have HF4 := Lib.hid h4
      clear h4 hE4
      dsimp only
      go_wp2_with fail
      refine (HN2.out _ pa pc HF4.out).mono ?_
      rintro _ w5 ⟨sa, sc, rfl, h5, hE5⟩
      have HX5 := Lib.hid (HE4.out.trans hE5)
      have HF5 := Lib.hid (HF3.out.ext (HE34.out.trans hE5))
      have HS5 := Lib.hid h5
      clear h5 hE5
      obtain ⟨m0, m1, m2, -⟩ := HO2.out.ext HX5.out
      have ml := (HO2.out.ext HX5.out).lt
      dsimp only
      go_wp2_with fail
      clear m0 m1 m2 ml hdl hdp
      refine (HUC.out _ va ra vc rc fa fc (HM2.out.ext' HX5.out) HF5.out (HTW.out _ (HA2.out.trans HX5.out))).mono ?_
      rintro _ w6 ⟨v6, r6, l6, c6, d6, e6, rfl, hk6, hE6⟩
      have hA6 : Ext w6 (w6.alloc (.cells #[.int .i64 P.1.worlds, .slice v6 P.1.val.length c6, .slice r6 P.1.rel.length d6] 28)) := (Ext.refl w6).alloc _
      have HM6 := Lib.hid (hk6 _ (Agree.ofExt hA6))
      have HO6 := Lib.hid (OutAt.new w6 (.int .i64 P.1.worlds) (.slice v6 P.1.val.length c6) (.slice r6 P.1.rel.length d6) 28)
      have HA6 := Lib.hid (hE6.trans hA6)
      clear hk6 hA6 hE6
      dsimp only
      go_wp2_with fail
      generalize w6.alloc (.cells #[.int .i64 P.1.worlds, .slice v6 P.1.val.length c6, .slice r6 P.1.rel.length d6] 28) = W6 at *
      have HY6 := Lib.hid (HX5.out.trans HA6.out)
      refine (HCO.out _ (HTW.out _ (HA2.out.trans HY6.out))).mono ?_
      rintro _ w7 ⟨v7, r7, c7, d7, rfl, hk7, hE7⟩
      have hA7 : Ext w7 (w7.alloc (.cells #[.int .i64 P.1.worlds, .slice v7 P.1.val.length c7, .slice r7 P.1.rel.length d7] 28)) := (Ext.refl w7).alloc _
      have HM7 := Lib.hid (hk7 _ (Agree.ofExt hA7))
      have HO7 := Lib.hid (OutAt.new w7 (.int .i64 P.1.worlds) (.slice v7 P.1.val.length c7) (.slice r7 P.1.rel.length d7) 28)
      have HA7 := Lib.hid (hE7.trans hA7)
      obtain ⟨m0, m1, m2, -⟩ := HO2.out.ext (HY6.out.trans hE7)
      have ml := (HO2.out.ext (HY6.out.trans hE7)).lt
      clear hk7 hA7 hE7
      dsimp only
      go_wp2_with fail
      clear m0 m1 m2 ml
      generalize w7.alloc (.cells #[.int .i64 P.1.worlds, .slice v7 P.1.val.length c7, .slice r7 P.1.rel.length d7] 28) = W7 at *
      have HY7 := Lib.hid (HY6.out.trans HA7.out)
      refine (HUD.out _ va ra vc rc sa sc (HM2.out.ext' HY7.out) (HS5.out.ext (HA6.out.trans HA7.out)) (HTW.out _ (HA2.out.trans HY7.out))).mono ?_
      rintro _ w8 ⟨v8, r8, l8, c8, d8, e8, rfl, hk8, hE8⟩
      have hA8 : Ext w8 (w8.alloc (.cells #[.int .i64 Q.1.worlds, .slice v8 Q.1.val.length c8, .slice r8 Q.1.rel.length d8] 28)) := (Ext.refl w8).alloc _
      have HM8 := Lib.hid (hk8 _ (Agree.ofExt hA8))
      have HO8 := Lib.hid (OutAt.new w8 (.int .i64 Q.1.worlds) (.slice v8 Q.1.val.length c8) (.slice r8 Q.1.rel.length d8) 28)
      have HA8 := Lib.hid (hE8.trans hA8)
      clear hk8 hA8 hE8
      dsimp only
      go_wp2_with fail
      generalize w8.alloc (.cells #[.int .i64 Q.1.worlds, .slice v8 Q.1.val.length c8, .slice r8 Q.1.rel.length d8] 28) = W8 at *
      have HY8 := Lib.hid (HY7.out.trans HA8.out)
      refine (HDE.out _ (HTW.out _ (HA2.out.trans HY8.out))).mono ?_
      rintro _ w9 ⟨v9, r9, c9, d9, rfl, hk9, hE9⟩
      obtain ⟨x0, x1, x2, -⟩ := HO6.out.ext (HA7.out.trans (HA8.out.trans hE9))
      have xl := (HO6.out.ext (HA7.out.trans (HA8.out.trans hE9))).lt
      obtain ⟨z0, z1, z2, -⟩ := HO7.out.ext (HA8.out.trans hE9)
      have zl := (HO7.out.ext (HA8.out.trans hE9)).lt
      have hA9 : Ext w9 (w9.alloc (.cells #[.int .i64 Q.1.worlds, .slice v9 Q.1.val.length c9, .slice r9 Q.1.rel.length d9] 28)) := (Ext.refl w9).alloc _
      have HM9 := Lib.hid (hk9 _ (Agree.ofExt hA9))
      have HO9 := Lib.hid (OutAt.new w9 (.int .i64 Q.1.worlds) (.slice v9 Q.1.val.length c9) (.slice r9 Q.1.rel.length d9) 28)
      have HA9 := Lib.hid (hE9.trans hA9)
      clear hk9 hA9 hE9
      dsimp only
      go_wp2_with fail
      clear x0 x1 x2 xl z0 z1 z2 zl
      generalize w9.alloc (.cells #[.int .i64 Q.1.worlds, .slice v9 Q.1.val.length c9, .slice r9 Q.1.rel.length d9] 28) = W9 at *
      refine (sameM_any P.1 v6 r6 v7 r7 c6 d6 c7 d7 _ (HM6.out.1.ext' (HA7.out.trans (HA8.out.trans HA9.out))) (HM7.out.ext' (HA8.out.trans HA9.out))).mono ?_
      rintro _ wa ⟨rfl, hEa⟩
      obtain ⟨x0, x1, x2, -⟩ := HO8.out.ext (HA9.out.trans hEa)
      have xl := (HO8.out.ext (HA9.out.trans hEa)).lt
      obtain ⟨z0, z1, z2, -⟩ := HO9.out.ext hEa
      have zl := (HO9.out.ext hEa).lt
      have HEa := Lib.hid hEa
      clear hEa
      dsimp only
      go_wp2_with fail
      clear x0 x1 x2 xl z0 z1 z2 zl
      refine (sameM_any Q.1 v8 r8 v9 r9 c8 d8 c9 d9 _ (HM8.out.1.ext' (HA9.out.trans HEa.out)) (HM9.out.ext' HEa.out)).mono ?_
      rintro _ wb ⟨rfl, hEb⟩
      have HEb := Lib.hid (HEa.out.trans hEb)
      clear hEb
      dsimp only
      go_wp2_with fail
      refine (index_any l1 (v : Int) l6 e6 _ (HM6.out.2.ext (HA7.out.trans (HA8.out.trans (HA9.out.trans HEb.out))))).mono ?_
      rintro _ _ ⟨rfl, rfl⟩
      rw [HP1.out]
      dsimp only
      go_wp2_with fail
      refine (index_any l2 (v : Int) l8 e8 _ (HM8.out.2.ext (HA9.out.trans HEb.out))).mono ?_
      rintro _ _ ⟨rfl, rfl⟩
      rw [HP2.out]
      dsimp only
      go_wp2_with fail
      have HYb := Lib.hid (HA2.out.trans (HY8.out.trans (HA9.out.trans HEb.out)))
      refine (HLE.out _ (HTW.out _ HYb.out)).mono ?_
      rintro _ wd ⟨rfl, hEd⟩
      have HYd := Lib.hid (HYb.out.trans hEd)
      have HKP : Hid (∀ w', Ext wd w' → w'.cell? ⟨w7.heap.size, 0, none⟩ = some (.int .i64 P.1.worlds) ∧ w'.cell? ⟨w7.heap.size, 1, none⟩ = some (.slice v7 P.1.val.length c7) ∧ w'.cell? ⟨w7.heap.size, 2, none⟩ = some (.slice r7 P.1.rel.length d7)) := Lib.hid fun w' e => by
        obtain ⟨c0, c1, c2, -⟩ := HO7.out.ext (HA8.out.trans (HA9.out.trans (HEb.out.trans (hEd.trans e))))
        exact ⟨c0, c1, c2⟩
      have HRM : Hid (∀ W, Ext wd W → RM W v7 r7 P.1) := Lib.hid fun W e => HM7.out.ext' (HA8.out.trans (HA9.out.trans (HEb.out.trans (hEd.trans e))))
      have HB1 : Hid (∀ W a c, Ext wd W → RN W a D1 → Calls Tryd.prog 15 #[.agg #[.int .i64 P.1.worlds, .slice v7 P.1.val.length c7, .slice r7 P.1.rel.length d7], .int .i64 P.2, .slice a D1.length c] W fun e w' => RetP (.bool y1) 0 e W w') := Lib.hid fun W a c e hf => HAT1.out W v7 r7 c7 d7 a c (HRM.out W e) hf
      have HB2 : Hid (∀ W a c, Ext wd W → RN W a D2 → Calls Tryd.prog 15 #[.agg #[.int .i64 P.1.worlds, .slice v7 P.1.val.length c7, .slice r7 P.1.rel.length d7], .int .i64 P.2, .slice a D2.length c] W fun e w' => RetP (.bool y2) 0 e W w') := Lib.hid fun W a c e hf => HAT2.out W v7 r7 c7 d7 a c (HRM.out W e) hf
      clear hEd
      obtain ⟨m0, m1, m2⟩ := HKP.out wd (Ext.refl _)
      have ml := World.block_lt_of_cell? _ _ m0
      dsimp only
      go_upto_region 26 with fail
      go_cut [35, 36] from 191 to 200 (fun s1 s2 wc => s1 = .bool y1 ∧ s2 = .int .i64 0 ∧ Hid (Ext wd wc))
      case first =>
        go_region_held3 (fun w' => w'.cell? ⟨w7.heap.size, 0, none⟩ = some (.int .i64 P.1.worlds) ∧ w'.cell? ⟨w7.heap.size, 1, none⟩ = some (.slice v7 P.1.val.length c7) ∧ w'.cell? ⟨w7.heap.size, 2, none⟩ = some (.slice r7 P.1.rel.length d7)) (first | exact HKP.out _ (Ext.refl _) | exact HKP.out _ ((Ext.refl _).drew) | exact HKP.out _ (by first | exact Ext.refl _ | exact (Ext.refl _).drew | assumption | (refine Ext.trans ?_ (by assumption); first | exact Ext.refl _ | exact (Ext.refl _).drew | assumption | (refine Ext.trans ?_ (by assumption); first | exact Ext.refl _ | exact (Ext.refl _).drew | assumption | (refine Ext.trans ?_ (by assumption); first | exact Ext.refl _ | exact (Ext.refl _).drew | assumption | (refine Ext.trans ?_ (by assumption); first | exact Ext.refl _ | exact (Ext.refl _).drew | assumption))))) | go_keep)
          (first | (go_at_call 17; refine (HFA.out _).mono ?_; rintro _ wff ⟨fa2, fc2, rfl, hrf, hYf⟩) | (go_at_call 16; refine (HD1.out _ _ _ (by assumption)).mono ?_; rintro _ wdd ⟨da, dc, rfl, hrd, hYd⟩) | (go_at_call 15; refine (HB1.out _ _ _ (by first | exact Ext.refl _ | exact (Ext.refl _).drew | assumption | (refine Ext.trans ?_ (by assumption); first | exact Ext.refl _ | exact (Ext.refl _).drew | assumption | (refine Ext.trans ?_ (by assumption); first | exact Ext.refl _ | exact (Ext.refl _).drew | assumption | (refine Ext.trans ?_ (by assumption); first | exact Ext.refl _ | exact (Ext.refl _).drew | assumption | (refine Ext.trans ?_ (by assumption); first | exact Ext.refl _ | exact (Ext.refl _).drew | assumption))))) (by assumption)).mono ?_; rintro _ wvv ⟨rfl, hYv⟩) | fail)
        all_goals
          go_wp2_with fail
          go_meet
          case rel => exact ⟨rfl, rfl, Lib.hid (by first | exact Ext.refl _ | exact (Ext.refl _).drew | assumption | (refine Ext.trans ?_ (by assumption); first | exact Ext.refl _ | exact (Ext.refl _).drew | assumption | (refine Ext.trans ?_ (by assumption); first | exact Ext.refl _ | exact (Ext.refl _).drew | assumption | (refine Ext.trans ?_ (by assumption); first | exact Ext.refl _ | exact (Ext.refl _).drew | assumption | (refine Ext.trans ?_ (by assumption); first | exact Ext.refl _ | exact (Ext.refl _).drew | assumption)))))⟩
      case rest =>
        obtain ⟨rfl, rfl, HEC⟩ := hcut
        rename World => we
        have HKP2 : Hid (∀ w', Ext we w' → w'.cell? ⟨w7.heap.size, 0, none⟩ = some (.int .i64 P.1.worlds) ∧ w'.cell? ⟨w7.heap.size, 1, none⟩ = some (.slice v7 P.1.val.length c7) ∧ w'.cell? ⟨w7.heap.size, 2, none⟩ = some (.slice r7 P.1.rel.length d7)) := Lib.hid fun w' e => HKP.out w' (HEC.out.trans e)
        have HB3 : Hid (∀ W a c, Ext we W → RN W a D2 → Calls Tryd.prog 15 #[.agg #[.int .i64 P.1.worlds, .slice v7 P.1.val.length c7, .slice r7 P.1.rel.length d7], .int .i64 P.2, .slice a D2.length c] W fun e w' => RetP (.bool y2) 0 e W w') := Lib.hid fun W a c e hf => HB2.out W a c (HEC.out.trans e) hf
        clear m0 m1 m2 ml
        obtain ⟨m0, m1, m2⟩ := HKP2.out we (Ext.refl _)
        have ml := World.block_lt_of_cell? _ _ m0
        go_upto_region 27 with fail
        go_cut [37, 38] from 201 to 211 (fun s1 s2 wc => s1 = .bool y2 ∧ s2 = .int .i64 0 ∧ Hid (Ext we wc))
        case first =>
          go_region_held3 (fun w' => w'.cell? ⟨w7.heap.size, 0, none⟩ = some (.int .i64 P.1.worlds) ∧ w'.cell? ⟨w7.heap.size, 1, none⟩ = some (.slice v7 P.1.val.length c7) ∧ w'.cell? ⟨w7.heap.size, 2, none⟩ = some (.slice r7 P.1.rel.length d7)) (first | exact HKP2.out _ (Ext.refl _) | exact HKP2.out _ ((Ext.refl _).drew) | exact HKP2.out _ (by first | exact Ext.refl _ | exact (Ext.refl _).drew | assumption | (refine Ext.trans ?_ (by assumption); first | exact Ext.refl _ | exact (Ext.refl _).drew | assumption | (refine Ext.trans ?_ (by assumption); first | exact Ext.refl _ | exact (Ext.refl _).drew | assumption | (refine Ext.trans ?_ (by assumption); first | exact Ext.refl _ | exact (Ext.refl _).drew | assumption | (refine Ext.trans ?_ (by assumption); first | exact Ext.refl _ | exact (Ext.refl _).drew | assumption))))) | go_keep)
            (first | (go_at_call 17; refine (HFA.out _).mono ?_; rintro _ wff ⟨fa2, fc2, rfl, hrf, hYf⟩) | (go_at_call 8; refine (HNO.out _ _ _ (by assumption)).mono ?_; rintro _ wnn ⟨na, nc, rfl, hrn, hYn⟩) | (go_at_call 16; refine (HD2.out _ _ _ (by assumption)).mono ?_; rintro _ wdd ⟨da, dc, rfl, hrd, hYd⟩) | (go_at_call 15; refine (HB3.out _ _ _ (by first | exact Ext.refl _ | exact (Ext.refl _).drew | assumption | (refine Ext.trans ?_ (by assumption); first | exact Ext.refl _ | exact (Ext.refl _).drew | assumption | (refine Ext.trans ?_ (by assumption); first | exact Ext.refl _ | exact (Ext.refl _).drew | assumption | (refine Ext.trans ?_ (by assumption); first | exact Ext.refl _ | exact (Ext.refl _).drew | assumption | (refine Ext.trans ?_ (by assumption); first | exact Ext.refl _ | exact (Ext.refl _).drew | assumption))))) (by assumption)).mono ?_; rintro _ wvv ⟨rfl, hYv⟩) | fail)
          all_goals
            go_wp2_with fail
            go_meet
            case rel => exact ⟨rfl, rfl, Lib.hid (by first | exact Ext.refl _ | exact (Ext.refl _).drew | assumption | (refine Ext.trans ?_ (by assumption); first | exact Ext.refl _ | exact (Ext.refl _).drew | assumption | (refine Ext.trans ?_ (by assumption); first | exact Ext.refl _ | exact (Ext.refl _).drew | assumption | (refine Ext.trans ?_ (by assumption); first | exact Ext.refl _ | exact (Ext.refl _).drew | assumption | (refine Ext.trans ?_ (by assumption); first | exact Ext.refl _ | exact (Ext.refl _).drew | assumption)))))⟩
        case rest =>
          obtain ⟨rfl, rfl, HEC2⟩ := hcut
          rename World => wf
          cases y1 <;> cases y2
          all_goals
            go_wp2_with fail
            go_ret
            exact ⟨rfl, HX1.out.trans (HYd.out.trans (HEC.out.trans HEC2.out))⟩
set_option maxRecDepth 20000 in
set_option maxHeartbeats 16000000 in
theorem topCountY_any (sz vt q0 q1 q2 : Nat) (_h1 : sz ≤ 255) (h2 : vt ≤ 255) (h3 : q0 ≤ 255) (h4 : q1 ≤ 255) (h5 : q2 ≤ 255) (hlt : ¬ onesN (vt &&& (2 ^ (2 + sz % 3) - 1)) < q0 % (2 + sz % 3 + 1)) (w : World) (hT : Tab w) :
    Calls Tryd.prog 3 #[.int .u8 (sz : Int), .int .u8 (vt : Int), .agg #[.int .u8 (q0 : Int), .int .u8 (q1 : Int), .int .u8 (q2 : Int)]] w fun e w' => e = .returned (.bool true) ∧ Ext w w' := by
  obtain ⟨r, hr⟩ : ∃ r, r = sz % 3 := ⟨_, rfl⟩
  have hr3 : r < 3 := by omega
  have hrI : (sz : Int) % 3 = (r : Int) := by omega
  obtain ⟨n, hnr⟩ : ∃ n, n = 2 + r := ⟨_, rfl⟩
  have hnI : 2 + (r : Int) = (n : Int) := by omega
  have HZ := Lib.hid (Sz.mk' n (by omega) (by omega))
  obtain ⟨a, ha⟩ : ∃ a, a = 2 ^ n - 1 := ⟨_, rfl⟩
  rw [← ha] at HZ
  have hn2 := HZ.out.n2
  have hn4 := HZ.out.n4
  have ha3 := HZ.out.lo
  have ha15 := HZ.out.hi
  have hpa := HZ.out.pw
  have h63 : n < 63 := by omega
  obtain ⟨hq1, hq2⟩ := pw_int hn4
  have haI : p2 n - 1 = (a : Int) := by unfold p2; omega
  have ha0 : ((a : Int) == 0) = false := by simp; omega
  have ha0' : ¬ ((a : Int) = 0) := by omega
  obtain ⟨v, hv⟩ : ∃ v, v = vt &&& a := ⟨_, rfl⟩
  have hvI : bits .and .i64 (vt : Int) (a : Int) = (v : Int) := by rw [hv]; exact and_nat vt a (by omega) (by omega)
  have hva : v ≤ a := by rw [hv]; exact Nat.and_le_right
  obtain ⟨gm, hgm⟩ : ∃ gm, gm = q1 % a := ⟨_, rfl⟩
  have hgmI : (q1 : Int).tmod (a : Int) = (gm : Int) := by rw [hgm]; exact (Int.ofNat_tmod q1 a).symm
  have hgml : gm < a := by rw [hgm]; exact Nat.mod_lt _ (by omega)
  obtain ⟨g, hg⟩ : ∃ g, g = 1 + gm := ⟨_, rfl⟩
  have hgI : 1 + (gm : Int) = (g : Int) := by omega
  have hg1 : 1 ≤ g := by omega
  have hga : g ≤ a := by omega
  obtain ⟨q, hq⟩ : ∃ q, q = q0 % (n + 1) := ⟨_, rfl⟩
  have hqI : (q0 : Int).tmod ((n : Int) + 1) = (q : Int) := by rw [hq]; exact (Int.ofNat_tmod q0 (n + 1)).symm
  have hqn : q ≤ n := by have := Nat.mod_lt q0 (show 0 < n + 1 by omega); omega
  have hn10 : ((n : Int) + 1 == 0) = false := by simp; omega
  have hn10' : ¬ ((n : Int) + 1 = 0) := by omega
  have hn0 : ((n : Int) == 0) = false := by simp; omega
  have hn0' : ¬ ((n : Int) = 0) := by omega
  obtain ⟨i, hi⟩ : ∃ i, i = q2 % n := ⟨_, rfl⟩
  have hiI : (q2 : Int).tmod (n : Int) = (i : Int) := by rw [hi]; exact (Int.ofNat_tmod q2 n).symm
  have hin : i < n := by rw [hi]; exact Nat.mod_lt _ (by omega)
  have hv2 : v < 2 ^ n := by omega
  have hg2 : g < 2 ^ n := by omega
  have hlq : ¬ onesN v < q := by rw [hv, hq, ha, hnr, hr]; exact hlt
  obtain ⟨uc, ud⟩ := upd_count (n := n) (v := v) ⟨hn2, hn4⟩ hv2
  obtain ⟨sc, sd⟩ := upd_dec (n := n) (v := v) (q := q) ⟨hn2, hn4⟩ hv2 hqn
  have hsf : saidF n v q = passF n q := if_neg hlq
  have okc := cnt_okP (n := n) ⟨hn2, hn4⟩ hv2
  obtain ⟨ae1, ae2⟩ := atErr_dist okc hn4 hg1 hg2 hin
  have HKW : Hid (knowsW (countedW n v) (g : Int) (i : Int) = (atOf (countedW n v).1 (countedW n v).2 (ccDist (g : Int) (ccFact (i : Int))) || atOf (countedW n v).1 (countedW n v).2 (ccDist (g : Int) (ccNot (ccFact (i : Int)))))) := Lib.hid rfl
  have HVO := Lib.hid (votesE_any n ⟨hn2, hn4⟩)
  have HTL := Lib.hid (tally_any n (onesN v) ⟨hn2, hn4⟩ (ones_le hn4 hv2))
  have HPS := Lib.hid (passes_any n q ⟨hn2, hn4⟩ hqn)
  have HSN : Hid (sumB v n = onesN v) := Lib.hid (sumB_ones hn4 hv2)
  have hov := ones4 (show v < 16 by omega)
  have HCO := Lib.hid (fun W hT => Counted_any n v ⟨hn2, hn4⟩ hv2 W hT)
  have HDE := Lib.hid (fun W hT => Decided_any n v q ⟨hn2, hn4⟩ hv2 hqn W hT)
  have HLE := Lib.hid (fun W hT => Learns_any n v (g : Int) (i : Int) ⟨hn2, hn4⟩ hv2 ⟨by omega, by unfold p2; omega⟩ ⟨by omega, by omega⟩ W hT)
  have HUC : Hid (∀ W va ra vc rc fa fc, RM W va ra (votesM n) → RN W fa (tallyF n (onesN v)) → Tab W → Calls Tryd.prog 9 #[.agg #[.int .i64 (votesM n).worlds, .slice va (votesM n).val.length vc, .slice ra (votesM n).rel.length rc], .slice fa (tallyF n (onesN v)).length fc] W fun e w' => RetUp (countedW n v).1 (upL (votesM n) (tallyF n (onesN v))) e W w') := Lib.hid fun W va ra vc rc fa fc hm hf hT => by
    have h := updateP_any (votesM n) va ra vc rc fa fc _ W hm hf hT uc
    rw [← ud]; exact h
  have HUD : Hid (∀ W va ra vc rc fa fc, RM W va ra (votesM n) → RN W fa (saidF n v q) → Tab W → Calls Tryd.prog 9 #[.agg #[.int .i64 (votesM n).worlds, .slice va (votesM n).val.length vc, .slice ra (votesM n).rel.length rc], .slice fa (saidF n v q).length fc] W fun e w' => RetUp (decidedW n v q).1 (upL (votesM n) (saidF n v q)) e W w') := Lib.hid fun W va ra vc rc fa fc hm hf hT => by
    have h := updateP_any (votesM n) va ra vc rc fa fc _ W hm hf hT sc
    rw [← sd]; exact h
  have HP1 : Hid (posI (upL (votesM n) (tallyF n (onesN v))) (v : Int) = (countedW n v).2) := Lib.hid (by rw [← ud]; rfl)
  have HP2 : Hid (posI (upL (votesM n) (saidF n v q)) (v : Int) = (decidedW n v q).2) := Lib.hid (by rw [← sd]; rfl)
  have HFA : Hid (∀ W, Calls Tryd.prog 17 #[.int .i64 (i : Int)] W fun e w' => RetN (ccFact (i : Int)) e W w') := Lib.hid fun W => cFact_any (i : Int) W
  have HD1 : Hid (∀ W a c, RN W a (ccFact (i : Int)) → Calls Tryd.prog 16 #[.int .i64 (g : Int), .slice a (ccFact (i : Int)).length c] W fun e w' => RetN (ccDist (g : Int) (ccFact (i : Int))) e W w') := Lib.hid fun W a c h => cDist_any (g : Int) a c (ccFact (i : Int)) W h
  have HNO : Hid (∀ W a c, RN W a (ccFact (i : Int)) → Calls Tryd.prog 8 #[.slice a (ccFact (i : Int)).length c] W fun e w' => RetN (ccNot (ccFact (i : Int))) e W w') := Lib.hid fun W a c h => cNot_any a c (ccFact (i : Int)) W h
  have HD2 : Hid (∀ W a c, RN W a (ccNot (ccFact (i : Int))) → Calls Tryd.prog 16 #[.int .i64 (g : Int), .slice a (ccNot (ccFact (i : Int))).length c] W fun e w' => RetN (ccDist (g : Int) (ccNot (ccFact (i : Int)))) e W w') := Lib.hid fun W a c h => cDist_any (g : Int) a c (ccNot (ccFact (i : Int))) W h
  have HAT1 : Hid (∀ W va ra vc rc a c, RM W va ra (countedW n v).1 → RN W a (ccDist (g : Int) (ccFact (i : Int))) → Calls Tryd.prog 15 #[.agg #[.int .i64 (countedW n v).1.worlds, .slice va (countedW n v).1.val.length vc, .slice ra (countedW n v).1.rel.length rc], .int .i64 (countedW n v).2, .slice a (ccDist (g : Int) (ccFact (i : Int))).length c] W fun e w' => RetP (.bool (atOf (countedW n v).1 (countedW n v).2 (ccDist (g : Int) (ccFact (i : Int))))) 0 e W w') := Lib.hid fun W va ra vc rc a c hm hf => by
    have h := at_any (countedW n v).1 va ra vc rc (countedW n v).2 a c _ W hm hf
    rw [ae1] at h; exact h
  have HAT2 : Hid (∀ W va ra vc rc a c, RM W va ra (countedW n v).1 → RN W a (ccDist (g : Int) (ccNot (ccFact (i : Int)))) → Calls Tryd.prog 15 #[.agg #[.int .i64 (countedW n v).1.worlds, .slice va (countedW n v).1.val.length vc, .slice ra (countedW n v).1.rel.length rc], .int .i64 (countedW n v).2, .slice a (ccDist (g : Int) (ccNot (ccFact (i : Int)))).length c] W fun e w' => RetP (.bool (atOf (countedW n v).1 (countedW n v).2 (ccDist (g : Int) (ccNot (ccFact (i : Int)))))) 0 e W w') := Lib.hid fun W va ra vc rc a c hm hf => by
    have h := at_any (countedW n v).1 va ra vc rc (countedW n v).2 a c _ W hm hf
    rw [ae2] at h; exact h
  rw [← hsf] at HPS
  rw [HKW.out] at HLE
  have HSB := Lib.hid (fun k => sumB_step v k)
  have HSL := Lib.hid (fun k => sumB_le v k)
  have HV64 : Hid (v < 16) := Lib.hid (by omega)
  generalize upL (votesM n) (tallyF n (onesN v)) = l1 at *
  generalize upL (votesM n) (saidF n v q) = l2 at *
  generalize saidF n v q = SF at *
  generalize tallyF n (onesN v) = TF at *
  generalize passF n q = PF at *
  generalize votesM n = VM at *
  generalize atOf (countedW n v).1 (countedW n v).2 (ccDist (g : Int) (ccFact (i : Int))) = y1 at *
  generalize atOf (countedW n v).1 (countedW n v).2 (ccDist (g : Int) (ccNot (ccFact (i : Int)))) = y2 at *
  generalize ccDist (g : Int) (ccFact (i : Int)) = D1 at *
  generalize ccDist (g : Int) (ccNot (ccFact (i : Int))) = D2 at *
  generalize ccNot (ccFact (i : Int)) = NF at *
  generalize ccFact (i : Int) = FF at *
  generalize countedW n v = P at *
  generalize decidedW n v q = Q at *
  generalize hoe : onesN v = ov at *
  have hdl : decide (ov < q) = false := decide_eq_false (by omega)
  have HDL := Lib.hid hdl
  clear hdl
  have hE0 : Ext w (w.alloc (.cells #[.int .u8 (q0 : Int), .int .u8 (q1 : Int), .int .u8 (q2 : Int)] 22)) := (Ext.refl w).alloc _
  have HBX := Lib.hid (OutAt.new w (.int .u8 (q0 : Int)) (.int .u8 (q1 : Int)) (.int .u8 (q2 : Int)) 22)
  have HE0 := Lib.hid hE0
  have HT := Lib.hid (hT.ext hE0)
  have HAW := Lib.hid (cAwake22_any _ (hT.ext hE0))
  have hnn1 : ((P.2 : Int) != P.2) = false := by simp
  have hnn2 : ((Q.2 : Int) != Q.2) = false := by simp
  clear hT hE0 hi hq hv hgm hg ha hnr hr hpa HZ uc ud sc sd hsf okc ae1 ae2 hlt hlq HKW hoe hv2 hg2
  go_enter Tryd.func3, Tryd.ntmps3
  go_wp2_with fail
  go_quiet (fail)
  clear hgmI hqI hiI hvI hgI hrI
  have HE1 : Hid (Ext w (World.drewN (w.alloc (.cells #[.int .u8 (q0 : Int), .int .u8 (q1 : Int), .int .u8 (q2 : Int)] 22)) nq)) := Lib.hid (HE0.out.drewN _)
  have HT1 := Lib.hid (HT.out.ext ((Ext.refl _).drewN nq))
  go_wp2_with fail
  refine (cAwake22_any _ HT1.out).mono ?_
  rintro _ w1 ⟨rfl, hE1⟩
  have HX1 := Lib.hid (HE1.out.trans hE1)
  have HTW : Hid (∀ W, Ext w1 W → Tab W) := Lib.hid fun W e => HT1.out.ext (hE1.trans e)
  clear hE1
  dsimp only
  go_wp2_with fail
  refine (HVO.out _).mono ?_
  rintro _ w2 ⟨va, ra, vc, rc, rfl, hk2, hE2⟩
  have hA2 : Ext w2 (w2.alloc (.cells #[.int .i64 VM.worlds, .slice va VM.val.length vc, .slice ra VM.rel.length rc] 28)) := (Ext.refl w2).alloc _
  have HM2 := Lib.hid (hk2 _ (Agree.ofExt hA2))
  have HO2 := Lib.hid (OutAt.new w2 (.int .i64 VM.worlds) (.slice va VM.val.length vc) (.slice ra VM.rel.length rc) 28)
  have HA2 := Lib.hid (hE2.trans hA2)
  clear hk2 hA2 hE2
  dsimp only
  go_wp2_with fail
  generalize w2.alloc (.cells #[.int .i64 VM.worlds, .slice va VM.val.length vc, .slice ra VM.rel.length rc] 28) = W2 at *
  go_loopw [15, 76] (fun c ix wr => ∃ k s : Nat, k ≤ n ∧ c = .int .i64 (s : Int) ∧ ix = .int .i64 (k : Int) ∧ Hid (s = sumB v k) ∧ wr = W2) (fun _ ix _ => n - (intOf ix).toNat)
  case atStart => exact ⟨0, 0, Nat.zero_le _, rfl, rfl, Lib.hid rfl, rfl⟩
  case round =>
    obtain ⟨k, s, hk, rfl, rfl, HS, rfl⟩ := hrel
    by_cases hkn : k < n
    · have hs1 : (s : Int) + b01 v k = ((sumB v (k + 1) : Nat) : Int) := by rw [HS.out]; exact HSB.out k
      have hs2 := HSL.out (k + 1)
      have hs0 := and_div v k
      obtain ⟨s2, hsn⟩ : ∃ s2, s2 = sumB v (k + 1) := ⟨_, rfl⟩
      rw [← hsn] at hs1 hs2
      have HS2 := Lib.hid hsn
      clear hsn
      have hv16 := HV64.out
      go_wp2_with fail
      go_roundw
      case rel => exact ⟨k + 1, s2, hkn, rfl, by go_num, HS2, trivial⟩
      case measure => simp [intOf]; omega
    · obtain rfl : k = n := by omega
      obtain rfl : s = ov := HS.out.trans HSN.out
      clear HS HSN HSB HSL
      have hdl := HDL.out
      have hdp := of_decide_eq_false hdl
      go_wp2_with fail
      refine (HTL.out _).mono ?_
      rintro _ w3 ⟨fa, fc, rfl, h3, hE3⟩
      have HE3 := Lib.hid hE3
      have HF3 := Lib.hid h3
      clear h3 hE3
      dsimp only
      go_wp2_with fail
      refine (HPS.out _).mono ?_
      rintro _ w5 ⟨sa, sc, rfl, h5, hE5⟩
      have HX5 := Lib.hid (HE3.out.trans hE5)
      have HF5 := Lib.hid (HF3.out.ext hE5)
      have HS5 := Lib.hid h5
      clear h5 hE5
      obtain ⟨m0, m1, m2, -⟩ := HO2.out.ext HX5.out
      have ml := (HO2.out.ext HX5.out).lt
      dsimp only
      go_wp2_with fail
      clear m0 m1 m2 ml hdl hdp
      refine (HUC.out _ va ra vc rc fa fc (HM2.out.ext' HX5.out) HF5.out (HTW.out _ (HA2.out.trans HX5.out))).mono ?_
      rintro _ w6 ⟨v6, r6, l6, c6, d6, e6, rfl, hk6, hE6⟩
      have hA6 : Ext w6 (w6.alloc (.cells #[.int .i64 P.1.worlds, .slice v6 P.1.val.length c6, .slice r6 P.1.rel.length d6] 28)) := (Ext.refl w6).alloc _
      have HM6 := Lib.hid (hk6 _ (Agree.ofExt hA6))
      have HO6 := Lib.hid (OutAt.new w6 (.int .i64 P.1.worlds) (.slice v6 P.1.val.length c6) (.slice r6 P.1.rel.length d6) 28)
      have HA6 := Lib.hid (hE6.trans hA6)
      clear hk6 hA6 hE6
      dsimp only
      go_wp2_with fail
      generalize w6.alloc (.cells #[.int .i64 P.1.worlds, .slice v6 P.1.val.length c6, .slice r6 P.1.rel.length d6] 28) = W6 at *
      have HY6 := Lib.hid (HX5.out.trans HA6.out)
      refine (HCO.out _ (HTW.out _ (HA2.out.trans HY6.out))).mono ?_
      rintro _ w7 ⟨v7, r7, c7, d7, rfl, hk7, hE7⟩
      have hA7 : Ext w7 (w7.alloc (.cells #[.int .i64 P.1.worlds, .slice v7 P.1.val.length c7, .slice r7 P.1.rel.length d7] 28)) := (Ext.refl w7).alloc _
      have HM7 := Lib.hid (hk7 _ (Agree.ofExt hA7))
      have HO7 := Lib.hid (OutAt.new w7 (.int .i64 P.1.worlds) (.slice v7 P.1.val.length c7) (.slice r7 P.1.rel.length d7) 28)
      have HA7 := Lib.hid (hE7.trans hA7)
      obtain ⟨m0, m1, m2, -⟩ := HO2.out.ext (HY6.out.trans hE7)
      have ml := (HO2.out.ext (HY6.out.trans hE7)).lt
      clear hk7 hA7 hE7
      dsimp only
      go_wp2_with fail
      clear m0 m1 m2 ml
      generalize w7.alloc (.cells #[.int .i64 P.1.worlds, .slice v7 P.1.val.length c7, .slice r7 P.1.rel.length d7] 28) = W7 at *
      have HY7 := Lib.hid (HY6.out.trans HA7.out)
      refine (HUD.out _ va ra vc rc sa sc (HM2.out.ext' HY7.out) (HS5.out.ext (HA6.out.trans HA7.out)) (HTW.out _ (HA2.out.trans HY7.out))).mono ?_
      rintro _ w8 ⟨v8, r8, l8, c8, d8, e8, rfl, hk8, hE8⟩
      have hA8 : Ext w8 (w8.alloc (.cells #[.int .i64 Q.1.worlds, .slice v8 Q.1.val.length c8, .slice r8 Q.1.rel.length d8] 28)) := (Ext.refl w8).alloc _
      have HM8 := Lib.hid (hk8 _ (Agree.ofExt hA8))
      have HO8 := Lib.hid (OutAt.new w8 (.int .i64 Q.1.worlds) (.slice v8 Q.1.val.length c8) (.slice r8 Q.1.rel.length d8) 28)
      have HA8 := Lib.hid (hE8.trans hA8)
      clear hk8 hA8 hE8
      dsimp only
      go_wp2_with fail
      generalize w8.alloc (.cells #[.int .i64 Q.1.worlds, .slice v8 Q.1.val.length c8, .slice r8 Q.1.rel.length d8] 28) = W8 at *
      have HY8 := Lib.hid (HY7.out.trans HA8.out)
      refine (HDE.out _ (HTW.out _ (HA2.out.trans HY8.out))).mono ?_
      rintro _ w9 ⟨v9, r9, c9, d9, rfl, hk9, hE9⟩
      obtain ⟨x0, x1, x2, -⟩ := HO6.out.ext (HA7.out.trans (HA8.out.trans hE9))
      have xl := (HO6.out.ext (HA7.out.trans (HA8.out.trans hE9))).lt
      obtain ⟨z0, z1, z2, -⟩ := HO7.out.ext (HA8.out.trans hE9)
      have zl := (HO7.out.ext (HA8.out.trans hE9)).lt
      have hA9 : Ext w9 (w9.alloc (.cells #[.int .i64 Q.1.worlds, .slice v9 Q.1.val.length c9, .slice r9 Q.1.rel.length d9] 28)) := (Ext.refl w9).alloc _
      have HM9 := Lib.hid (hk9 _ (Agree.ofExt hA9))
      have HO9 := Lib.hid (OutAt.new w9 (.int .i64 Q.1.worlds) (.slice v9 Q.1.val.length c9) (.slice r9 Q.1.rel.length d9) 28)
      have HA9 := Lib.hid (hE9.trans hA9)
      clear hk9 hA9 hE9
      dsimp only
      go_wp2_with fail
      clear x0 x1 x2 xl z0 z1 z2 zl
      generalize w9.alloc (.cells #[.int .i64 Q.1.worlds, .slice v9 Q.1.val.length c9, .slice r9 Q.1.rel.length d9] 28) = W9 at *
      refine (sameM_any P.1 v6 r6 v7 r7 c6 d6 c7 d7 _ (HM6.out.1.ext' (HA7.out.trans (HA8.out.trans HA9.out))) (HM7.out.ext' (HA8.out.trans HA9.out))).mono ?_
      rintro _ wa ⟨rfl, hEa⟩
      obtain ⟨x0, x1, x2, -⟩ := HO8.out.ext (HA9.out.trans hEa)
      have xl := (HO8.out.ext (HA9.out.trans hEa)).lt
      obtain ⟨z0, z1, z2, -⟩ := HO9.out.ext hEa
      have zl := (HO9.out.ext hEa).lt
      have HEa := Lib.hid hEa
      clear hEa
      dsimp only
      go_wp2_with fail
      clear x0 x1 x2 xl z0 z1 z2 zl
      refine (sameM_any Q.1 v8 r8 v9 r9 c8 d8 c9 d9 _ (HM8.out.1.ext' (HA9.out.trans HEa.out)) (HM9.out.ext' HEa.out)).mono ?_
      rintro _ wb ⟨rfl, hEb⟩
      have HEb := Lib.hid (HEa.out.trans hEb)
      clear hEb
      dsimp only
      go_wp2_with fail
      refine (index_any l1 (v : Int) l6 e6 _ (HM6.out.2.ext (HA7.out.trans (HA8.out.trans (HA9.out.trans HEb.out))))).mono ?_
      rintro _ _ ⟨rfl, rfl⟩
      rw [HP1.out]
      dsimp only
      go_wp2_with fail
      refine (index_any l2 (v : Int) l8 e8 _ (HM8.out.2.ext (HA9.out.trans HEb.out))).mono ?_
      rintro _ _ ⟨rfl, rfl⟩
      rw [HP2.out]
      dsimp only
      go_wp2_with fail
      have HYb := Lib.hid (HA2.out.trans (HY8.out.trans (HA9.out.trans HEb.out)))
      refine (HLE.out _ (HTW.out _ HYb.out)).mono ?_
      rintro _ wd ⟨rfl, hEd⟩
      have HYd := Lib.hid (HYb.out.trans hEd)
      have HKP : Hid (∀ w', Ext wd w' → w'.cell? ⟨w7.heap.size, 0, none⟩ = some (.int .i64 P.1.worlds) ∧ w'.cell? ⟨w7.heap.size, 1, none⟩ = some (.slice v7 P.1.val.length c7) ∧ w'.cell? ⟨w7.heap.size, 2, none⟩ = some (.slice r7 P.1.rel.length d7)) := Lib.hid fun w' e => by
        obtain ⟨c0, c1, c2, -⟩ := HO7.out.ext (HA8.out.trans (HA9.out.trans (HEb.out.trans (hEd.trans e))))
        exact ⟨c0, c1, c2⟩
      have HRM : Hid (∀ W, Ext wd W → RM W v7 r7 P.1) := Lib.hid fun W e => HM7.out.ext' (HA8.out.trans (HA9.out.trans (HEb.out.trans (hEd.trans e))))
      have HB1 : Hid (∀ W a c, Ext wd W → RN W a D1 → Calls Tryd.prog 15 #[.agg #[.int .i64 P.1.worlds, .slice v7 P.1.val.length c7, .slice r7 P.1.rel.length d7], .int .i64 P.2, .slice a D1.length c] W fun e w' => RetP (.bool y1) 0 e W w') := Lib.hid fun W a c e hf => HAT1.out W v7 r7 c7 d7 a c (HRM.out W e) hf
      have HB2 : Hid (∀ W a c, Ext wd W → RN W a D2 → Calls Tryd.prog 15 #[.agg #[.int .i64 P.1.worlds, .slice v7 P.1.val.length c7, .slice r7 P.1.rel.length d7], .int .i64 P.2, .slice a D2.length c] W fun e w' => RetP (.bool y2) 0 e W w') := Lib.hid fun W a c e hf => HAT2.out W v7 r7 c7 d7 a c (HRM.out W e) hf
      clear hEd
      obtain ⟨m0, m1, m2⟩ := HKP.out wd (Ext.refl _)
      have ml := World.block_lt_of_cell? _ _ m0
      dsimp only
      go_upto_region 26 with fail
      go_cut [35, 36] from 191 to 200 (fun s1 s2 wc => s1 = .bool y1 ∧ s2 = .int .i64 0 ∧ Hid (Ext wd wc))
      case first =>
        go_region_held3 (fun w' => w'.cell? ⟨w7.heap.size, 0, none⟩ = some (.int .i64 P.1.worlds) ∧ w'.cell? ⟨w7.heap.size, 1, none⟩ = some (.slice v7 P.1.val.length c7) ∧ w'.cell? ⟨w7.heap.size, 2, none⟩ = some (.slice r7 P.1.rel.length d7)) (first | exact HKP.out _ (Ext.refl _) | exact HKP.out _ ((Ext.refl _).drew) | exact HKP.out _ (by first | exact Ext.refl _ | exact (Ext.refl _).drew | assumption | (refine Ext.trans ?_ (by assumption); first | exact Ext.refl _ | exact (Ext.refl _).drew | assumption | (refine Ext.trans ?_ (by assumption); first | exact Ext.refl _ | exact (Ext.refl _).drew | assumption | (refine Ext.trans ?_ (by assumption); first | exact Ext.refl _ | exact (Ext.refl _).drew | assumption | (refine Ext.trans ?_ (by assumption); first | exact Ext.refl _ | exact (Ext.refl _).drew | assumption))))) | go_keep)
          (first | (go_at_call 17; refine (HFA.out _).mono ?_; rintro _ wff ⟨fa2, fc2, rfl, hrf, hYf⟩) | (go_at_call 16; refine (HD1.out _ _ _ (by assumption)).mono ?_; rintro _ wdd ⟨da, dc, rfl, hrd, hYd⟩) | (go_at_call 15; refine (HB1.out _ _ _ (by first | exact Ext.refl _ | exact (Ext.refl _).drew | assumption | (refine Ext.trans ?_ (by assumption); first | exact Ext.refl _ | exact (Ext.refl _).drew | assumption | (refine Ext.trans ?_ (by assumption); first | exact Ext.refl _ | exact (Ext.refl _).drew | assumption | (refine Ext.trans ?_ (by assumption); first | exact Ext.refl _ | exact (Ext.refl _).drew | assumption | (refine Ext.trans ?_ (by assumption); first | exact Ext.refl _ | exact (Ext.refl _).drew | assumption))))) (by assumption)).mono ?_; rintro _ wvv ⟨rfl, hYv⟩) | fail)
        all_goals
          go_wp2_with fail
          go_meet
          case rel => exact ⟨rfl, rfl, Lib.hid (by first | exact Ext.refl _ | exact (Ext.refl _).drew | assumption | (refine Ext.trans ?_ (by assumption); first | exact Ext.refl _ | exact (Ext.refl _).drew | assumption | (refine Ext.trans ?_ (by assumption); first | exact Ext.refl _ | exact (Ext.refl _).drew | assumption | (refine Ext.trans ?_ (by assumption); first | exact Ext.refl _ | exact (Ext.refl _).drew | assumption | (refine Ext.trans ?_ (by assumption); first | exact Ext.refl _ | exact (Ext.refl _).drew | assumption)))))⟩
      case rest =>
        obtain ⟨rfl, rfl, HEC⟩ := hcut
        rename World => we
        have HKP2 : Hid (∀ w', Ext we w' → w'.cell? ⟨w7.heap.size, 0, none⟩ = some (.int .i64 P.1.worlds) ∧ w'.cell? ⟨w7.heap.size, 1, none⟩ = some (.slice v7 P.1.val.length c7) ∧ w'.cell? ⟨w7.heap.size, 2, none⟩ = some (.slice r7 P.1.rel.length d7)) := Lib.hid fun w' e => HKP.out w' (HEC.out.trans e)
        have HB3 : Hid (∀ W a c, Ext we W → RN W a D2 → Calls Tryd.prog 15 #[.agg #[.int .i64 P.1.worlds, .slice v7 P.1.val.length c7, .slice r7 P.1.rel.length d7], .int .i64 P.2, .slice a D2.length c] W fun e w' => RetP (.bool y2) 0 e W w') := Lib.hid fun W a c e hf => HB2.out W a c (HEC.out.trans e) hf
        clear m0 m1 m2 ml
        obtain ⟨m0, m1, m2⟩ := HKP2.out we (Ext.refl _)
        have ml := World.block_lt_of_cell? _ _ m0
        go_upto_region 27 with fail
        go_cut [37, 38] from 201 to 211 (fun s1 s2 wc => s1 = .bool y2 ∧ s2 = .int .i64 0 ∧ Hid (Ext we wc))
        case first =>
          go_region_held3 (fun w' => w'.cell? ⟨w7.heap.size, 0, none⟩ = some (.int .i64 P.1.worlds) ∧ w'.cell? ⟨w7.heap.size, 1, none⟩ = some (.slice v7 P.1.val.length c7) ∧ w'.cell? ⟨w7.heap.size, 2, none⟩ = some (.slice r7 P.1.rel.length d7)) (first | exact HKP2.out _ (Ext.refl _) | exact HKP2.out _ ((Ext.refl _).drew) | exact HKP2.out _ (by first | exact Ext.refl _ | exact (Ext.refl _).drew | assumption | (refine Ext.trans ?_ (by assumption); first | exact Ext.refl _ | exact (Ext.refl _).drew | assumption | (refine Ext.trans ?_ (by assumption); first | exact Ext.refl _ | exact (Ext.refl _).drew | assumption | (refine Ext.trans ?_ (by assumption); first | exact Ext.refl _ | exact (Ext.refl _).drew | assumption | (refine Ext.trans ?_ (by assumption); first | exact Ext.refl _ | exact (Ext.refl _).drew | assumption))))) | go_keep)
            (first | (go_at_call 17; refine (HFA.out _).mono ?_; rintro _ wff ⟨fa2, fc2, rfl, hrf, hYf⟩) | (go_at_call 8; refine (HNO.out _ _ _ (by assumption)).mono ?_; rintro _ wnn ⟨na, nc, rfl, hrn, hYn⟩) | (go_at_call 16; refine (HD2.out _ _ _ (by assumption)).mono ?_; rintro _ wdd ⟨da, dc, rfl, hrd, hYd⟩) | (go_at_call 15; refine (HB3.out _ _ _ (by first | exact Ext.refl _ | exact (Ext.refl _).drew | assumption | (refine Ext.trans ?_ (by assumption); first | exact Ext.refl _ | exact (Ext.refl _).drew | assumption | (refine Ext.trans ?_ (by assumption); first | exact Ext.refl _ | exact (Ext.refl _).drew | assumption | (refine Ext.trans ?_ (by assumption); first | exact Ext.refl _ | exact (Ext.refl _).drew | assumption | (refine Ext.trans ?_ (by assumption); first | exact Ext.refl _ | exact (Ext.refl _).drew | assumption))))) (by assumption)).mono ?_; rintro _ wvv ⟨rfl, hYv⟩) | fail)
          all_goals
            go_wp2_with fail
            go_meet
            case rel => exact ⟨rfl, rfl, Lib.hid (by first | exact Ext.refl _ | exact (Ext.refl _).drew | assumption | (refine Ext.trans ?_ (by assumption); first | exact Ext.refl _ | exact (Ext.refl _).drew | assumption | (refine Ext.trans ?_ (by assumption); first | exact Ext.refl _ | exact (Ext.refl _).drew | assumption | (refine Ext.trans ?_ (by assumption); first | exact Ext.refl _ | exact (Ext.refl _).drew | assumption | (refine Ext.trans ?_ (by assumption); first | exact Ext.refl _ | exact (Ext.refl _).drew | assumption)))))⟩
        case rest =>
          obtain ⟨rfl, rfl, HEC2⟩ := hcut
          rename World => wf
          cases y1 <;> cases y2
          all_goals
            go_wp2_with fail
            go_ret
            exact ⟨rfl, HX1.out.trans (HYd.out.trans (HEC.out.trans HEC2.out))⟩
theorem topCount_int (s v q0 q1 q2 : Int) (bs : 0 ≤ s ∧ s ≤ 255) (bv : 0 ≤ v ∧ v ≤ 255) (b0 : 0 ≤ q0 ∧ q0 ≤ 255) (b1 : 0 ≤ q1 ∧ q1 ≤ 255) (b2 : 0 ≤ q2 ∧ q2 ≤ 255) (w : World) (hT : Tab w) :
    Calls Tryd.prog 3 #[.int .u8 s, .int .u8 v, .agg #[.int .u8 q0, .int .u8 q1, .int .u8 q2]] w fun e w' => e = .returned (.bool true) ∧ Ext w w' := by
  obtain ⟨s, rfl⟩ := Int.eq_ofNat_of_zero_le bs.1
  obtain ⟨v, rfl⟩ := Int.eq_ofNat_of_zero_le bv.1
  obtain ⟨q0, rfl⟩ := Int.eq_ofNat_of_zero_le b0.1
  obtain ⟨q1, rfl⟩ := Int.eq_ofNat_of_zero_le b1.1
  obtain ⟨q2, rfl⟩ := Int.eq_ofNat_of_zero_le b2.1
  by_cases hlt : onesN (v &&& (2 ^ (2 + s % 3) - 1)) < q0 % (2 + s % 3 + 1)
  · exact topCountN_any s v q0 q1 q2 (by omega) (by omega) (by omega) (by omega) (by omega) hlt w hT
  · exact topCountY_any s v q0 q1 q2 (by omega) (by omega) (by omega) (by omega) (by omega) hlt w hT
end Wt

/- The law TopCountIsAnnounced returns true at every input, and its arguments read behind the call as they did before. the tied card: the library's table of TrailingZeros64 lies as the program's text lays it. -/
namespace Go.Proofs.YtflnfcmbalhpnaaDoor
open Go.ChangeShapes Go.WideShapes Go.ChangeAt Go.WideMaps Go.WideElems Go.RowKit

theorem own : ownKnob Tryd.prog.godebug = none := by kernel_rfl
theorem laidOut : laidOutB Tryd.prog = true := by kernel_rfl
theorem okWide_arr {P : Program} {w : World} {r : Reach} {base : Nat} {t e : TypeId} {n : Nat} {v : Value} (ht : P.underlying t = some (.array n e)) (h : Value.okWide P w r base t v) : ∃ cs, v = .agg cs := by
  unfold Value.okWide at h
  rw [ht] at h
  obtain ⟨cs, h1, _⟩ := h
  exact ⟨cs, h1⟩
set_option maxRecDepth 100000 in
theorem open_uint83 {H : Type} {enc : TypeId × Value → H} {w : World} {v : Value} {d : DataW H} {p : List MemPlace} {r : Reach} {b0 : Nat} (hval : Value.okWide Tryd.prog w r b0 22 v) (h : DataW.Trod enc Tryd.prog w 0 (fun _ => true) true 22 v d p) :
    ∃ z0 z1 z2 : Int, v = .agg #[.int .u8 z0, .int .u8 z1, .int .u8 z2] ∧ (0 ≤ z0 ∧ z0 ≤ 255) ∧ (0 ≤ z1 ∧ z1 ≤ 255) ∧ (0 ≤ z2 ∧ z2 ≤ 255) := by
  have hc0 : Tryd.prog.cellsOf 5 = 1 := by kernel_rfl
  have hc3 : Tryd.prog.cellsOf 22 = 3 := by kernel_rfl
  obtain ⟨cs, rfl⟩ := okWide_arr Tryd.underlying22 hval
  obtain ⟨fuel, h⟩ := h
  obtain ⟨xs, m, _, _, hl, hxl, hi⟩ := DataW.trod_array Tryd.underlying22 h
  rw [hc3] at hl
  match xs, hxl with
  | [y0, y1, y2], _ =>
    have u0 := hi 0 (by omega)
    have u1 := hi 1 (by omega)
    have u2 := hi 2 (by omega)
    simp only [hc0, List.getElem?_cons_zero, List.getElem?_cons_succ] at u0 u1 u2
    obtain ⟨z0, hi0, _, w0⟩ := DataW.trod_int Tryd.underlying5 u0
    obtain ⟨z1, hi1, _, w1⟩ := DataW.trod_int Tryd.underlying5 u1
    obtain ⟨z2, hi2, _, w2⟩ := DataW.trod_int Tryd.underlying5 u2
    have hcl : (Value.agg cs).cells.toList = [.int .u8 z0, .int .u8 z1, .int .u8 z2] := by
      generalize (Value.agg cs).cells.toList = L at hl hi0 hi1 hi2
      match L, hl with
      | [c0, c1, c2], _ =>
        simp at hi0 hi1 hi2
        rw [hi0, hi1, hi2]
    have e2 : cs.toList = [.int .u8 z0, .int .u8 z1, .int .u8 z2] := hcl
    have e3 : cs = #[.int .u8 z0, .int .u8 z1, .int .u8 z2] := by
      apply Array.ext'
      rw [e2]
    have b0 := w0
    have b1 := w1
    have b2 := w2
    simp [Lit.wf, IntKind.min, IntKind.max, IntKind.signed, IntKind.bits] at b0 b1 b2
    exact ⟨z0, z1, z2, by rw [e3], b0, b1, b2⟩
theorem door_met (os : Os) (args : Array Value) : laidMetH Tryd.prog [("math/bits.deBruijn64tab", Rows.laid_math_bits_deBruijn64tab)] ((World.doorLaid Tryd.prog 400 os).forCall (fun _ _ => 0) ⟨#[], args, []⟩).memory := by
  rw [MakeChecks.laidMetH_plain _ _ _ (by kernel_rfl)]
  exact laidMet_of_run' 8 (by kernel_rfl) (by kernel_rfl)
set_option maxRecDepth 100000 in
set_option maxHeartbeats 1000000 in
theorem law_lifted (os : Os) (started : os.Started) (H : Type) (enc : TypeId × Value → H) :
    ReturnsInHanded {} Tryd.checked os 3 .any (fun w args => (Rows.topCountIsAnnouncedSpec.pre enc Tryd.prog Tryd.f3 Rows.topCountIsAnnouncedRow.domain false w args ∧ laidMetH Tryd.prog [("math/bits.deBruijn64tab", Rows.laid_math_bits_deBruijn64tab)] w) ∧ sizedMet enc Tryd.prog Tryd.f3 (OpenSpec.ofChange Rows.topCountIsAnnouncedSpec) false w args)
      (Rows.topCountIsAnnouncedSpec.post enc Tryd.prog Tryd.f3 false true false false) := by
  refine returnsInHanded_of_change_and (C := Tryd.checked) (X := fun w _ => laidMetH Tryd.prog [("math/bits.deBruijn64tab", Rows.laid_math_bits_deBruijn64tab)] w) (fun _ _ _ hh h => h.of_heap hh) own started (by kernel_rfl) Tryd.func3
    (ChangeSpec.witness_shaped (enc := enc) (C := Tryd.checked) (os := os) (X := fun w _ => laidMetH Tryd.prog [("math/bits.deBruijn64tab", Rows.laid_math_bits_deBruijn64tab)] w) false (World.doorLaid Tryd.prog 400 os) #[.int .u8 0, .int .u8 0, .agg #[.int .u8 0, .int .u8 0, .int .u8 0]] 8 rfl (World.shaped_of_RefB (by kernel_rfl) (by kernel_rfl)) (by kernel_rfl) (by kernel_rfl) (by kernel_rfl) (door_met os _)) ?_
  intro W base args ds gs before hval0 hW _ hsz0 hL _
  have hT := of_laid hL
  have hval : ∀ (j : Nat) t v, Tryd.f3.params[j]? = some t → args[j]? = some v → Value.okWide Tryd.prog W .any base t v := hval0
  have hsz : (DataW.weightsEach Tryd.prog (Tryd.f3.params.toList ++ Rows.topCountIsAnnouncedSpec.plain.varTypes Tryd.prog) (ds ++ gs)).all (· ≤ reachBytes) = true := hsz0
  have hW' := hW
  obtain ⟨p, q, hA0, hV, rfl, hfz, hnd⟩ := hW
  have hA : DataW.TrodAll enc Tryd.prog W 0 (fun _ => true) true Tryd.f3.params.toList args.toList ds p := hA0
  rw [Tryd.params3] at hA hval hsz
  obtain ⟨v0, v1, v2, d0, d1, d2, p0, p1, p2, rfl, rfl, rfl, h0, h1, h2⟩ := trodAll_three hA
  obtain ⟨rfl, rfl⟩ := trodVars_none hV
  have hv0 : Rows.topCountIsAnnouncedSpec.plain.varTypes Tryd.prog = [] := rfl
  rw [hv0] at hsz
  have hz : ∀ n ∈ DataW.weightsEach Tryd.prog [5, 5, 22] [d0, d1, d2], n ≤ reachBytes := fun n hn => by
    have := List.all_eq_true.1 hsz n (by simpa using hn)
    simpa using this
  have k0 := h0
  have k1 := h1
  have k2 := h2
  obtain ⟨s, rfl, rfl, rfl, ws⟩ := open_int Tryd.underlying5 (hval 0 5 v0 rfl rfl) h0
  have bs := ws
  simp [Lit.wf, IntKind.min, IntKind.max, IntKind.signed, IntKind.bits] at bs
  obtain ⟨v, rfl, rfl, rfl, wv⟩ := open_int Tryd.underlying5 (hval 1 5 v1 rfl rfl) h1
  have bv := wv
  simp [Lit.wf, IntKind.min, IntKind.max, IntKind.signed, IntKind.bits] at bv
  obtain ⟨q0, q1, q2, rfl, bq0, bq1, bq2⟩ := open_uint83 (hval 2 22 v2 rfl rfl) h2
  have hl2 : ∀ y ∈ p2, y.block < W.heap.size := fun y hy => by simpa using hW'.lt y (by simp [hy])
  refine (Wt.topCount_int s v q0 q1 q2 bs bv bq0 bq1 bq2 W hT).mono fun e W' he => ?_
  obtain ⟨rfl, hE⟩ := he
  have bel : Below W.heap.size W W' := hE
  refine ⟨_, rfl, ⟨_, _, _, [], [] ++ ([] ++ (p2)), [], hW', trodAll_mk1 (shut_bool Tryd.underlying4 true), trodAll_mk3 (shut_int Tryd.underlying5 ws) (shut_int Tryd.underlying5 wv) (Below.trod laidOut (by kernel_rfl) (of_decide_eq_true (by kernel_rfl)) k2 bel (fun y hy => hl2 y (by simpa using hy))), rfl, bel.frame _, fun h => by cases h⟩⟩
theorem topCountIsAnnounced_holds : Rows.TopCountIsAnnouncedSaid :=
  OpenClaim.holds_of_wide 3 Tryd.f3 rfl rfl rfl rfl rfl rfl rfl ⟨rfl, rfl, rfl, rfl, rfl⟩ rfl rfl rfl rfl rfl (by kernel_rfl) Tryd.func3 (by kernel_rfl)
    (of_decide_eq_true (by kernel_rfl)) (by unfold Func.isWrapper; first | (rw [if_pos (by decide +kernel)]; kernel_rfl) | (rw [if_neg (by decide +kernel)]; exact ⟨rfl, rfl⟩))
    (fun os started H enc _ => law_lifted os started H enc)
theorem topCountIsAnnounced_card_holds : Rows.TopCountIsAnnouncedCardSaid :=
  Claim7.holds_tied_plain_at .later [] [.data] true Rows.topCountIsAnnouncedCard.stood.harness false
    topCountIsAnnounced_holds (fun _ h => by cases h) (by kernel_rfl) (fun _ h => by cases h) topCountIsAnnounced_row_tie rfl ⟨rfl, rfl⟩ (by kernel_rfl) rfl
    (fun f fn hf hfn => by
      obtain rfl : f = 3 := Option.some.inj ((show Tryd.prog.funcNamed "witting/wittingtop.TopCountIsAnnounced" = some 3 by kernel_rfl).symm.trans hf) |>.symm
      obtain rfl : fn = Tryd.f3 := (Option.some.inj (Tryd.func3.symm.trans hfn)).symm
      exact ⟨by kernel_rfl, fun j t ht => by
        rw [Tryd.params3] at ht
        have hm : t ∈ [5, 5, 22] := by simpa using Array.mem_of_getElem? ht
        have hall : ([5, 5, 22].all fun u => !Tryd.prog.wantsStandIn u) = true := by kernel_rfl
        exact (show Tryd.prog.wantsStandIn t = false by simpa using List.all_eq_true.1 hall t hm)⟩)
    (by kernel_rfl)
#print axioms topCountIsAnnounced_card_holds
end Go.Proofs.YtflnfcmbalhpnaaDoor
