/- Walks: wittingref44.law, Dining (printed by gen_s4b.py). -/
import Derived.Test.YtflnfcmbalhpnaaGreatDoorM5Ab
import Derived.Test.YtflnfcmbalhpnaaGreatDoorM5Ae
import Derived.Test.YtflnfcmbalhpnaaGreatDoorM4Az
namespace Wt
open Go Go.RowKit Go.Maps Go.Proofs Fm

def naF (k i : Nat) : List Nd := ccNot (ccAnd (ccFact (k : Int)) (ccFact (i : Int)))
def lawL (i : Nat) : List (List Nd) := (List.range i).flatMap fun i => (List.range i).map fun k => naF k i
def pairK (i k : Nat) : List (List Nd) := lawL i ++ (List.range k).map fun k => naF k i
theorem pairK_zero (i : Nat) : pairK i 0 = lawL i := by simp [pairK]
theorem pairK_step (i k : Nat) : pairK i (k + 1) = pairK i k ++ [naF k i] := by simp [pairK, List.range_succ]
theorem pairK_full (i : Nat) : pairK i i = lawL (i + 1) := by simp [pairK, lawL, List.range_succ, List.flatMap_append]
def lawR (n : Nat) : List Nd := allTo (lawL n) (lawL n).length
set_option maxRecDepth 100000 in
theorem law_tab2 : allOk (lawL 2) = true ∧ obErr 4 (lawR 2) (dinTo 2 2) = 0 ∧ obM 4 (lawR 2) (dinTo 2 2) = dinSel 2 (dinW0 2) ∧ obS 4 (lawR 2) (dinTo 2 2) = dinW0 2 := by decide +kernel
set_option maxRecDepth 100000 in
theorem law_tab3 : allOk (lawL 3) = true ∧ obErr 6 (lawR 3) (dinTo 3 3) = 0 ∧ obM 6 (lawR 3) (dinTo 3 3) = dinSel 3 (dinW0 3) ∧ obS 6 (lawR 3) (dinTo 3 3) = dinW0 3 := by decide +kernel
theorem law_ok {n : Nat} (hn : 2 ≤ n ∧ n ≤ 3) : allOk (lawL n) = true ∧ obErr ((2 * n : Nat) : Int) (lawR n) (dinTo n n) = 0 ∧ obM ((2 * n : Nat) : Int) (lawR n) (dinTo n n) = dinM n ∧ obS ((2 * n : Nat) : Int) (lawR n) (dinTo n n) = dinS n := by
  rcases two hn with rfl | rfl
  · obtain ⟨a, b, c, d⟩ := law_tab2
    exact ⟨a, b, c.trans din_tab2.2.1.symm, d.trans din_tab2.2.2.symm⟩
  · obtain ⟨a, b, c, d⟩ := law_tab3
    exact ⟨a, b, c.trans din_tab3.2.1.symm, d.trans din_tab3.2.2.symm⟩
theorem lawL_len : ∀ n : _root_.Fin 4, ∀ k : _root_.Fin 4, (pairK n.val k.val).length ≤ 20 ∧ (lawL n.val).length ≤ 20 := by decide +kernel
theorem lawL_pos {n : Nat} (hn : 2 ≤ n ∧ n ≤ 3) : 0 < (lawL n).length := by
  rcases two hn with rfl | rfl <;> decide +kernel
theorem na_parts {k i : Nat} (hk : k < 8) (hi : i < 8) : IsF (ccAnd (ccFact (k : Int)) (ccFact (i : Int))) (.bin 5 0 0 0 (.leaf 3 (k : Int) 0 0) (.leaf 3 (i : Int) 0 0)) ∧ fsize (.bin 5 0 0 0 (.leaf 3 (k : Int) 0 0) (.leaf 3 (i : Int) 0 0)) ≤ 3 := by
  have s1 : fsize (.bin 5 0 0 0 (.leaf 3 (k : Int) 0 0) (.leaf 3 (i : Int) 0 0)) ≤ 3 := by
    have := fsize_bin (a := .leaf 3 (k : Int) 0 0) (b := .leaf 3 (i : Int) 0 0) 5 0 0 0
    have := fsize_leaf 3 (k : Int) 0 0
    have := fsize_leaf 3 (i : Int) 0 0
    omega
  exact ⟨isF_bin (isF_fact hk) (isF_fact hi) (fok_and (isF_fact hk).fk (isF_fact hi).fk) (by omega) rfl, s1⟩
set_option maxRecDepth 20000 in
set_option maxHeartbeats 8000000 in
theorem r44law_any (n : Nat) (hn : 2 ≤ n ∧ n ≤ 3) (w : World) :
    Calls Tryz.prog 58 #[.int .i64 (n : Int)] w fun e w' => RetN (lawR n) e w w' := by
  have HLK : Hid (∀ i k, i ≤ 3 → k ≤ 3 → (pairK i k).length ≤ 20 ∧ (lawL i).length ≤ 20) := Lib.hid fun i k hi hk => lawL_len ⟨i, by omega⟩ ⟨k, by omega⟩
  have HPOS := Lib.hid (lawL_pos hn)
  have HOKL := Lib.hid (law_ok hn).1
  have HK0 := Lib.hid pairK_zero
  have HKS := Lib.hid pairK_step
  have HKF := Lib.hid pairK_full
  have hn3 := hn.2
  have HLR : Hid (lawR n = allTo (lawL n) (lawL n).length) := Lib.hid rfl
  have HL0 : Hid (lawL 0 = []) := Lib.hid rfl
  obtain ⟨i0, hi1, hz0, hz1, hz2⟩ := info_parts sn_infoS
  go_enter Tryz.func58, Tryz.ntmps58
  go_wp2
  go_loopw [3, 4] (fun v ix wr => ∃ i : Nat, i ≤ n ∧ ix = .int .i64 (i : Int) ∧ Hid (FKV w (lawL i) v wr)) (fun _ ix _ => n - (intOf ix).toNat)
  case atStart => exact ⟨0, Nat.zero_le _, rfl, Lib.hid ⟨_, by rw [HL0.out]; exact FK.nil w⟩⟩
  case round =>
    obtain ⟨i, hi, rfl, HFK⟩ := hrel
    by_cases hlt : i < n
    · go_wp2_with fail
      go_loopw [3, 5] (fun v ix wz => ∃ k : Nat, k ≤ i ∧ ix = .int .i64 (k : Int) ∧ Hid (FKV w (pairK i k) v wz)) (fun _ ix _ => i - (intOf ix).toNat)
      case atStart => exact ⟨0, Nat.zero_le _, rfl, by rw [HK0.out]; exact HFK⟩
      case round =>
        rename World => wz
        obtain ⟨k, hk, rfl, HFZ⟩ := hrel
        by_cases hlk : k < i
        · obtain ⟨svs, hsk⟩ := HFZ.out
          have hsz0 : w.heap.size ≤ wz.heap.size := hsk.e.size
          have hlen := (HLK.out i k (by omega) (by omega)).1
          have hsl : svs.length ≤ 20 := by rw [hsk.len]; exact hlen
          have HSL : Hid (svs.length = (pairK i k).length) := Lib.hid hsk.len
          have HPA : Hid (∀ W2, Ext wz W2 → FK w (pairK i k) svs u3 W2) := Lib.hid fun W2 e => hsk.ext' e
          have HGB : Hid (∀ q, u3.ownBlock = some q → q < wz.heap.size) := Lib.hid fun q hq => (hsk.own.lt q hq).2
          have HSTEP := Lib.hid (HKS.out i k)
          have HONE : Hid (∀ (a : Option Addr) (x y : Nat), ∀ u ∈ [Value.slice a x y], u.oneCell' = true) := Lib.hid fun a x y u hu => by
            rw [List.mem_singleton.1 hu]; rfl
          have ik := isF_fact (show k < 8 by omega)
          have ii := isF_fact (show i < 8 by omega)
          obtain ⟨ia, sa⟩ := na_parts (show k < 8 by omega) (show i < 8 by omega)
          have HF1 := Lib.hid (r5Fact_any k (by omega))
          have HF2 := Lib.hid (r5Fact_any i (by omega))
          have HAN := Lib.hid (fun W a1 c1 a2 c2 (h1 : RN W a1 (ccFact (k : Int))) (h2 : RN W a2 (ccFact (i : Int))) => r5And_any a1 c1 _ a2 c2 _ _ _ W h1 h2 ik ii (fok_and ik.fk ii.fk) (by omega))
          have HNO := Lib.hid (fun W a1 c1 (h1 : RN W a1 (ccAnd (ccFact (k : Int)) (ccFact (i : Int)))) => r5Not_any a1 c1 _ _ W h1 ia (fok_notS ia.fk) (by have := fsize_un (a := .bin 5 0 0 0 (.leaf 3 (k : Int) 0 0) (.leaf 3 (i : Int) 0 0)) 4 0 0 0; omega))
          have HNA : Hid (naF k i = fB ⟨4, 0, 0, 0, 0, 0⟩ [ccAnd (ccFact (k : Int)) (ccFact (i : Int))]) := Lib.hid rfl
          rw [← HNA.out] at HNO
          generalize naF k i = NA at *
          generalize pairK i k = L at *
          clear hsk ik ii ia sa hlen
          go_wp2_with fail
          refine (HF1.out _).mono ?_
          rintro _ w3 ⟨a3, c3, rfl, h3, -, hE3⟩
          dsimp only
          go_wp2_with fail
          refine (HF2.out _).mono ?_
          rintro _ w4 ⟨a4, c4, rfl, h4, -, hE4⟩
          dsimp only
          go_wp2_with fail
          refine (HAN.out _ _ _ _ _ (h3.ext hE4) h4).mono ?_
          rintro _ w5 ⟨a5, c5, rfl, h5, -, hE5⟩
          dsimp only
          go_wp2_with fail
          refine (HNO.out _ _ _ h5).mono ?_
          rintro _ w6 ⟨a6, c6, rfl, h6, hf6, hE6⟩
          dsimp only
          have hE36 : Ext wz w6 := hE3.trans (hE4.trans (hE5.trans hE6))
          have HST : Hid (∀ o, StayN u3.ownBlock (w6.alloc o) a6 NA) := Lib.hid fun o => (StayN.new HGB.out h6 (hf6.mono' (hE3.trans (hE4.trans hE5)).size)).ext ((Ext.refl w6).alloc o)
          have HE36 := Lib.hid hE36
          have hsz6 : w.heap.size ≤ w6.heap.size := Nat.le_trans hsz0 hE36.size
          clear h3 h4 h5 h6 hf6 hE3 hE4 hE5 hE6 hE36
          go_wp2_with (at_builtin; refine wpList_append_lies _ rfl _ _ 68 rfl w.heap.size 29 i0 _ 1 24 Tryz.underlying68 hi1 hz0 hz1 hz2 rfl (by decide) u3 svs.length svs rfl ((HPA.out _ (HE36.out.alloc _)).own) ⟨w6.heap.size, 0, none⟩ 1 1 [.slice a6 NA.length c6] rfl rfl (cell_one_new _ _ _) (HONE.out _ _ _) (by decide) (by unfold maxLen; omega) (by omega) (Nat.le_trans hsz6 (by simp)) _ rfl ?_; intro gx cap W1 hown hgrow hat hlt2; have hpush := (HPA.out _ (HE36.out.alloc _)).push (l := NA) (c := c6) (HST.out _) hown hgrow hat; have HPU := Lib.hid hpush; clear hpush hown hgrow hat)
          go_roundw
          case rel => exact ⟨k + 1, hlk, by go_num, Lib.hid ⟨_, by rw [HSTEP.out]; exact HPU.out⟩⟩
          case measure => simp [intOf]; omega
        · obtain rfl : k = i := by omega
          rw [HKF.out] at HFZ
          go_wp2_with fail
          go_roundw
          case rel => exact ⟨k + 1, hlt, by go_num, HFZ⟩
          case measure => simp [intOf]; omega
    · obtain rfl : i = n := by omega
      obtain ⟨svs, hsk⟩ := HFK.out
      obtain ⟨sa, sc, hv, hrn⟩ := hsk.rnn (by have := (HLK.out i i hn3 hn3).2; omega)
      have HSE := Lib.hid hsk.e
      have HRN := Lib.hid hrn
      have HAL := Lib.hid (r5All_any sa sc (lawL i) wr hrn HPOS.out HOKL.out)
      rw [← HLR.out] at HAL
      generalize lawL i = L at *
      generalize hlr : lawR i = LR at *
      have HLE := Lib.hid hlr
      subst hv
      clear hsk hrn hlr
      go_wp2_with (go_at_call 92; refine HAL.out.mono ?_; rintro _ w2 ⟨a2, c2, rfl, h2, hE2⟩)
      go_ret
      first | rw [HLE.out] | skip
      exact ⟨a2, c2, rfl, h2, HSE.out.trans hE2⟩
set_option maxRecDepth 20000 in
set_option maxHeartbeats 8000000 in
theorem r44dining_any (n : Nat) (hn : 2 ≤ n ∧ n ≤ 3) (w : World) :
    Calls Tryz.prog 13 #[.int .i64 (n : Int)] w fun e w' => RetR (dinM n) (natI (dinS n)) 0 e w w' := by
  have hE0 : Ext w (w.alloc (.cells #[.int .i64 0, .slice none 0 0, .slice none 0 0] 25)) := (Ext.refl w).alloc _
  have hO0 := OutAt.new w (.int .i64 0) (.slice none 0 0) (.slice none 0 0) 25
  obtain ⟨-, k1, k2, k3⟩ := law_ok hn
  obtain ⟨m, hm⟩ : ∃ m, m = 2 * n := ⟨_, rfl⟩
  have hmm : (2 : Int) * (n : Int) = (m : Int) := by omega
  rw [← hm] at k1 k2 k3
  have hb1 : btw (n : Int) 2 3 = true := btw_yes (by omega)
  have HLW := Lib.hid (r44law_any n hn)
  have HOK := Lib.hid k1
  have HDM := Lib.hid k2.symm
  have HDS := Lib.hid k3.symm
  have HE0 := Lib.hid hE0
  have HO0 := Lib.hid hO0
  have HSL := Lib.hid (dinTo_len n)
  have HSS := Lib.hid (dinTo_step n)
  have hn3 := hn.2
  have hn2 := hn.1
  have hm6 : m ≤ 6 := by omega
  obtain ⟨i0, hi1, hz2, hz1, hz3⟩ := info_parts ssn_info
  clear hE0 hO0 k1 k2 k3 hm
  generalize lawR n = LW at *
  go_enter Tryz.func13, Tryz.ntmps13
  go_wp2_with (first | (go_at_call 54; refine (r44in_any _ _ _ _).mono ?_; rintro _ _ ⟨rfl, rfl⟩) | fail)
  generalize w.alloc (.cells #[.int .i64 0, .slice none 0 0, .slice none 0 0] 25) = W0 at *
  have HLT0 : Hid (w.heap.size < W0.heap.size) := Lib.hid HO0.out.lt
  go_loopw [5, 6] (fun v i wr => ∃ k : Nat, k ≤ n ∧ i = .int .i64 (k : Int) ∧ Hid (SKV W0 (dinTo n k) v wr)) (fun _ i _ => n - (intOf i).toNat)
  case atStart => exact ⟨0, Nat.zero_le _, rfl, Lib.hid ⟨_, SK.nil W0⟩⟩
  case round =>
    obtain ⟨k, hk, rfl, HSK⟩ := hrel
    obtain ⟨svs, hsk⟩ := HSK.out
    by_cases hlt : k < n
    · have hd8 : othC n k < n := Nat.mod_lt _ (by omega)
      obtain ⟨c, hc⟩ : ∃ c, c = n + k := ⟨_, rfl⟩
      obtain ⟨d, hd⟩ : ∃ d, d = n + othC n k := ⟨_, rfl⟩
      have hcI : (n : Int) + (k : Int) = (c : Int) := by omega
      have hdI : (n : Int) + (othC n k : Int) = (d : Int) := by omega
      have hc8 : c < 8 := by omega
      have hd8' : d < 8 := by omega
      have HL0 : Hid ((ccFact (k : Int)).length = 1) := Lib.hid (len_fact ⟨k, by omega⟩)
      have HL1 : Hid ((ccFact (c : Int)).length = 1) := Lib.hid (len_fact ⟨c, by omega⟩)
      have HL2 : Hid ((ccFact (d : Int)).length = 1) := Lib.hid (len_fact ⟨d, by omega⟩)
      have HCO := Lib.hid (r44other_any n k hn hlt)
      have hsz0 : W0.heap.size ≤ wr.heap.size := hsk.e.size
      have hsl : svs.length = k := by rw [hsk.len, HSL.out]
      have HF0 := Lib.hid (r5Fact_any k (by omega))
      have HF1 := Lib.hid (r5Fact_any c hc8)
      have HF2 := Lib.hid (r5Fact_any d hd8')
      have HPA : Hid (∀ W2, Ext wr W2 → SK W0 (dinTo n k) svs u5 W2) := Lib.hid fun W2 e => hsk.ext' e
      have HGB : Hid (∀ q, u5.ownBlock = some q → q < wr.heap.size) := Lib.hid fun q hq => (hsk.own.lt q hq).2
      have HSTEP : Hid (dinTo n (k + 1) = dinTo n k ++ [[ccFact (k : Int), ccFact (c : Int), ccFact (d : Int)]]) := Lib.hid (by rw [HSS.out, hc, hd])
      have HONE : Hid (∀ (a : Option Addr) (x y : Nat), ∀ u ∈ [Value.slice a x y], u.oneCell' = true) := Lib.hid fun a x y u hu => by
        rw [List.mem_singleton.1 hu]; rfl
      have HP0 : Hid (0 < (ccFact (k : Int)).length) := Lib.hid (by rw [HL0.out]; decide)
      have HP1 : Hid (0 < (ccFact (c : Int)).length) := Lib.hid (by rw [HL1.out]; decide)
      have HP2 : Hid (0 < (ccFact (d : Int)).length) := Lib.hid (by rw [HL2.out]; decide)
      generalize ccFact (k : Int) = F0 at *
      generalize ccFact (c : Int) = F1 at *
      generalize ccFact (d : Int) = F2 at *
      generalize dinTo n k = L at *
      generalize othC n k = oc at *
      clear hsk hc hd hd8
      go_wp2_with fail
      refine (HF0.out _).mono ?_
      rintro _ w3 ⟨a3, c3, rfl, h3, hf3, hE3⟩
      dsimp only
      go_wp2_with fail
      refine (HF1.out _).mono ?_
      rintro _ w4 ⟨a4, c4, rfl, h4, hf4, hE4⟩
      dsimp only
      go_wp2_with (first | (go_at_call 56; refine (HCO.out _).mono ?_; rintro _ _ ⟨rfl, rfl⟩) | fail)
      refine (HF2.out _).mono ?_
      rintro _ w5 ⟨a5, c5, rfl, h5, hf5, hE5⟩
      dsimp only
      have hE52 : Ext wr w5 := hE3.trans (hE4.trans hE5)
      have HST := Lib.hid (fun T o => Stay.three (c0 := c3) (c1 := c4) (c2 := c5) HGB.out hE52.size (h3.ext (hE4.trans hE5)) (h4.ext hE5) h5 hf3 (hf4.mono hE3.size) (hf5.mono (hE3.trans hE4).size) HP0.out HP1.out HP2.out T o)
      have HE52 := Lib.hid hE52
      have hsz5 : W0.heap.size ≤ w5.heap.size := Nat.le_trans hsz0 hE52.size
      clear h3 hf3 hE3 h4 hf4 hE4 h5 hf5 hE5 hE52
      go_wp2_with (at_builtin; refine wpList_append_lies _ rfl _ _ 65 rfl W0.heap.size 68 i0 _ 1 24 Tryz.underlying65 hi1 hz2 hz1 hz3 rfl (by decide) u5 svs.length svs rfl ((HPA.out _ ((HE52.out.alloc _).alloc _)).own) ⟨w5.heap.size + 1, 0, none⟩ 1 1 [.slice (some ⟨w5.heap.size, 0, none⟩) 3 3] rfl rfl (cell_one_new1 _ _ _ _) (HONE.out _ _ _) (by decide) (by unfold maxLen; omega) (by omega) (Nat.le_trans hsz5 (by simp; omega)) _ rfl ?_; intro gx cap W1 hown hgrow hat hlt2; have hpush := (HPA.out _ ((HE52.out.alloc _).alloc _)).push (l := [F0, F1, F2]) (c := 3) (HST.out _ _) hown hgrow hat; have HPU := Lib.hid hpush; clear hpush hown hgrow hat)
      go_roundw
      case rel => exact ⟨k + 1, hlt, by go_num, Lib.hid ⟨_, by rw [HSTEP.out]; rw [hsl] at HPU; exact HPU.out⟩⟩
      case measure => simp [intOf]; omega
    · obtain rfl : k = n := by omega
      obtain ⟨sa, sc, hv, hrn⟩ := hsk.rnnn (by rw [HSL.out]; omega)
      have HSE := Lib.hid hsk.e
      have HRN := Lib.hid hrn
      have HB := Lib.hid (fun W fa fc (hf : RN W fa LW) (hs : RNNN W sa (dinTo k k)) => r22buildR_any (m : Int) fa fc LW sa sc (dinTo k k) W hf hs)
      rw [HOK.out, ← HDM.out, ← HDS.out] at HB
      generalize dinTo k k = L at *
      generalize hdm : dinM k = A at *
      generalize hds : dinS k = SS at *
      have HDE := Lib.hid hdm
      have HDSE := Lib.hid hds
      subst hv
      have HHO : Hid (∀ w', Ext W0 w' → OutAt w' w.heap.size (.int .i64 0) (.slice none 0 0) (.slice none 0 0)) := Lib.hid fun w' e => HO0.out.ext e
      clear hsk hrn hdm hds HOK HDM HDS
      go_wp2_with fail
      refine (HLW.out _).mono ?_
      rintro _ w4 ⟨fa, fc, rfl, hrl, hE4⟩
      dsimp only
      go_wp2_with fail
      refine (HB.out _ fa fc hrl (HRN.out.ext hE4)).mono ?_
      rintro _ w5 ⟨va, ra, la, vc, rc, lc, rfl, hk5, hE5⟩
      have HK5 := Lib.hid hk5
      have HE4 := Lib.hid (HSE.out.trans hE4)
      have HE5 := Lib.hid hE5
      have HO5 := Lib.hid (HHO.out _ (HE4.out.trans hE5))
      obtain ⟨r0, r1, r2, rf⟩ := HO5.out
      have f0 := rf 0
      have f1 := rf 1
      have f2 := rf 2
      have hl5 := HO5.out.lt
      clear hk5 hE5 rf hrl hE4
      dsimp only
      go_wp2_with fail
      have hLW : w.heap.size < w4.heap.size := Nat.lt_of_lt_of_le HLT0.out HE4.out.size
      have hst := stored3 HO5.out (HE0.out.trans (HE4.out.trans HE5.out)) (Nat.le_refl _) hLW (.int .i64 A.worlds) (.slice va A.val.length vc) (.slice ra A.rel.length rc)
      generalize ((w5.setCell ⟨w.heap.size, 0, none⟩ (.int .i64 A.worlds)).setCell ⟨w.heap.size, 1, none⟩ (.slice va A.val.length vc)).setCell ⟨w.heap.size, 2, none⟩ (.slice ra A.rel.length rc) = W2 at *
      obtain ⟨hEx, ⟨d0, d1, d2, -⟩, hag, hsw⟩ := hst
      refine bodyPost_ret (v := .tuple #[.agg #[.int .i64 A.worlds, .slice va A.val.length vc, .slice ra A.rel.length rc], .slice la (natI SS).length lc, .int .i64 0]) ?_ rfl ?_
      · rw [results_cell_two rfl]
        go_simp
      · first | rw [HDE.out, HDSE.out] | skip
        exact ⟨va, ra, la, vc, rc, lc, rfl, fun w'' ha => HK5.out w'' (agree_up hag ha (by omega) hsw), hEx⟩
end Wt

namespace Wt
open Go Go.RowKit Go.Maps Go.Proofs Fm

set_option maxRecDepth 20000 in
set_option maxHeartbeats 2000000 in
theorem sameM_any (M : Mo) (va ra vb rb : Option Addr) (vc rc vd rd : Nat) (w : World) (hm : RM w va ra M) (hn : RM w vb rb M) :
    Calls Tryz.prog 16 #[.agg #[.int .i64 M.worlds, .slice va M.val.length vc, .slice ra M.rel.length rc], .agg #[.int .i64 M.worlds, .slice vb M.val.length vd, .slice rb M.rel.length rd]] w fun e w' => e = .returned (.bool true) ∧ Ext w w' := by
  have hE0 : Ext w ((w.alloc (.cells #[.int .i64 M.worlds, .slice va M.val.length vc, .slice ra M.rel.length rc] 25)).alloc (.cells #[.int .i64 M.worlds, .slice vb M.val.length vd, .slice rb M.rel.length rd] 25)) := ((Ext.refl w).alloc _).alloc _
  have hb1 := (MoBox.new w M.worlds M.val M.rel va vc ra rc 25).ext ((Ext.refl _).alloc (.cells #[.int .i64 M.worlds, .slice vb M.val.length vd, .slice rb M.rel.length rd] 25))
  have hb2 := MoBox.new (w.alloc (.cells #[.int .i64 M.worlds, .slice va M.val.length vc, .slice ra M.rel.length rc] 25)) M.worlds M.val M.rel vb vd rb rd 25
  rw [show (w.alloc (.cells #[.int .i64 M.worlds, .slice va M.val.length vc, .slice ra M.rel.length rc] 25)).heap.size = w.heap.size + 1 by simp] at hb2
  have hm0 := hm.ext hE0
  have hn0 := hn.ext hE0
  have HE := Lib.hid hE0
  have hww : (M.worlds != M.worlds) = false := by simp
  have hrl := hm.rel.len
  clear hm hn hE0
  go_enter Tryz.func16, Tryz.ntmps16
  go_wp2_with fail
  generalize (w.alloc (.cells #[.int .i64 M.worlds, .slice va M.val.length vc, .slice ra M.rel.length rc] 25)).alloc (.cells #[.int .i64 M.worlds, .slice vb M.val.length vd, .slice rb M.rel.length rd] 25) = W0 at *
  obtain ⟨m0, m1, m2⟩ := hb1
  obtain ⟨n0, n1, n2⟩ := hb2
  dsimp only at m0 m1 m2 n0 n1 n2
  refine (r13Same_any va vb vc vd M.val M.val _ hm0.val hn0.val).mono ?_
  rintro _ w1 ⟨rfl, hQ⟩
  rw [decide_eq_true (rfl : M.val = M.val)]
  dsimp only
  have hX1 := hQ.ext
  have p0 := hX1.cell m0
  have p1 := hX1.cell m1
  have p2 := hX1.cell m2
  have q0 := hX1.cell n0
  have q1 := hX1.cell n1
  have q2 := hX1.cell n2
  have hm1 := Lib.hid (hm0.ext hX1)
  have hn1 := Lib.hid (hn0.ext hX1)
  have HX1 := Lib.hid hX1
  clear m0 m1 m2 n0 n1 n2 hQ hX1 hm0 hn0
  go_wp2_with fail
  go_loopw [5] (fun i wr => ∃ k : Nat, k ≤ M.rel.length ∧ i = .int .i64 (k : Int) ∧ Ext w1 wr) (fun i _ => M.rel.length - (intOf i).toNat)
  case atStart => exact ⟨0, Nat.zero_le _, rfl, Ext.refl _⟩
  case round =>
    obtain ⟨k, hk, rfl, hE⟩ := hrel
    have m0 := hE.cell p0
    have m1 := hE.cell p1
    have m2 := hE.cell p2
    have n0 := hE.cell q0
    have n1 := hE.cell q1
    have n2 := hE.cell q2
    by_cases hlt : k < M.rel.length
    · obtain ⟨b1, o1, a1, c1, rfl, hb1, hc1, hu1⟩ := (hm1.out.rel.ext hE).get hlt
      obtain ⟨b2, o2, a2, c2, rfl, hb2, hc2, hu2⟩ := (hn1.out.rel.ext hE).get hlt
      have hul := hu1.len
      have HD : Hid (∀ w', Ext wr w' → Calls Tryz.prog 61 #[.slice a1 (nth M.rel k).length c1, .slice a2 (nth M.rel k).length c2] w' fun e w'' => e = .returned (.bool true) ∧ Qu w' w'') := Lib.hid fun w' e => by
        have := r13Same_any a1 a2 c1 c2 (nth M.rel k) (nth M.rel k) w' (hu1.ext e) (hu2.ext e)
        rw [decide_eq_true (rfl : nth M.rel k = nth M.rel k)] at this
        exact this
      have HEr := Lib.hid hE
      clear hu1 hu2 hE p0 p1 p2 q0 q1 q2
      go_wp2_with fail
      go_quiet ((go_at_call 61; exact Calls.quiet_of (HD.out _ ((Ext.refl _).drewN _))))
      go_wp2
      go_roundw
      case rel => exact ⟨k + 1, hlt, by go_num, HEr.out.drewN _⟩
      case measure => simp [intOf]; omega
    · have HEr := Lib.hid hE
      clear hE p0 p1 p2 q0 q1 q2
      go_wp2
      go_ret
      exact ⟨rfl, HE.out.trans (HX1.out.trans HEr.out)⟩
end Wt

namespace Wt
open Go Go.RowKit Go.Maps Go.Proofs Fm

set_option maxRecDepth 20000 in
set_option maxHeartbeats 2000000 in
theorem diningNo_any (n : Int) (hb : btw n 2 3 = false) (w : World) :
    Calls Tryz.prog 12 #[.int .i64 n] w fun e w' => RetR ⟨0, [], []⟩ [] 2 e w w' := by
  have hE0 : Ext w ((w.alloc (.cells #[.int .i64 n] 3)).alloc (.cells #[.int .i64 0, .slice none 0 0, .slice none 0 0] 25)) := ((Ext.refl w).alloc _).alloc _
  have hO0 := OutAt.new1 w (.cells #[.int .i64 n] 3) (.int .i64 0) (.slice none 0 0) (.slice none 0 0) 25
  have HE0 := Lib.hid hE0
  have HO0 := Lib.hid hO0
  clear hE0 hO0
  go_enter Tryz.func12, Tryz.ntmps12
  go_wp2_with (first | (go_at_call 48; refine (between_any _ _ _ _).mono ?_; rintro _ _ ⟨rfl, rfl⟩) | fail)
  obtain ⟨d0, d1, d2, -⟩ := HO0.out
  refine bodyPost_ret (v := .tuple #[.agg #[.int .i64 0, .slice none 0 0, .slice none 0 0], .slice none 0 0, .int .i64 2]) ?_ rfl ?_
  · rw [results_cell_two rfl]
    go_simp
  · exact RetR.zero _ HE0.out
theorem btw_true {x lo hi : Int} (h : btw x lo hi = true) : lo ≤ x ∧ x ≤ hi := by simpa [btw] using h
end Wt
