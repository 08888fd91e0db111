/- Walks: coins, Says, Dining of package secrets (printed by gen_seh.py). -/
import Derived.Test.YtflnfcmbalhpnaaGreatDoorM4Bm
namespace Wt
open Go Go.RowKit Go.Maps Go.Proofs Fm

def othC (n i : Nat) : Nat := (i + n - 1) % n
set_option maxHeartbeats 1000000 in
theorem coins_any (n i : Nat) (hn : 2 ≤ n ∧ n ≤ 3) (hi : i < n) (w : World) :
    Calls Tryz.prog 52 #[.int .i64 (n : Int), .int .i64 (i : Int)] w fun e w' => e = .returned (.tuple #[.int .i64 ((n + i : Nat) : Int), .int .i64 ((n + othC n i : Nat) : Int)]) ∧ Ext w w' := by
  rcases (show (n = 2 ∧ i = 0) ∨ (n = 2 ∧ i = 1) ∨ (n = 3 ∧ i = 0) ∨ (n = 3 ∧ i = 1) ∨ (n = 3 ∧ i = 2) by omega) with ⟨rfl, rfl⟩ | ⟨rfl, rfl⟩ | ⟨rfl, rfl⟩ | ⟨rfl, rfl⟩ | ⟨rfl, rfl⟩
  all_goals
    go_enter Tryz.func52, Tryz.ntmps52
    go_wp2_with fail
    go_quiet (fail)
    go_wp2
    go_ret2
    exact ⟨rfl, (Ext.refl w).drewN _⟩
theorem say_eq (n a : Nat) : sayF n a = ccIff (ccIff (ccFact ((n + a : Nat) : Int)) (ccFact ((n + othC n a : Nat) : Int))) (ccFact (a : Int)) := rfl
set_option maxHeartbeats 2000000 in
theorem says_any (n a : Nat) (hn : 2 ≤ n ∧ n ≤ 3) (ha : a < n) (w : World) :
    Calls Tryz.prog 14 #[.int .i64 (n : Int), .int .i64 (a : Int)] w fun e w' => RetNe (sayF n a) 0 e w w' := by
  have hb1 : btw (n : Int) 2 3 = true := btw_yes (by omega)
  have hb2 : btw (a : Int) 0 ((n : Int) - 1) = true := btw_yes (by omega)
  have HC := Lib.hid (coins_any n a hn ha)
  have HS := Lib.hid (say_eq n a)
  generalize n + a = c at *
  generalize n + othC n a = d at *
  generalize hsf : sayF n a = SF at *
  have HSF := Lib.hid hsf
  clear hsf
  go_enter Tryz.func14, Tryz.ntmps14
  go_wp2_with (first | (go_at_call 48; refine (between_any _ _ _ _).mono ?_; rintro _ _ ⟨rfl, rfl⟩) | (go_at_call 52; refine (HC.out _).mono ?_; rintro _ w1 ⟨rfl, hE1⟩) | fail)
  refine (cFact_any (c : Int) _).mono ?_
  rintro _ w2 ⟨a2, c2, rfl, h2, hE2⟩
  dsimp only
  go_wp2_with fail
  refine (cFact_any (d : Int) _).mono ?_
  rintro _ w3 ⟨a3, c3, rfl, h3, hE3⟩
  dsimp only
  go_wp2_with fail
  refine (cIff_any _ _ _ _ _ _ _ (h2.ext hE3) h3).mono ?_
  rintro _ w4 ⟨a4, c4, rfl, h4, hE4⟩
  dsimp only
  go_wp2_with fail
  refine (cFact_any (a : Int) _).mono ?_
  rintro _ w5 ⟨a5, c5, rfl, h5, hE5⟩
  dsimp only
  go_wp2_with fail
  refine (cIff_any _ _ _ _ _ _ _ (h4.ext hE5) h5).mono ?_
  rintro _ w6 ⟨a6, c6, rfl, h6, hE6⟩
  dsimp only
  go_wp2_with fail
  go_ret2
  first | rw [HSF.out, HS.out] | rw [HS.out]
  exact ⟨a6, c6, rfl, h6, hE1.trans (hE2.trans (hE3.trans (hE4.trans (hE5.trans hE6))))⟩
theorem cf_dining1 (args : Array Value) (W : World) : (callFunc 50 args).run Tryz.prog W = .ok (.enter 50 args) W := by
  simp [callFunc, Tryz.func50, Tryz.f50]
set_option maxHeartbeats 1000000 in
theorem dining1_any (n v b : Nat) (hn : n ≤ 3) (hv : v < 64) (w : World) (h1 : w.cell? ⟨b, 0, none⟩ = some (.int .i64 (n : Int))) :
    Calls Tryz.prog 50 #[.int .i64 (v : Int), .pointer (some ⟨b, 0, none⟩)] w fun e w' => e = .returned (.bool (decide (onesN (v &&& (2 ^ n - 1)) ≤ 1))) ∧ Qu w w' := by
  have h63 : n < 63 := by omega
  obtain ⟨hq1, hq2⟩ := pw_int (show n ≤ 4 by omega)
  have hp := pow16 (show n ≤ 4 by omega)
  have hpp := Nat.two_pow_pos n
  have hlt : v &&& (2 ^ n - 1) < 16 := Nat.lt_of_le_of_lt Nat.and_le_right (by omega)
  have hand : bits .and .i64 (v : Int) (p2 n - 1) = ((v &&& (2 ^ n - 1) : Nat) : Int) := by
    rw [← and_nat v (2 ^ n - 1) (by omega) (by omega)]
    congr 1; unfold p2; omega
  have H := Lib.hid (count_any _ hlt)
  have hl := World.block_lt_of_cell? _ _ h1
  generalize v &&& (2 ^ n - 1) = u at *
  generalize onesN u = o at *
  have hq : decide ((o : Int) ≤ 1) = decide (o ≤ 1) := by
    rw [Bool.eq_iff_iff]; simp; omega
  clear hp hpp hlt
  go_enter Tryz.func50, Tryz.ntmps50
  go_wp2_with (go_at_call 51; refine (H.out _).mono ?_; rintro _ _ ⟨rfl, rfl⟩)
  go_ret
  exact ⟨rfl, Qu.refl _⟩
def dinTo (n k : Nat) : List (List (List Nd)) := (List.range k).map fun i : Nat => [ccFact (i : Int), ccFact ((n + i : Nat) : Int), ccFact ((n + othC n i : Nat) : Int)]
theorem dinTo_len (n k : Nat) : (dinTo n k).length = k := by simp [dinTo]
theorem dinTo_step (n k : Nat) : dinTo n (k + 1) = dinTo n k ++ [[ccFact (k : Int), ccFact ((n + k : Nat) : Int), ccFact ((n + othC n k : Nat) : Int)]] := by simp [dinTo, List.range_succ]
theorem Stay.three {g : Option Nat} {nw : Nat} {w4 : World} {a0 a1 a2 : Option Addr} {c0 c1 c2 : Nat} {F0 F1 F2 : List Nd} (hg : ∀ q, g = some q → q < nw) (hb : nw ≤ w4.heap.size) (h0 : RN w4 a0 F0) (h1 : RN w4 a1 F1) (h2 : RN w4 a2 F2) (f0 : Fresh a0 nw) (f1 : Fresh a1 nw) (f2 : Fresh a2 nw) (p0 : 0 < F0.length) (p1 : 0 < F1.length) (p2 : 0 < F2.length) (T : Nat) (o : Obj) :
    Stay g ((w4.alloc (.cells #[.slice a0 F0.length c0, .slice a1 F1.length c1, .slice a2 F2.length c2] T)).alloc o) (some ⟨w4.heap.size, 0, none⟩) [F0, F1, F2] := by
  have hE := ((Ext.refl w4).alloc (.cells #[.slice a0 F0.length c0, .slice a1 F1.length c1, .slice a2 F2.length c2] T)).alloc o
  refine Stay.list hg hb (by simp; omega) (by simp) fun k hk => ?_
  rcases (show k = 0 ∨ k = 1 ∨ k = 2 by simp at hk; omega) with rfl | rfl | rfl
  · exact ⟨a0, c0, by simp [nth], h0.ext hE, f0, p0⟩
  · exact ⟨a1, c1, by simp [nth], h1.ext hE, f1, p1⟩
  · exact ⟨a2, c2, by simp [nth], h2.ext hE, f2, p2⟩
theorem Fresh.mono {a : Option Addr} {n m : Nat} (h : Fresh a n) (hm : m ≤ n) : Fresh a m := fun b off e => Nat.le_trans hm (h b off e)
set_option maxRecDepth 20000 in
set_option maxHeartbeats 4000000 in
theorem dining_any (n : Nat) (hn : 2 ≤ n ∧ n ≤ 3) (hob : obErr ((2 * n : Nat) : Int) (dinLaw n) (dinSeen n) = 0) (w : World) :
    Calls Tryz.prog 12 #[.int .i64 (n : Int)] w fun e w' => RetR (dinM n) (natI (dinS n)) 0 e w w' := by
  have hE0 : Ext w ((w.alloc (.cells #[.int .i64 (n : Int)] 3)).alloc (.cells #[.int .i64 0, .slice none 0 0, .slice none 0 0] 25)) := ((Ext.refl w).alloc _).alloc _
  have hO0 := OutAt.new1 w (.cells #[.int .i64 (n : Int)] 3) (.int .i64 0) (.slice none 0 0) (.slice none 0 0) 25
  have hz0 : ((w.alloc (.cells #[.int .i64 (n : Int)] 3)).alloc (.cells #[.int .i64 0, .slice none 0 0, .slice none 0 0] 25)).cell? ⟨w.heap.size, 0, none⟩ = some (.int .i64 (n : Int)) := by simp
  obtain ⟨m, hm⟩ : ∃ m, m = 2 * n := ⟨_, rfl⟩
  have hmm : (2 : Int) * (n : Int) = (m : Int) := by omega
  have hb1 : btw (n : Int) 2 3 = true := btw_yes (by omega)
  have HLAW : Hid (dinLaw n = amongF m fun v => decide (onesN (v &&& (2 ^ n - 1)) ≤ 1)) := Lib.hid (by rw [hm]; rfl)
  have HAM := Lib.hid (fun W (hW : W.cell? ⟨w.heap.size, 0, none⟩ = some (.int .i64 (n : Int))) => among_any 50 (.pointer (some ⟨w.heap.size, 0, none⟩)) (fun v => decide (onesN (v &&& (2 ^ n - 1)) ≤ 1)) m (by omega) W cf_dining1 fun W' v hE hv => dining1_any n v w.heap.size hn.2 (by have := pow6 (show m ≤ 6 by omega); omega) W' (hE.cell hW))
  rw [← HLAW.out] at HAM
  have HOK : Hid (obErr (m : Int) (dinLaw n) (dinTo n n) = 0) := Lib.hid (by rw [hm]; exact hob)
  have HDM : Hid (dinM n = obM (m : Int) (dinLaw n) (dinTo n n)) := Lib.hid (by rw [hm]; rfl)
  have HDS : Hid (dinS n = obS (m : Int) (dinLaw n) (dinTo n n)) := Lib.hid (by rw [hm]; rfl)
  have HE0 := Lib.hid hE0
  have HO0 := Lib.hid hO0
  have HZ0 := Lib.hid hz0
  have HSL := Lib.hid (dinTo_len n)
  have HSS := Lib.hid (dinTo_step n)
  have hn3 := hn.2
  have hn2 := hn.1
  obtain ⟨i0, hi1, hz2, hz1, hz3⟩ := info_parts ssn_info
  clear hE0 hO0 hz0 hob HLAW hm
  generalize dinLaw n = LW at *
  go_enter Tryz.func12, Tryz.ntmps12
  go_wp2_with (first | (go_at_call 48; refine (between_any _ _ _ _).mono ?_; rintro _ _ ⟨rfl, rfl⟩) | fail)
  generalize (w.alloc (.cells #[.int .i64 (n : Int)] 3)).alloc (.cells #[.int .i64 0, .slice none 0 0, .slice none 0 0] 25) = W0 at *
  refine (HAM.out _ HZ0.out).mono ?_
  rintro _ w1 ⟨fa, fc, rfl, hrl, hE1⟩
  have HRL := Lib.hid hrl
  have HE1 := Lib.hid hE1
  have HLT0 : Hid (w.heap.size + 1 < W0.heap.size) := Lib.hid HO0.out.lt
  have z1 := HE1.out.cell HZ0.out
  have zl := World.block_lt_of_cell? _ _ z1
  clear hrl hE1
  dsimp only
  go_wp2_with fail
  clear z1 zl
  go_loopw [6, 19] (fun v i wr => ∃ k : Nat, k ≤ n ∧ i = .int .i64 (k : Int) ∧ Hid (SKV w1 (dinTo n k) v wr)) (fun _ i _ => n - (intOf i).toNat)
  case atStart => exact ⟨0, Nat.zero_le _, rfl, Lib.hid ⟨_, SK.nil w1⟩⟩
  case round =>
    obtain ⟨k, hk, rfl, HSK⟩ := hrel
    obtain ⟨svs, hsk⟩ := HSK.out
    have z1 := (HE1.out.trans hsk.e).cell HZ0.out
    have zl := World.block_lt_of_cell? _ _ z1
    by_cases hlt : k < n
    · obtain ⟨c, hc⟩ : ∃ c, c = n + k := ⟨_, rfl⟩
      obtain ⟨d, hd⟩ : ∃ d, d = n + othC n k := ⟨_, rfl⟩
      have hd8 : othC n k < n := Nat.mod_lt _ (by omega)
      have HL0 : Hid ((ccFact (k : Int)).length = 1) := Lib.hid (len_fact ⟨k, by omega⟩)
      have HL1 : Hid ((ccFact (c : Int)).length = 1) := Lib.hid (len_fact ⟨c, by omega⟩)
      have HL2 : Hid ((ccFact (d : Int)).length = 1) := Lib.hid (len_fact ⟨d, by omega⟩)
      have HCO := Lib.hid (coins_any n k hn hlt)
      have hsz0 : w1.heap.size ≤ wr.heap.size := hsk.e.size
      have hsl : svs.length = k := by rw [hsk.len, HSL.out]
      have HF0 : Hid (∀ W, Calls Tryz.prog 39 #[.int .i64 (k : Int)] W fun e w' => RetNF (ccFact (k : Int)) e W w') := Lib.hid fun W => cFact_fresh (k : Int) W
      have HF1 : Hid (∀ W, Calls Tryz.prog 39 #[.int .i64 (c : Int)] W fun e w' => RetNF (ccFact (c : Int)) e W w') := Lib.hid fun W => cFact_fresh (c : Int) W
      have HF2 : Hid (∀ W, Calls Tryz.prog 39 #[.int .i64 (d : Int)] W fun e w' => RetNF (ccFact (d : Int)) e W w') := Lib.hid fun W => cFact_fresh (d : Int) W
      have HPA : Hid (∀ W2, Ext wr W2 → SK w1 (dinTo n k) svs u6 W2) := Lib.hid fun W2 e => hsk.ext' e
      have HGB : Hid (∀ q, u6.ownBlock = some q → q < wr.heap.size) := Lib.hid fun q hq => (hsk.own.lt q hq).2
      have HSTEP : Hid (dinTo n (k + 1) = dinTo n k ++ [[ccFact (k : Int), ccFact (c : Int), ccFact (d : Int)]]) := Lib.hid (by rw [HSS.out, hc, hd])
      have HONE : Hid (∀ (a : Option Addr) (x y : Nat), ∀ u ∈ [Value.slice a x y], u.oneCell' = true) := Lib.hid fun a x y u hu => by
        rw [List.mem_singleton.1 hu]; rfl
      rw [← hc, ← hd] at HCO
      have HP0 : Hid (0 < (ccFact (k : Int)).length) := Lib.hid (by rw [HL0.out]; decide)
      have HP1 : Hid (0 < (ccFact (c : Int)).length) := Lib.hid (by rw [HL1.out]; decide)
      have HP2 : Hid (0 < (ccFact (d : Int)).length) := Lib.hid (by rw [HL2.out]; decide)
      generalize ccFact (k : Int) = F0 at *
      generalize ccFact (c : Int) = F1 at *
      generalize ccFact (d : Int) = F2 at *
      generalize dinTo n k = L at *
      clear hsk hc hd hd8
      go_wp2_with (first | (go_at_call 52; refine (HCO.out _).mono ?_; rintro _ w2 ⟨rfl, hE2⟩) | fail)
      clear z1 zl
      refine (HF0.out _).mono ?_
      rintro _ w3 ⟨a3, c3, rfl, h3, hf3, hE3⟩
      dsimp only
      go_wp2_with fail
      refine (HF1.out _).mono ?_
      rintro _ w4 ⟨a4, c4, rfl, h4, hf4, hE4⟩
      dsimp only
      go_wp2_with fail
      refine (HF2.out _).mono ?_
      rintro _ w5 ⟨a5, c5, rfl, h5, hf5, hE5⟩
      dsimp only
      have hE52 : Ext wr w5 := hE2.trans (hE3.trans (hE4.trans hE5))
      have HST := Lib.hid (fun T o => Stay.three (c0 := c3) (c1 := c4) (c2 := c5) HGB.out hE52.size (h3.ext (hE4.trans hE5)) (h4.ext hE5) h5 (hf3.mono hE2.size) (hf4.mono (hE2.trans hE3).size) (hf5.mono (hE2.trans (hE3.trans hE4)).size) HP0.out HP1.out HP2.out T o)
      have HE52 := Lib.hid hE52
      have hsz5 : w1.heap.size ≤ w5.heap.size := Nat.le_trans hsz0 hE52.size
      clear h3 hf3 hE3 h4 hf4 hE4 h5 hf5 hE5 hE2 hE52
      go_wp2_with (at_builtin; refine wpList_append_lies _ rfl _ _ 65 rfl w1.heap.size 68 i0 _ 1 24 Tryz.underlying65 hi1 hz2 hz1 hz3 rfl (by decide) u6 svs.length svs rfl ((HPA.out _ ((HE52.out.alloc _).alloc _)).own) ⟨w5.heap.size + 1, 0, none⟩ 1 1 [.slice (some ⟨w5.heap.size, 0, none⟩) 3 3] rfl rfl (cell_one_new1 _ _ _ _) (HONE.out _ _ _) (by decide) (by unfold maxLen; omega) (by omega) (Nat.le_trans hsz5 (by simp; omega)) _ rfl ?_; intro gx cap W1 hown hgrow hat hlt2; have hpush := (HPA.out _ ((HE52.out.alloc _).alloc _)).push (l := [F0, F1, F2]) (c := 3) (HST.out _ _) hown hgrow hat; have HPU := Lib.hid hpush; clear hpush hown hgrow hat)
      go_roundw
      case rel => exact ⟨k + 1, hlt, by go_num, Lib.hid ⟨_, by rw [HSTEP.out]; rw [hsl] at HPU; exact HPU.out⟩⟩
      case measure => simp [intOf]; omega
    · obtain rfl : k = n := by omega
      obtain ⟨sa, sc, hv, hrn⟩ := hsk.rnnn (by rw [HSL.out]; omega)
      have HSE := Lib.hid hsk.e
      have HRN := Lib.hid hrn
      have HB := Lib.hid (fun W fa fc (hf : RN W fa LW) (hs : RNNN W sa (dinTo k k)) => obuildR_any (m : Int) fa fc LW sa sc (dinTo k k) W hf hs)
      rw [HOK.out, ← HDM.out, ← HDS.out] at HB
      generalize dinTo k k = L at *
      generalize hdm : dinM k = A at *
      generalize hds : dinS k = SS at *
      have HDE := Lib.hid hdm
      have HDSE := Lib.hid hds
      subst hv
      have HHO : Hid (∀ w', Ext W0 w' → OutAt w' (w.heap.size + 1) (.int .i64 0) (.slice none 0 0) (.slice none 0 0)) := Lib.hid fun w' e => HO0.out.ext e
      clear hsk hrn hdm hds HOK HDM HDS
      go_wp2_with fail
      clear z1 zl
      refine (HB.out _ fa fc (HRL.out.ext HSE.out) HRN.out).mono ?_
      rintro _ w5 ⟨va, ra, la, vc, rc, lc, rfl, hk5, hE5⟩
      have HK5 := Lib.hid hk5
      have HE5 := Lib.hid hE5
      have HO5 := Lib.hid (HHO.out _ (HE1.out.trans (HSE.out.trans hE5)))
      obtain ⟨r0, r1, r2, rf⟩ := HO5.out
      have f0 := rf 0
      have f1 := rf 1
      have f2 := rf 2
      have hl5 := HO5.out.lt
      clear hk5 hE5 rf
      dsimp only
      go_wp2_with fail
      have hLW : w.heap.size + 1 < wr.heap.size := Nat.lt_of_lt_of_le HLT0.out (HE1.out.trans HSE.out).size
      have hst := stored3 HO5.out (HE0.out.trans (HE1.out.trans (HSE.out.trans HE5.out))) (by omega) hLW (.int .i64 A.worlds) (.slice va A.val.length vc) (.slice ra A.rel.length rc)
      generalize ((w5.setCell ⟨w.heap.size + 1, 0, none⟩ (.int .i64 A.worlds)).setCell ⟨w.heap.size + 1, 1, none⟩ (.slice va A.val.length vc)).setCell ⟨w.heap.size + 1, 2, none⟩ (.slice ra A.rel.length rc) = W2 at *
      obtain ⟨hEx, ⟨d0, d1, d2, -⟩, hag, hsw⟩ := hst
      refine bodyPost_ret (v := .tuple #[.agg #[.int .i64 A.worlds, .slice va A.val.length vc, .slice ra A.rel.length rc], .slice la (natI SS).length lc, .int .i64 0]) ?_ rfl ?_
      · rw [results_cell_two rfl]
        go_simp
      · first | rw [HDE.out, HDSE.out] | skip
        exact ⟨va, ra, la, vc, rc, lc, rfl, fun w'' ha => HK5.out w'' (agree_up hag ha (by omega) hsw), hEx⟩
end Wt
