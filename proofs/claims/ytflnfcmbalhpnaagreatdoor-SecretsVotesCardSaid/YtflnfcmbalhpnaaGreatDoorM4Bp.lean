/- Walks: spoken, Spoken, Traces of package secrets (printed by gen_sei.py). -/
import Derived.Test.YtflnfcmbalhpnaaGreatDoorM4Bn
import Derived.Test.YtflnfcmbalhpnaaGreatDoorM4Bo
import Derived.Test.YtflnfcmbalhpnaaGreatDoorM4Bc
import Derived.ProofKit
import Derived.Deep.Matrix
import Derived.Deep.Strs
import Derived.Deep.Slices
import Derived.SizedLaws
import Derived.Test.YtflnfcmbalhpnaaGreatDoorRows
import Derived.Test.YtflnfcmbalhpnaaGreatDoorM4Aj
import Derived.LaidMore
import Derived.OpenShut
namespace Wt
open Go Go.RowKit Go.Maps Go.Proofs Fm

def slN (c n : Nat) : Int := ((c * 2 ^ n : Nat) : Int)
theorem shift_shl_nat (yk : IntKind) (c n : Nat) (h : c * 2 ^ n < 4611686018427387904) (h63 : n < 63) : Op.shift .shl .i64 (c : Int) yk (n : Int) = pure (.int .i64 (slN c n)) := by
  have h1 : ¬ ((n : Int) < 0) := by omega
  have hb : IntKind.i64.bits = 64 := rfl
  simp only [Op.shift, h1, if_false, Int.toNat_natCast, hb]
  have e : (c : Int) * (2 : Int) ^ min n 64 = ((c * 2 ^ n : Nat) : Int) := by rw [Nat.min_eq_left (by omega)]; simp
  rw [e]
  unfold slN
  have e2 : IntKind.i64.wrap ((c * 2 ^ n : Nat) : Int) = ((c * 2 ^ n : Nat) : Int) := IntWalk.i64_in _ (by omega)
  rw [e2]
attribute [go_sem ↓] shift_shl_nat
structure SpS (b : Nat) (w : World) (P : Mo × Int) (wr : World) : Prop where
  lo : w.heap.size + 1 ≤ b
  e : Ext w wr
  box : ∃ va ra vc rc, PAt wr b (.int .i64 P.1.worlds) (.slice va P.1.val.length vc) (.slice ra P.1.rel.length rc) (.int .i64 P.2) ∧ ∀ w'', AgreeX (w.heap.size + 1) b wr w'' → RM w'' va ra P.1
  res : PAt wr w.heap.size (.int .i64 0) (.slice none 0 0) (.slice none 0 0) (.int .i64 0)
theorem st_or {n p c : Nat} (hn : n ≤ 3) (h1 : 1 ≤ p) (hp : p ≤ n) (hc : c < 2 ^ n) : bits .or .i64 (slN c n) (p2 (p - 1)) = ((dinSt n p c : Nat) : Int) := by
  have h8 : 2 ^ n ≤ 8 := by rcases (show n = 0 ∨ n = 1 ∨ n = 2 ∨ n = 3 by omega) with rfl | rfl | rfl | rfl <;> decide
  have hlt : 2 ^ (p - 1) < 2 ^ n := Nat.pow_lt_pow_right (by omega) (by omega)
  have hcn : c * 2 ^ n < 64 := by
    have := Nat.mul_le_mul (show c ≤ 7 by omega) h8
    omega
  unfold slN p2 dinSt
  rw [or_nat _ _ (by omega) (by omega), if_neg (by omega), Nat.mul_comm c, Nat.two_pow_add_eq_or_of_lt hlt]
theorem st_zero (n c : Nat) : slN c n = ((dinSt n 0 c : Nat) : Int) := by simp [slN, dinSt]
set_option maxRecDepth 20000 in
set_option maxHeartbeats 4000000 in
theorem spoken0_any (n c : Nat) (hn : 2 ≤ n ∧ n ≤ 3) (hc : c < 2 ^ n) (w : World) (hT : Tab w) :
    Calls Tryz.prog 63 #[.int .i64 (n : Int), .int .i64 (-1), .int .i64 (c : Int)] w fun e w' => RetPB (spokeTo n 0 c n) e w w' := by
  have h8 : 2 ^ n ≤ 8 := by rcases (show n = 2 ∨ n = 3 by omega) with rfl | rfl <;> decide
  have h63 : n < 63 := by omega
  obtain ⟨hq1, hq2⟩ := pw_int (show n ≤ 4 by omega)
  obtain ⟨s, hs⟩ : ∃ s, s = dinSt n 0 c := ⟨_, rfl⟩
  have HST : Hid (slN c n = (s : Int)) := Lib.hid (by rw [hs]; exact st_zero n c)
  have hst := HST.out
  have hcn : c * 2 ^ n < 4611686018427387904 := by
    have := Nat.mul_le_mul (show c ≤ 7 by omega) h8
    omega
  have hb1 : btw (-1) (-1) ((n : Int) - 1) = true := btw_yes (by omega)
  have hb2 : btw (c : Int) 0 (p2 n - 1) = true := btw_yes (by unfold p2; omega)
  have HDI := Lib.hid (dining_any n hn (din_ok hn))
  have HSAY := Lib.hid (fun k hk W => says_any n k hn hk W)
  have HP0 : Hid (spokeTo n 0 c 0 = (dinM n, posI (dinS n) (s : Int))) := Lib.hid (by rw [hs]; rfl)
  have HPS : Hid (∀ k, spokeTo n 0 c (k + 1) = annW (spokeTo n 0 c k) (sayF n k)) := Lib.hid fun k => rfl
  have HOK : Hid (∀ k, k ≤ n → okP n (2 * n) (spokeTo n 0 c k) = true ∧ (spokeTo n 0 c k).1.worlds < 64) := Lib.hid fun k hk => ⟨sp_ok hn (Nat.zero_le _) hc hk, sp_lt hn (Nat.zero_le _) hc hk⟩
  generalize spokeTo n 0 c = SP at *
  have hE0 : Ext w (w.alloc (.cells #[.int .i64 0, .slice none 0 0, .slice none 0 0, .int .i64 0] 76)) := (Ext.refl w).alloc _
  have HR0 := Lib.hid (PAt.new w (.int .i64 0) (.slice none 0 0) (.slice none 0 0) (.int .i64 0) 76)
  have HS0 : Hid ((w.alloc (.cells #[.int .i64 0, .slice none 0 0, .slice none 0 0, .int .i64 0] 76)).heap.size = w.heap.size + 1) := Lib.hid (by simp)
  have HE0 := Lib.hid hE0
  have HT := Lib.hid hT
  have HN := Lib.hid hn
  generalize dinM n = A at *
  generalize dinS n = SS at *
  clear hE0 hT hc h8 hs
  go_enter Tryz.func63, Tryz.ntmps63
  go_wp2_with fail
  generalize w.alloc (.cells #[.int .i64 0, .slice none 0 0, .slice none 0 0, .int .i64 0] 76) = W0 at *
  refine (HDI.out _).mono ?_
  rintro _ w1 ⟨va, ra, la, vc, rc, lc, rfl, hk1, hE1⟩
  have HK1 := Lib.hid hk1
  have HE1 := Lib.hid hE1
  have HA1 : Hid (Ext w1 (w1.alloc (.cells #[.int .i64 A.worlds, .slice va A.val.length vc, .slice ra A.rel.length rc] 25))) := Lib.hid ((Ext.refl w1).alloc _)
  have HO1 := Lib.hid (OutAt.new w1 (.int .i64 A.worlds) (.slice va A.val.length vc) (.slice ra A.rel.length rc) 25)
  clear hk1 hE1
  dsimp only
  go_wp2_with (first | (go_at_call 48; refine (between_any _ _ _ _).mono ?_; rintro _ _ ⟨rfl, rfl⟩) | fail)
  have HW2 : Hid (Ext w (w1.alloc (.cells #[.int .i64 A.worlds, .slice va A.val.length vc, .slice ra A.rel.length rc] 25))) := Lib.hid (HE0.out.trans (HE1.out.trans HA1.out))
  have HRI := Lib.hid ((HK1.out _ (Agree.ofExt HA1.out)).2)
  have HIX : Hid (∀ W, RI W la (natI SS) → Calls Tryz.prog 94 #[.slice la (natI SS).length lc, .int .i64 (s : Int)] W fun e w' => e = .returned (.int .i64 (posI SS (s : Int))) ∧ W = w') := Lib.hid fun W h => by rw [natI_len]; exact index_any SS (s : Int) la lc W h
  have HSZ1 : Hid (w.heap.size + 1 ≤ w1.heap.size) := Lib.hid (Nat.lt_of_lt_of_le HR0.out.lt HE1.out.size)
  generalize hw2 : w1.alloc (.cells #[.int .i64 A.worlds, .slice va A.val.length vc, .slice ra A.rel.length rc] 25) = w2 at *
  have HB2 : Hid (∀ w', Ext w2 w' → w'.cell? ⟨w1.heap.size, 0, none⟩ = some (.int .i64 A.worlds) ∧ w'.cell? ⟨w1.heap.size, 1, none⟩ = some (.slice va A.val.length vc) ∧ w'.cell? ⟨w1.heap.size, 2, none⟩ = some (.slice ra A.rel.length rc)) := Lib.hid fun w' e => by
    obtain ⟨o0, o1, o2, -⟩ := HO1.out.ext e
    exact ⟨o0, o1, o2⟩
  obtain ⟨o0, o1, o2⟩ := HB2.out w2 (Ext.refl _)
  have ol := World.block_lt_of_cell? _ _ o0
  clear hw2
  generalize (natI SS).length = sl at *
  go_upto_region 7 with fail
  go_cut [12] from 49 to 53 (fun s12 wc => ∃ b, s12 = .pointer (some ⟨b, 0, none⟩) ∧ Hid (SpS b w (SP 0) wc))
  case first =>
    go_region_held3 (fun w' => w'.cell? ⟨w1.heap.size, 0, none⟩ = some (.int .i64 A.worlds) ∧ w'.cell? ⟨w1.heap.size, 1, none⟩ = some (.slice va A.val.length vc) ∧ w'.cell? ⟨w1.heap.size, 2, none⟩ = some (.slice ra A.rel.length rc)) (first | exact HB2.out _ (Ext.refl _) | exact HB2.out _ (Ext.refl _).drew | exact HB2.out _ ((Ext.refl _).alloc _) | exact HB2.out _ ((Ext.refl _).drew.alloc _) | go_keep)
      (first | (go_at_call 94; refine (HIX.out _ (HRI.out.ext (by first | exact (Ext.refl _).drew | exact (Ext.refl _).drew.alloc _ | exact ((Ext.refl _).alloc _).drew))).mono ?_; rintro _ _ ⟨rfl, rfl⟩) | fail)
    all_goals
      go_wp2_with fail
      go_meet
      case rel =>
        have hE3 : Ext w2 (w2.alloc (.cells #[.int .i64 A.worlds, .slice va A.val.length vc, .slice ra A.rel.length rc, .int .i64 (posI SS (s : Int))] 76)).drew := ((Ext.refl w2).alloc _).drew
        refine ⟨w2.heap.size, rfl, Lib.hid ⟨Nat.le_trans HSZ1.out HA1.out.size, HW2.out.trans hE3, ⟨va, ra, vc, rc, ?_, fun w'' ha => ?_⟩, HR0.out.ext (HE1.out.trans (HA1.out.trans hE3))⟩⟩
        · rw [HP0.out]
          exact (PAt.new w2 _ _ _ _ _).ext (Ext.refl _).drew
        · rw [HP0.out]
          exact (HK1.out w'' ((ha.ext (HA1.out.trans hE3)).agree (Nat.le_of_eq HS0.out.symm) (.inr HA1.out.size))).1
  case rest =>
    obtain ⟨b, rfl, HSP⟩ := hcut
    clear o0 o1 o2 ol
    go_wp2_with fail
    go_loopw [55] (fun i wr => ∃ k : Nat, k ≤ n ∧ i = .int .i64 (k : Int) ∧ Hid (SpS b w (SP k) wr)) (fun i _ => n - (intOf i).toNat)
    case atStart => exact ⟨0, Nat.zero_le _, rfl, HSP⟩
    case round =>
      obtain ⟨k, hk, rfl, HSK⟩ := hrel
      have hnn := HN.out
      by_cases hlt : k < n
      · obtain ⟨N, x, ok, -, hpx, hxN, -, -⟩ := okP_at (HOK.out k hk).1
        have h64 := (HOK.out k hk).2
        have hwN := ok.worlds
        have HNX := Lib.hid (HPS.out k)
        have HSY := Lib.hid (HSAY.out k hlt)
        have hmost := ok.most
        generalize SP k = P at *
        generalize sayF n k = F at *
        obtain ⟨⟨W, V, R⟩, px⟩ := P
        obtain rfl : W = (N : Int) := hwN
        obtain rfl : px = (x : Int) := hpx
        obtain ⟨va2, ra2, vc2, rc2, hbx, hk2⟩ := HSK.out.box
        have HBX := Lib.hid hbx
        have HK2 := Lib.hid hk2
        have HER := Lib.hid HSK.out.e
        have HLO := Lib.hid HSK.out.lo
        have HRS := Lib.hid HSK.out.res
        have HN64 : Hid (N < 64 ∧ x < 64) := Lib.hid ⟨by have : (N : Int) < 64 := h64; omega, by have : (N : Int) < 64 := h64; omega⟩
        clear hbx hk2 HSK ok h64 hxN hmost
        go_wp2_with (first | (go_at_call 14; refine (HSY.out _).mono ?_; rintro _ w3 ⟨a3, c3, rfl, h3, hE3⟩; have HR3 := Lib.hid h3; have HE3 := Lib.hid hE3; have HB3 := Lib.hid (HBX.out.ext hE3); obtain ⟨p0, p1, p2', p3, -⟩ := HB3.out; have pl := HB3.out.lt; clear h3 hE3) | fail)
        have HA3 : Hid (Ext w3 (w3.alloc (.cells #[.slice a3 F.length c3] 29))) := Lib.hid ((Ext.refl w3).alloc _)
        refine (announce_any N V R va2 ra2 vc2 rc2 x (some ⟨w3.heap.size, 0, none⟩) 1 F _ HN64.out.1 HN64.out.2 (HK2.out _ (AgreeX.of (Agree.ofExt (HE3.out.trans HA3.out)))) (RNN.one w3 a3 c3 F 29 HR3.out) (HT.out.ext (HER.out.trans (HE3.out.trans HA3.out)))).mono ?_
        rintro _ w6 ⟨va6, ra6, vc6, rc6, rfl, hk6, hE6⟩
        have HK6 := Lib.hid hk6
        have HE36 := Lib.hid (HE3.out.trans (HA3.out.trans hE6))
        have HB6 := Lib.hid (HBX.out.ext (HE3.out.trans (HA3.out.trans hE6)))
        have HLB : Hid (b < (w3.alloc (.cells #[.slice a3 F.length c3] 29)).heap.size) := Lib.hid (HBX.out.ext (HE3.out.trans HA3.out)).lt
        rw [← HNX.out] at hk6 ⊢
        rw [← HNX.out] at HK6
        clear p0 p1 p2' p3 pl hk6 hE6
        obtain ⟨p0, p1, p2', p3, pf⟩ := HB6.out
        have pl := HB6.out.lt
        have f0 := pf 0
        have f1 := pf 1
        have f2 := pf 2
        have f3 := pf 3
        clear pf
        dsimp only
        go_wp2_with fail
        go_roundw
        case rel =>
          refine ⟨k + 1, hlt, by go_num, Lib.hid ⟨HLO.out, (HER.out.trans HE36.out).set4 (by have := HLO.out; omega) _ _ _ _, ⟨va6, ra6, vc6, rc6, HB6.out.set4 _ _ _ _, fun w'' ha => HK6.out w'' ((ha.set.set.set.set).agree (by have := HLO.out; have := HLB.out; omega) (.inl HLB.out))⟩, (HRS.out.ext HE36.out).other4 (by have := HLO.out; omega)⟩⟩
        case measure => simp [intOf]; omega
      · obtain rfl : k = n := by omega
        generalize hpe : SP k = P at *
        have HPE := Lib.hid hpe
        clear hpe
        obtain ⟨va2, ra2, vc2, rc2, hbx, hk2⟩ := HSK.out.box
        have HK2 := Lib.hid hk2
        have HER := Lib.hid HSK.out.e
        have HRS := Lib.hid HSK.out.res
        obtain ⟨p0, p1, p2', p3, -⟩ := hbx
        obtain ⟨r0, r1, r2, r3, rf⟩ := HRS.out
        have pl := World.block_lt_of_cell? _ _ p0
        have rl := HRS.out.lt
        have f0 := rf 0
        have f1 := rf 1
        have f2 := rf 2
        have f3 := rf 3
        clear rf hk2
        go_wp2_with fail
        have hst := stored4 HRS.out HER.out (Nat.le_refl _) (Nat.lt_succ_self _) (.int .i64 P.1.worlds) (.slice va2 P.1.val.length vc2) (.slice ra2 P.1.rel.length rc2) (.int .i64 P.2)
        generalize (((wr.setCell ⟨w.heap.size, 0, none⟩ (.int .i64 P.1.worlds)).setCell ⟨w.heap.size, 1, none⟩ (.slice va2 P.1.val.length vc2)).setCell ⟨w.heap.size, 2, none⟩ (.slice ra2 P.1.rel.length rc2)).setCell ⟨w.heap.size, 3, none⟩ (.int .i64 P.2) = W2 at *
        obtain ⟨hEx, ⟨d0, d1, d2, d3, -⟩, hag, hsw⟩ := hst
        refine bodyPost_ret (v := .tuple #[.agg #[.int .i64 P.1.worlds, .slice va2 P.1.val.length vc2, .slice ra2 P.1.rel.length rc2, .int .i64 P.2], .bool true]) ?_ rfl ?_
        · rw [results_cell_w rfl]
          go_simp
        · rw [HPE.out]
          exact ⟨va2, ra2, vc2, rc2, rfl, fun w'' ha => HK2.out w'' (AgreeX.of (agree_up hag ha (Nat.le_succ _) hsw)), hEx⟩
set_option maxRecDepth 20000 in
set_option maxHeartbeats 4000000 in
theorem spoken1_any (n p q c : Nat) (hn : 2 ≤ n ∧ n ≤ 3) (hp : p ≤ n) (hpq : p - 1 = q) (hp1 : 1 ≤ p) (hc : c < 2 ^ n) (w : World) (hT : Tab w) :
    Calls Tryz.prog 63 #[.int .i64 (n : Int), .int .i64 (q : Int), .int .i64 (c : Int)] w fun e w' => RetPB (spokeTo n p c n) e w w' := by
  have h8 : 2 ^ n ≤ 8 := by rcases (show n = 2 ∨ n = 3 by omega) with rfl | rfl <;> decide
  have h63 : n < 63 := by omega
  obtain ⟨hq1, hq2⟩ := pw_int (show n ≤ 4 by omega)
  obtain ⟨s, hs⟩ : ∃ s, s = dinSt n p c := ⟨_, rfl⟩
  have hst : bits .or .i64 (slN c n) (p2 q) = (s : Int) := by rw [hs, ← hpq]; exact st_or hn.2 (by omega) hp hc
  have hcn : c * 2 ^ n < 4611686018427387904 := by
    have := Nat.mul_le_mul (show c ≤ 7 by omega) h8
    omega
  have hb1 : btw ((q : Int)) (-1) ((n : Int) - 1) = true := btw_yes (by omega)
  have hb2 : btw (c : Int) 0 (p2 n - 1) = true := btw_yes (by unfold p2; omega)
  have hq63 : q < 63 := by omega
  have HDI := Lib.hid (dining_any n hn (din_ok hn))
  have HSAY := Lib.hid (fun k hk W => says_any n k hn hk W)
  have HP0 : Hid (spokeTo n p c 0 = (dinM n, posI (dinS n) (s : Int))) := Lib.hid (by rw [hs]; rfl)
  have HPS : Hid (∀ k, spokeTo n p c (k + 1) = annW (spokeTo n p c k) (sayF n k)) := Lib.hid fun k => rfl
  have HOK : Hid (∀ k, k ≤ n → okP n (2 * n) (spokeTo n p c k) = true ∧ (spokeTo n p c k).1.worlds < 64) := Lib.hid fun k hk => ⟨sp_ok hn hp hc hk, sp_lt hn hp hc hk⟩
  generalize spokeTo n p c = SP at *
  have hE0 : Ext w (w.alloc (.cells #[.int .i64 0, .slice none 0 0, .slice none 0 0, .int .i64 0] 76)) := (Ext.refl w).alloc _
  have HR0 := Lib.hid (PAt.new w (.int .i64 0) (.slice none 0 0) (.slice none 0 0) (.int .i64 0) 76)
  have HS0 : Hid ((w.alloc (.cells #[.int .i64 0, .slice none 0 0, .slice none 0 0, .int .i64 0] 76)).heap.size = w.heap.size + 1) := Lib.hid (by simp)
  have HE0 := Lib.hid hE0
  have HT := Lib.hid hT
  have HN := Lib.hid hn
  generalize dinM n = A at *
  generalize dinS n = SS at *
  clear hE0 hT hc h8 hs hp hpq hp1
  go_enter Tryz.func63, Tryz.ntmps63
  go_wp2_with fail
  generalize w.alloc (.cells #[.int .i64 0, .slice none 0 0, .slice none 0 0, .int .i64 0] 76) = W0 at *
  refine (HDI.out _).mono ?_
  rintro _ w1 ⟨va, ra, la, vc, rc, lc, rfl, hk1, hE1⟩
  have HK1 := Lib.hid hk1
  have HE1 := Lib.hid hE1
  have HA1 : Hid (Ext w1 (w1.alloc (.cells #[.int .i64 A.worlds, .slice va A.val.length vc, .slice ra A.rel.length rc] 25))) := Lib.hid ((Ext.refl w1).alloc _)
  have HO1 := Lib.hid (OutAt.new w1 (.int .i64 A.worlds) (.slice va A.val.length vc) (.slice ra A.rel.length rc) 25)
  clear hk1 hE1
  dsimp only
  go_wp2_with (first | (go_at_call 48; refine (between_any _ _ _ _).mono ?_; rintro _ _ ⟨rfl, rfl⟩) | fail)
  have HW2 : Hid (Ext w (w1.alloc (.cells #[.int .i64 A.worlds, .slice va A.val.length vc, .slice ra A.rel.length rc] 25))) := Lib.hid (HE0.out.trans (HE1.out.trans HA1.out))
  have HRI := Lib.hid ((HK1.out _ (Agree.ofExt HA1.out)).2)
  have HIX : Hid (∀ W, RI W la (natI SS) → Calls Tryz.prog 94 #[.slice la (natI SS).length lc, .int .i64 (s : Int)] W fun e w' => e = .returned (.int .i64 (posI SS (s : Int))) ∧ W = w') := Lib.hid fun W h => by rw [natI_len]; exact index_any SS (s : Int) la lc W h
  have HSZ1 : Hid (w.heap.size + 1 ≤ w1.heap.size) := Lib.hid (Nat.lt_of_lt_of_le HR0.out.lt HE1.out.size)
  generalize hw2 : w1.alloc (.cells #[.int .i64 A.worlds, .slice va A.val.length vc, .slice ra A.rel.length rc] 25) = w2 at *
  have HB2 : Hid (∀ w', Ext w2 w' → w'.cell? ⟨w1.heap.size, 0, none⟩ = some (.int .i64 A.worlds) ∧ w'.cell? ⟨w1.heap.size, 1, none⟩ = some (.slice va A.val.length vc) ∧ w'.cell? ⟨w1.heap.size, 2, none⟩ = some (.slice ra A.rel.length rc)) := Lib.hid fun w' e => by
    obtain ⟨o0, o1, o2, -⟩ := HO1.out.ext e
    exact ⟨o0, o1, o2⟩
  obtain ⟨o0, o1, o2⟩ := HB2.out w2 (Ext.refl _)
  have ol := World.block_lt_of_cell? _ _ o0
  clear hw2
  generalize (natI SS).length = sl at *
  go_upto_region 7 with fail
  go_cut [12] from 49 to 53 (fun s12 wc => ∃ b, s12 = .pointer (some ⟨b, 0, none⟩) ∧ Hid (SpS b w (SP 0) wc))
  case first =>
    go_region_held3 (fun w' => w'.cell? ⟨w1.heap.size, 0, none⟩ = some (.int .i64 A.worlds) ∧ w'.cell? ⟨w1.heap.size, 1, none⟩ = some (.slice va A.val.length vc) ∧ w'.cell? ⟨w1.heap.size, 2, none⟩ = some (.slice ra A.rel.length rc)) (first | exact HB2.out _ (Ext.refl _) | exact HB2.out _ (Ext.refl _).drew | exact HB2.out _ ((Ext.refl _).alloc _) | exact HB2.out _ ((Ext.refl _).drew.alloc _) | go_keep)
      (first | (go_at_call 94; refine (HIX.out _ (HRI.out.ext (by first | exact (Ext.refl _).drew | exact (Ext.refl _).drew.alloc _ | exact ((Ext.refl _).alloc _).drew))).mono ?_; rintro _ _ ⟨rfl, rfl⟩) | fail)
    all_goals
      go_wp2_with fail
      go_meet
      case rel =>
        have hE3 : Ext w2 (w2.alloc (.cells #[.int .i64 A.worlds, .slice va A.val.length vc, .slice ra A.rel.length rc, .int .i64 (posI SS (s : Int))] 76)).drew := ((Ext.refl w2).alloc _).drew
        refine ⟨w2.heap.size, rfl, Lib.hid ⟨Nat.le_trans HSZ1.out HA1.out.size, HW2.out.trans hE3, ⟨va, ra, vc, rc, ?_, fun w'' ha => ?_⟩, HR0.out.ext (HE1.out.trans (HA1.out.trans hE3))⟩⟩
        · rw [HP0.out]
          exact (PAt.new w2 _ _ _ _ _).ext (Ext.refl _).drew
        · rw [HP0.out]
          exact (HK1.out w'' ((ha.ext (HA1.out.trans hE3)).agree (Nat.le_of_eq HS0.out.symm) (.inr HA1.out.size))).1
  case rest =>
    obtain ⟨b, rfl, HSP⟩ := hcut
    clear o0 o1 o2 ol
    go_wp2_with fail
    go_loopw [55] (fun i wr => ∃ k : Nat, k ≤ n ∧ i = .int .i64 (k : Int) ∧ Hid (SpS b w (SP k) wr)) (fun i _ => n - (intOf i).toNat)
    case atStart => exact ⟨0, Nat.zero_le _, rfl, HSP⟩
    case round =>
      obtain ⟨k, hk, rfl, HSK⟩ := hrel
      have hnn := HN.out
      by_cases hlt : k < n
      · obtain ⟨N, x, ok, -, hpx, hxN, -, -⟩ := okP_at (HOK.out k hk).1
        have h64 := (HOK.out k hk).2
        have hwN := ok.worlds
        have HNX := Lib.hid (HPS.out k)
        have HSY := Lib.hid (HSAY.out k hlt)
        have hmost := ok.most
        generalize SP k = P at *
        generalize sayF n k = F at *
        obtain ⟨⟨W, V, R⟩, px⟩ := P
        obtain rfl : W = (N : Int) := hwN
        obtain rfl : px = (x : Int) := hpx
        obtain ⟨va2, ra2, vc2, rc2, hbx, hk2⟩ := HSK.out.box
        have HBX := Lib.hid hbx
        have HK2 := Lib.hid hk2
        have HER := Lib.hid HSK.out.e
        have HLO := Lib.hid HSK.out.lo
        have HRS := Lib.hid HSK.out.res
        have HN64 : Hid (N < 64 ∧ x < 64) := Lib.hid ⟨by have : (N : Int) < 64 := h64; omega, by have : (N : Int) < 64 := h64; omega⟩
        clear hbx hk2 HSK ok h64 hxN hmost
        go_wp2_with (first | (go_at_call 14; refine (HSY.out _).mono ?_; rintro _ w3 ⟨a3, c3, rfl, h3, hE3⟩; have HR3 := Lib.hid h3; have HE3 := Lib.hid hE3; have HB3 := Lib.hid (HBX.out.ext hE3); obtain ⟨p0, p1, p2', p3, -⟩ := HB3.out; have pl := HB3.out.lt; clear h3 hE3) | fail)
        have HA3 : Hid (Ext w3 (w3.alloc (.cells #[.slice a3 F.length c3] 29))) := Lib.hid ((Ext.refl w3).alloc _)
        refine (announce_any N V R va2 ra2 vc2 rc2 x (some ⟨w3.heap.size, 0, none⟩) 1 F _ HN64.out.1 HN64.out.2 (HK2.out _ (AgreeX.of (Agree.ofExt (HE3.out.trans HA3.out)))) (RNN.one w3 a3 c3 F 29 HR3.out) (HT.out.ext (HER.out.trans (HE3.out.trans HA3.out)))).mono ?_
        rintro _ w6 ⟨va6, ra6, vc6, rc6, rfl, hk6, hE6⟩
        have HK6 := Lib.hid hk6
        have HE36 := Lib.hid (HE3.out.trans (HA3.out.trans hE6))
        have HB6 := Lib.hid (HBX.out.ext (HE3.out.trans (HA3.out.trans hE6)))
        have HLB : Hid (b < (w3.alloc (.cells #[.slice a3 F.length c3] 29)).heap.size) := Lib.hid (HBX.out.ext (HE3.out.trans HA3.out)).lt
        rw [← HNX.out] at hk6 ⊢
        rw [← HNX.out] at HK6
        clear p0 p1 p2' p3 pl hk6 hE6
        obtain ⟨p0, p1, p2', p3, pf⟩ := HB6.out
        have pl := HB6.out.lt
        have f0 := pf 0
        have f1 := pf 1
        have f2 := pf 2
        have f3 := pf 3
        clear pf
        dsimp only
        go_wp2_with fail
        go_roundw
        case rel =>
          refine ⟨k + 1, hlt, by go_num, Lib.hid ⟨HLO.out, (HER.out.trans HE36.out).set4 (by have := HLO.out; omega) _ _ _ _, ⟨va6, ra6, vc6, rc6, HB6.out.set4 _ _ _ _, fun w'' ha => HK6.out w'' ((ha.set.set.set.set).agree (by have := HLO.out; have := HLB.out; omega) (.inl HLB.out))⟩, (HRS.out.ext HE36.out).other4 (by have := HLO.out; omega)⟩⟩
        case measure => simp [intOf]; omega
      · obtain rfl : k = n := by omega
        generalize hpe : SP k = P at *
        have HPE := Lib.hid hpe
        clear hpe
        obtain ⟨va2, ra2, vc2, rc2, hbx, hk2⟩ := HSK.out.box
        have HK2 := Lib.hid hk2
        have HER := Lib.hid HSK.out.e
        have HRS := Lib.hid HSK.out.res
        obtain ⟨p0, p1, p2', p3, -⟩ := hbx
        obtain ⟨r0, r1, r2, r3, rf⟩ := HRS.out
        have pl := World.block_lt_of_cell? _ _ p0
        have rl := HRS.out.lt
        have f0 := rf 0
        have f1 := rf 1
        have f2 := rf 2
        have f3 := rf 3
        clear rf hk2
        go_wp2_with fail
        have hst := stored4 HRS.out HER.out (Nat.le_refl _) (Nat.lt_succ_self _) (.int .i64 P.1.worlds) (.slice va2 P.1.val.length vc2) (.slice ra2 P.1.rel.length rc2) (.int .i64 P.2)
        generalize (((wr.setCell ⟨w.heap.size, 0, none⟩ (.int .i64 P.1.worlds)).setCell ⟨w.heap.size, 1, none⟩ (.slice va2 P.1.val.length vc2)).setCell ⟨w.heap.size, 2, none⟩ (.slice ra2 P.1.rel.length rc2)).setCell ⟨w.heap.size, 3, none⟩ (.int .i64 P.2) = W2 at *
        obtain ⟨hEx, ⟨d0, d1, d2, d3, -⟩, hag, hsw⟩ := hst
        refine bodyPost_ret (v := .tuple #[.agg #[.int .i64 P.1.worlds, .slice va2 P.1.val.length vc2, .slice ra2 P.1.rel.length rc2, .int .i64 P.2], .bool true]) ?_ rfl ?_
        · rw [results_cell_w rfl]
          go_simp
        · rw [HPE.out]
          exact ⟨va2, ra2, vc2, rc2, rfl, fun w'' ha => HK2.out w'' (AgreeX.of (agree_up hag ha (Nat.le_succ _) hsw)), hEx⟩
theorem spoken_any (n p c : Nat) (hn : 2 ≤ n ∧ n ≤ 3) (hp : p ≤ n) (hc : c < 2 ^ n) (w : World) (hT : Tab w) :
    Calls Tryz.prog 63 #[.int .i64 (n : Int), .int .i64 ((p : Int) - 1), .int .i64 (c : Int)] w fun e w' => RetPB (spokeTo n p c n) e w w' := by
  by_cases h : p = 0
  · subst h
    exact spoken0_any n c hn hc w hT
  · have e : (p : Int) - 1 = ((p - 1 : Nat) : Int) := by omega
    rw [e]
    exact spoken1_any n p (p - 1) c hn hp rfl (by omega) hc w hT
set_option maxRecDepth 20000 in
set_option maxHeartbeats 4000000 in
theorem Spoken_any (n p c : Nat) (hn : 2 ≤ n ∧ n ≤ 3) (hp : p ≤ n) (hc : c < 2 ^ n) (w : World) (hT : Tab w) :
    Calls Tryz.prog 20 #[.int .i64 (n : Int), .int .i64 ((p : Int) - 1), .int .i64 (c : Int)] w fun e w' => RetG (spokeTo n p c n) e w w' := by
  obtain ⟨z, hz⟩ : ∃ z, z = (p : Int) - 1 := ⟨_, rfl⟩
  have hE0 : Ext w (w.alloc (.cells #[.int .i64 0, .slice none 0 0, .slice none 0 0] 25)) := (Ext.refl w).alloc _
  have HO0 := Lib.hid (OutAt.new w (.int .i64 0) (.slice none 0 0) (.slice none 0 0) 25)
  have HC := Lib.hid (spoken_any n p c hn hp hc _ (hT.ext hE0))
  generalize spokeTo n p c n = P at *
  rw [← hz] at HC ⊢
  clear hz
  have HE0 := Lib.hid hE0
  have HL0 := Lib.hid HO0.out.lt
  clear hE0 hT hc hp
  go_enter Tryz.func20, Tryz.ntmps20
  go_wp2_with fail
  refine HC.out.mono ?_
  rintro _ w1 ⟨va, ra, vc, rc, rfl, hk1, hE1⟩
  have HK1 := Lib.hid hk1
  have HE1 := Lib.hid hE1
  clear hk1 hE1
  dsimp only
  go_wp2_with fail
  refine (give_any P.1.worlds P.2 va ra P.1.val.length P.1.rel.length vc rc _).mono ?_
  rintro _ w2 ⟨rfl, hE2⟩
  have HE2 := Lib.hid hE2
  have HO2 := Lib.hid (HO0.out.ext (HE1.out.trans hE2))
  obtain ⟨r0, r1, r2, rf⟩ := HO2.out
  have f0 := rf 0
  have f1 := rf 1
  have f2 := rf 2
  have rl := HO2.out.lt
  clear rf hE2
  dsimp only
  go_wp2_with fail
  have hst := stored3 HO2.out (HE0.out.trans (HE1.out.trans HE2.out)) (Nat.le_refl _) HL0.out (.int .i64 P.1.worlds) (.slice va P.1.val.length vc) (.slice ra P.1.rel.length rc)
  generalize ((w2.setCell ⟨w.heap.size, 0, none⟩ (.int .i64 P.1.worlds)).setCell ⟨w.heap.size, 1, none⟩ (.slice va P.1.val.length vc)).setCell ⟨w.heap.size, 2, none⟩ (.slice ra P.1.rel.length rc) = W2 at *
  obtain ⟨hEx, ⟨d0, d1, d2, -⟩, hag, hsw⟩ := hst
  refine bodyPost_ret (v := .tuple #[.agg #[.int .i64 P.1.worlds, .slice va P.1.val.length vc, .slice ra P.1.rel.length rc], .int .i64 P.2, .int .i64 0]) ?_ rfl ?_
  · rw [results_cell_two rfl]
    go_simp
  · refine ⟨va, ra, vc, rc, rfl, fun w'' ha => HK1.out w'' ?_, hEx⟩
    exact (Agree.ofExt HE2.out).trans (agree_up hag ha (Nat.le_of_lt HL0.out) hsw) HE2.out.size
set_option maxRecDepth 20000 in
set_option maxHeartbeats 4000000 in
theorem Traces_any (n p c : Nat) (g i : Int) (hn : 2 ≤ n ∧ n ≤ 3) (hp : p ≤ n) (hc : c < 2 ^ n) (hg : 1 ≤ g ∧ g ≤ p2 n - 1) (hi : 0 ≤ i ∧ i ≤ (n : Int) - 1) (w : World) (hT : Tab w) :
    Calls Tryz.prog 22 #[.int .i64 (n : Int), .int .i64 ((p : Int) - 1), .int .i64 (c : Int), .int .i64 g, .int .i64 i] w fun e w' => RetP (.bool (knowsW (spokeTo n p c n) g i)) 0 e w w' := by
  obtain ⟨z, hz⟩ : ∃ z, z = (p : Int) - 1 := ⟨_, rfl⟩
  have HC := Lib.hid (spoken_any n p c hn hp hc w hT)
  rw [← hz] at HC ⊢
  clear hz
  obtain ⟨N, x, ok, -, hpx, hxN, -, -⟩ := okP_at (sp_ok hn hp hc (Nat.le_refl _))
  have hwN := ok.worlds
  generalize spokeTo n p c n = P at *
  obtain ⟨⟨W, V, R⟩, px⟩ := P
  obtain rfl : W = (N : Int) := hwN
  obtain rfl : px = (x : Int) := hpx
  have HA := Lib.hid (fun va ra vc rc W (hm : RM W va ra ⟨(N : Int), V, R⟩) => ask_any N V R va ra vc rc x n g i W hm ⟨hn.1, by omega⟩ hg hi)
  generalize knowsW (⟨(N : Int), V, R⟩, (x : Int)) g i = y at *
  clear ok hxN hT hc hp hg hi
  go_enter Tryz.func22, Tryz.ntmps22
  go_wp2_with fail
  refine HC.out.mono ?_
  rintro _ w1 ⟨va, ra, vc, rc, rfl, hk1, hE1⟩
  have hA1 : Ext w1 (w1.alloc (.cells #[.int .i64 (N : Int), .slice va V.length vc, .slice ra R.length rc, .int .i64 (x : Int)] 76)) := (Ext.refl w1).alloc _
  have HM1 := Lib.hid (hk1 _ (Agree.ofExt hA1))
  have HE1 := Lib.hid (hE1.trans hA1)
  clear hk1 hE1 hA1
  dsimp only
  go_wp2_with fail
  refine (HA.out va ra vc rc _ HM1.out).mono ?_
  rintro _ w2 ⟨rfl, hE2⟩
  dsimp only
  go_wp2_with fail
  go_ret2
  exact ⟨rfl, HE1.out.trans hE2⟩
end Wt

namespace Wt
open Go Go.RowKit Go.Maps Go.Proofs Fm

theorem c33 : (countedW 3 3).1.worlds = 3 ∧ (countedW 3 3).2 = 0 := by rw [cnt_eq (by decide) (by decide)]; decide +kernel
theorem s300 : (spokeTo 3 1 0 3).1.worlds = 6 := by rw [sp_eq (by decide) (by decide) (by decide)]; decide +kernel
def RetG3 (W x : Int) (e : Ending) (w w' : World) : Prop := ∃ va ra vl rl vc rc, e = .returned (.tuple #[.agg #[.int .i64 W, .slice va vl vc, .slice ra rl rc], .int .i64 x, .int .i64 0]) ∧ Ext w w'
theorem RetG.g3 {p : Mo × Int} {e : Ending} {w w' : World} {W : Int} (h : RetG p e w w') (hW : p.1.worlds = W) : RetG3 W p.2 e w w' := by
  obtain ⟨va, ra, vc, rc, h1, _, h2⟩ := h
  rw [hW] at h1
  exact ⟨va, ra, _, _, vc, rc, h1, h2⟩
theorem learns_is (n v g i : Nat) (hn : 2 ≤ n ∧ n ≤ 4) (hv : v < 2 ^ n) (h1 : 1 ≤ g) (h2 : g < 2 ^ n) (hi : i < n) (w : World) (hT : Tab w) :
    Calls Tryz.prog 30 #[.int .i64 (n : Int), .int .i64 (v : Int), .int .i64 (g : Int), .int .i64 (i : Int)] w fun e w' => RetP (.bool (tallyWant n v g i)) 0 e w w' := by
  have h := Learns_any n v (g : Int) (i : Int) hn hv ⟨by omega, by unfold p2; omega⟩ ⟨by omega, by omega⟩ w hT
  rw [tally_law hn hv h1 h2 hi] at h
  exact h
theorem guesses_is (n v q g i : Nat) (hn : 2 ≤ n ∧ n ≤ 4) (hv : v < 2 ^ n) (hq : q ≤ n) (h1 : 1 ≤ g) (h2 : g < 2 ^ n) (hi : i < n) (w : World) (hT : Tab w) :
    Calls Tryz.prog 25 #[.int .i64 (n : Int), .int .i64 (v : Int), .int .i64 (q : Int), .int .i64 (g : Int), .int .i64 (i : Int)] w fun e w' => RetP (.bool (decWant n v q g i)) 0 e w w' := by
  have h := Guesses_any n v q (g : Int) (i : Int) hn hv hq ⟨by omega, by unfold p2; omega⟩ ⟨by omega, by omega⟩ w hT
  rw [dec_law hn hv hq h1 h2 hi] at h
  exact h
theorem traces_is (n p c g i : Nat) (hn : 2 ≤ n ∧ n ≤ 3) (hp : p ≤ n) (hc : c < 2 ^ n) (h1 : 1 ≤ g) (h2 : g < 2 ^ n) (hi : i < n) (w : World) (hT : Tab w) :
    Calls Tryz.prog 22 #[.int .i64 (n : Int), .int .i64 ((p : Int) - 1), .int .i64 (c : Int), .int .i64 (g : Int), .int .i64 (i : Int)] w fun e w' => RetP (.bool (anonWant n p g i)) 0 e w w' := by
  have h := Traces_any n p c (g : Int) (i : Int) hn hp hc ⟨by omega, by unfold p2; omega⟩ ⟨by omega, by omega⟩ w hT
  rw [anon_law hn hp hc h1 h2 hi] at h
  exact h
set_option maxRecDepth 20000 in
set_option maxHeartbeats 4000000 in
theorem awake44_any (w : World) (hT : Tab w) : Calls Tryz.prog 19 #[] w fun e w' => e = .returned (.bool true) ∧ Ext w w' := by
  have X1 : Hid (∀ W, Tab W → Calls Tryz.prog 30 #[.int .i64 3, .int .i64 3, .int .i64 4, .int .i64 0] W fun e w' => RetP (.bool true) 0 e W w') := Lib.hid fun W h => learns_is 3 3 4 0 (by decide) (by decide) (by decide) (by decide) (by decide) W h
  have X2 : Hid (∀ W, Tab W → Calls Tryz.prog 30 #[.int .i64 3, .int .i64 3, .int .i64 1, .int .i64 1] W fun e w' => RetP (.bool false) 0 e W w') := Lib.hid fun W h => learns_is 3 3 1 1 (by decide) (by decide) (by decide) (by decide) (by decide) W h
  have X3 : Hid (∀ W, Tab W → Calls Tryz.prog 25 #[.int .i64 3, .int .i64 3, .int .i64 2, .int .i64 4, .int .i64 0] W fun e w' => RetP (.bool true) 0 e W w') := Lib.hid fun W h => guesses_is 3 3 2 4 0 (by decide) (by decide) (by decide) (by decide) (by decide) (by decide) W h
  have X4 : Hid (∀ W, Tab W → Calls Tryz.prog 25 #[.int .i64 3, .int .i64 3, .int .i64 2, .int .i64 1, .int .i64 1] W fun e w' => RetP (.bool false) 0 e W w') := Lib.hid fun W h => guesses_is 3 3 2 1 1 (by decide) (by decide) (by decide) (by decide) (by decide) (by decide) W h
  have X6 : Hid (∀ W, Tab W → Calls Tryz.prog 22 #[.int .i64 3, .int .i64 0, .int .i64 0, .int .i64 2, .int .i64 0] W fun e w' => RetP (.bool false) 0 e W w') := Lib.hid fun W h => traces_is 3 1 0 2 0 (by decide) (by decide) (by decide) (by decide) (by decide) (by decide) W h
  have X7 : Hid (∀ W, Tab W → Calls Tryz.prog 22 #[.int .i64 3, .int .i64 0, .int .i64 0, .int .i64 6, .int .i64 0] W fun e w' => RetP (.bool true) 0 e W w') := Lib.hid fun W h => traces_is 3 1 0 6 0 (by decide) (by decide) (by decide) (by decide) (by decide) (by decide) W h
  have X0 : Hid (∀ W, Tab W → Calls Tryz.prog 26 #[.int .i64 3, .int .i64 3] W fun e w' => RetG3 3 0 e W w') := Lib.hid fun W h => (Counted_any 3 3 (by decide) (by decide) W h).mono fun _ _ hr => by
    have h2 := hr.g3 c33.1
    rw [c33.2] at h2
    exact h2
  have X5 : Hid (∀ W, Tab W → Calls Tryz.prog 20 #[.int .i64 3, .int .i64 0, .int .i64 0] W fun e w' => RetG3 6 (spokeTo 3 1 0 3).2 e W w') := Lib.hid fun W h => (Spoken_any 3 1 0 (by decide) (by decide) (by decide) W h).mono fun _ _ hr => hr.g3 s300
  generalize (spokeTo 3 1 0 3).2 = y at *
  have HT := Lib.hid hT
  clear hT
  go_enter Tryz.func19, Tryz.ntmps19
  go_wp2_with fail
  refine (X0.out _ HT.out).mono ?_
  rintro _ w1 ⟨va, ra, vl, rl, vc, rc, rfl, hE1⟩
  have hA1 : Ext w1 (w1.alloc (.cells #[.int .i64 3, .slice va vl vc, .slice ra rl rc] 25)) := (Ext.refl _).alloc _
  dsimp only
  go_wp2_with fail
  refine (X1.out _ (HT.out.ext (hE1.trans hA1))).mono ?_
  rintro _ v0 ⟨rfl, hY0⟩
  dsimp only
  go_wp2_with fail
  refine (X2.out _ (HT.out.ext ((hE1.trans hA1).trans hY0))).mono ?_
  rintro _ v1 ⟨rfl, hY1⟩
  dsimp only
  go_wp2_with fail
  refine (X3.out _ (HT.out.ext (((hE1.trans hA1).trans hY0).trans hY1))).mono ?_
  rintro _ v2 ⟨rfl, hY2⟩
  dsimp only
  go_wp2_with fail
  refine (X4.out _ (HT.out.ext ((((hE1.trans hA1).trans hY0).trans hY1).trans hY2))).mono ?_
  rintro _ v3 ⟨rfl, hY3⟩
  dsimp only
  go_wp2_with fail
  refine (X5.out _ (HT.out.ext (((((hE1.trans hA1).trans hY0).trans hY1).trans hY2).trans hY3))).mono ?_
  rintro _ v4 ⟨va5, ra5, vl5, rl5, vc5, rc5, rfl, hY4⟩
  have hA5 : Ext v4 (v4.alloc (.cells #[.int .i64 6, .slice va5 vl5 vc5, .slice ra5 rl5 rc5] 25)) := (Ext.refl _).alloc _
  have HO5 := Lib.hid (OutAt.new v4 (.int .i64 6) (.slice va5 vl5 vc5) (.slice ra5 rl5 rc5) 25)
  dsimp only
  go_wp2_with fail
  refine (X6.out _ (HT.out.ext ((((((hE1.trans hA1).trans hY0).trans hY1).trans hY2).trans hY3).trans (hY4.trans hA5)))).mono ?_
  rintro _ v5 ⟨rfl, hY5⟩
  dsimp only
  go_wp2_with fail
  refine (X7.out _ (HT.out.ext (((((((hE1.trans hA1).trans hY0).trans hY1).trans hY2).trans hY3).trans (hY4.trans hA5)).trans hY5))).mono ?_
  rintro _ v6 ⟨rfl, hY6⟩
  dsimp only
  obtain ⟨o0, -, -, -⟩ := HO5.out.ext (hY5.trans hY6)
  have ol := World.block_lt_of_cell? _ _ o0
  go_wp2_with fail
  go_ret
  exact ⟨rfl, ((((((((hE1.trans hA1).trans hY0).trans hY1).trans hY2).trans hY3).trans (hY4.trans hA5)).trans hY5).trans hY6)⟩
end Wt

namespace Wt
open Go Go.ChangeShapes Go.WideShapes Go.ChangeAt Go.RowKit Go.Deep Go.Proofs Fm

section
variable {H : Type} {enc : TypeId × Value → H} {w : World}
end
end Wt

namespace Go.Proofs.YtflnfcmbalhpnaaGreatDoor
open Go.ChangeShapes Go.WideShapes Go.ChangeAt Go.RowKit

theorem gTab : Tryz.prog.globalNamed "math/bits.deBruijn64tab" = some 0 := by kernel_rfl
theorem tTab : (Tryz.prog.globals[0]?).map (·.type) = some 167 := by kernel_rfl
theorem tabD : (Rows.laid_math_bits_deBruijn64tab : DataW Unit) = .agg (Lib.deBruijn64tab.map fun n : Nat => .lit (.int .u8 (n : Int))) := by
  unfold Rows.laid_math_bits_deBruijn64tab Lib.deBruijn64tab
  rfl
set_option maxRecDepth 100000 in
theorem tab_of {W : World} {fuel : Nat} {cs : List Value} {q : List MemPlace} {d : DataW Unit} {encU : TypeId × Value → Unit} {base : Nat} {sp : Nat → Bool} {held : Bool} (hd : d = .agg (Lib.deBruijn64tab.map fun n : Nat => .lit (.int .u8 (n : Int))))
    (h : DataW.trod encU Tryz.prog W base sp held fuel 167 cs = some (d, q)) : ∀ j, j < Lib.deBruijn64tab.length → cs[j]? = some (.int .u8 ((Lib.deBruijn64tab.getD j 0 : Nat) : Int)) := by
  intro j hj
  obtain ⟨xs, m1, rfl, hx1, hlen, hn, hel⟩ := DataW.trod_array Tryz.underlying167 h
  have c5 : Tryz.prog.cellsOf 5 = 1 := by kernel_rfl
  have hl64 : Lib.deBruijn64tab.length = 64 := by decide
  have hj64 : j < 64 := by omega
  have h0 := hel j (by omega)
  have hxj : j < xs.length := by omega
  rw [List.getElem?_eq_getElem hxj, c5, Nat.mul_one] at h0
  simp only [Prod.mk.injEq] at hx1
  obtain ⟨hx1, _⟩ := hx1
  rw [hd] at hx1
  simp only [DataW.agg.injEq] at hx1
  have e1 : (xs[j]).1 = .lit (.int .u8 ((Lib.deBruijn64tab.getD j 0 : Nat) : Int)) := by
    have e2 : (xs.map (·.1))[j]? = (Lib.deBruijn64tab.map fun n : Nat => (DataW.lit (.int .u8 (n : Int)) : DataW Unit))[j]? := by rw [hx1]
    rw [List.getElem?_map, List.getElem?_map, List.getElem?_eq_getElem hxj, List.getElem?_eq_getElem hj] at e2
    simp only [Option.map_some, Option.some.injEq] at e2
    rw [e2, List.getD_eq_getElem?_getD, List.getElem?_eq_getElem hj]
    rfl
  obtain ⟨k, k1, k2, _⟩ := DataW.trod_int Tryz.underlying5 h0
  rw [k2] at e1
  simp only [DataW.lit.injEq, Lit.int.injEq, true_and] at e1
  subst e1
  have k3 := congrArg (fun l => l[0]?) k1
  simp only [List.getElem?_take, List.getElem?_drop] at k3
  simpa using k3
theorem of_laid {W : World} (h : laidMetH Tryz.prog [("math/bits.deBruijn64tab", Rows.laid_math_bits_deBruijn64tab)] W) : Wt.Tab W := by
  rw [MakeChecks.laidMetH_plain _ _ _ (by kernel_rfl)] at h
  obtain ⟨ps, ⟨g0, t0, cs0, f0, p0, q0, hg0, ht0, hv0, hd0, _⟩, _⟩ := h
  obtain rfl := Option.some.inj (gTab.symm.trans hg0)
  obtain rfl := Option.some.inj (tTab.symm.trans ht0)
  intro j hj
  have hc := tab_of tabD hd0 j hj
  have := World.var?_cell hg0 hv0 j
  rw [← Array.getElem?_toList, hc] at this
  simpa using this
end Go.Proofs.YtflnfcmbalhpnaaGreatDoor
namespace Wt
open Go Go.ChangeShapes Go.WideShapes Go.ChangeAt Go.RowKit Go.Deep Go.Proofs Fm
section
variable {H : Type} {enc : TypeId × Value → H} {w : World}
end
end Wt
