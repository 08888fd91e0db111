/- The walk of TopCoalitionsGrow (printed by gen_law44.py). -/
import Derived.Test.YtflnfcmbalhpnaaGreatDoorM4Br
import Derived.Test.YtflnfcmbalhpnaaGreatDoorRows
import Derived.Test.YtflnfcmbalhpnaaGreatDoorCards
import Derived.Test.YtflnfcmbalhpnaaGreatDoorTie
import Derived.Test.YtflnfcmbalhpnaaGreatDoorM4Bp
import Derived.Test.YtflnfcmbalhpnaaGreatDoorM4Bq
import Derived.ProofKit
import Derived.LaidMore
import Derived.SizedLaws
import Derived.SevenTiedAt
import Derived.OpenShut
namespace Wt
open Go Go.RowKit Go.Maps Go.Proofs Fm

def growT (n : Nat) : Bool := (List.range (2 ^ n)).all fun v => (List.range (2 ^ n)).all fun g => g == 0 || (List.range (2 ^ n)).all fun e => (List.range n).all fun i => !tallyWant n v g i || tallyWant n v (g ||| e) i
def growD (n : Nat) : Bool := (List.range (n + 1)).all fun q => (List.range (2 ^ n)).all fun v => (List.range (2 ^ n)).all fun g => g == 0 || (List.range n).all fun i => (!decWant n v q g i || tallyWant n v g i) && (List.range (2 ^ n)).all fun e => !decWant n v q g i || decWant n v q (g ||| e) i
def growA (n : Nat) : Bool := (List.range (n + 1)).all fun p => (List.range (2 ^ n)).all fun g => g == 0 || (List.range (2 ^ n)).all fun e => (List.range n).all fun i => !anonWant n p g i || anonWant n p (g ||| e) i
set_option maxRecDepth 100000 in
theorem growT_tab : growT 2 = true ∧ growT 3 = true ∧ growT 4 = true := by decide +kernel
set_option maxRecDepth 100000 in
theorem growD_tab : growD 2 = true ∧ growD 3 = true ∧ growD 4 = true := by decide +kernel
set_option maxRecDepth 100000 in
theorem growA_tab : growA 2 = true ∧ growA 3 = true := by decide +kernel
theorem or_of {a b : Bool} (h : a = true → b = true) : a = false ∨ b = true := by
  cases a
  · exact .inl rfl
  · exact .inr (h rfl)
theorem imp_of {a b : Bool} (h : (!a || b) = true) : a = true → b = true := by cases a <;> cases b <;> simp_all
section
variable {n v g e i q p : Nat}
theorem grow_t (hn : 2 ≤ n ∧ n ≤ 4) (hv : v < 2 ^ n) (h1 : 1 ≤ g) (hg : g < 2 ^ n) (he : e < 2 ^ n) (hi : i < n) : tallyWant n v g i = true → tallyWant n v (g ||| e) i = true := by
  have h : growT n = true := by
    obtain ⟨a, b, c⟩ := growT_tab
    rcases three hn with rfl | rfl | rfl
    · exact a
    · exact b
    · exact c
  have h3 := List.all_eq_true.1 (List.all_eq_true.1 h v (List.mem_range.2 hv)) g (List.mem_range.2 hg)
  rw [Bool.or_eq_true] at h3
  rcases h3 with h3 | h3
  · have := eq_of_beq h3; omega
  · exact imp_of (List.all_eq_true.1 (List.all_eq_true.1 h3 e (List.mem_range.2 he)) i (List.mem_range.2 hi))
theorem grow_d (hn : 2 ≤ n ∧ n ≤ 4) (hq : q ≤ n) (hv : v < 2 ^ n) (h1 : 1 ≤ g) (hg : g < 2 ^ n) (he : e < 2 ^ n) (hi : i < n) : (decWant n v q g i = true → tallyWant n v g i = true) ∧ (decWant n v q g i = true → decWant n v q (g ||| e) i = true) := by
  have h : growD n = true := by
    obtain ⟨a, b, c⟩ := growD_tab
    rcases three hn with rfl | rfl | rfl
    · exact a
    · exact b
    · exact c
  have h3 := List.all_eq_true.1 (List.all_eq_true.1 (List.all_eq_true.1 h q (List.mem_range.2 (by omega))) v (List.mem_range.2 hv)) g (List.mem_range.2 hg)
  rw [Bool.or_eq_true] at h3
  rcases h3 with h3 | h3
  · have := eq_of_beq h3; omega
  · have h4 := List.all_eq_true.1 h3 i (List.mem_range.2 hi)
    rw [Bool.and_eq_true] at h4
    exact ⟨imp_of h4.1, imp_of (List.all_eq_true.1 h4.2 e (List.mem_range.2 he))⟩
theorem grow_a (hn : 2 ≤ n ∧ n ≤ 3) (hp : p ≤ n) (h1 : 1 ≤ g) (hg : g < 2 ^ n) (he : e < 2 ^ n) (hi : i < n) : anonWant n p g i = true → anonWant n p (g ||| e) i = true := by
  have h : growA n = true := by
    obtain ⟨a, b⟩ := growA_tab
    rcases two hn with rfl | rfl
    · exact a
    · exact b
  have h3 := List.all_eq_true.1 (List.all_eq_true.1 h p (List.mem_range.2 (by omega))) g (List.mem_range.2 hg)
  rw [Bool.or_eq_true] at h3
  rcases h3 with h3 | h3
  · have := eq_of_beq h3; omega
  · exact imp_of (List.all_eq_true.1 (List.all_eq_true.1 h3 e (List.mem_range.2 he)) i (List.mem_range.2 hi))
end
theorem box4 (w : World) (x y z t : Value) (T : Nat) : (w.alloc (.cells #[x, y, z, t] T)).cell? ⟨w.heap.size, 0, none⟩ = some x ∧ (w.alloc (.cells #[x, y, z, t] T)).cell? ⟨w.heap.size, 1, none⟩ = some y ∧ (w.alloc (.cells #[x, y, z, t] T)).cell? ⟨w.heap.size, 2, none⟩ = some z ∧ (w.alloc (.cells #[x, y, z, t] T)).cell? ⟨w.heap.size, 3, none⟩ = some t := ⟨by simp, by simp, by simp, by simp⟩
set_option maxRecDepth 20000 in
set_option maxHeartbeats 8000000 in
theorem topCoalitionsGrow_any (sz q0 q1 q2 q3 it : Nat) (_h1 : sz ≤ 255) (h2 : q0 ≤ 255) (h3 : q1 ≤ 255) (h4 : q2 ≤ 255) (h5 : q3 ≤ 255) (h6 : it ≤ 255) (w : World) (hT : Tab w) :
    Calls Tryz.prog 11 #[.int .u8 (sz : Int), .agg #[.int .u8 (q0 : Int), .int .u8 (q1 : Int), .int .u8 (q2 : Int), .int .u8 (q3 : Int)], .int .u8 (it : Int)] w fun e w' => e = .returned (.bool true) ∧ Ext w w' := by
  obtain ⟨r, hr⟩ : ∃ r, r = sz % 3 := ⟨_, rfl⟩
  have hr3 : r < 3 := by omega
  have hrI : (sz : Int) % 3 = (r : Int) := by omega
  obtain ⟨n, hnr⟩ : ∃ n, n = 2 + r := ⟨_, rfl⟩
  have hnI : 2 + (r : Int) = (n : Int) := by omega
  have HZ := Lib.hid (Sz.mk' n (by omega) (by omega))
  obtain ⟨a, ha⟩ : ∃ a, a = 2 ^ n - 1 := ⟨_, rfl⟩
  rw [← ha] at HZ
  have hn2 := HZ.out.n2
  have hn4 := HZ.out.n4
  have ha3 := HZ.out.lo
  have ha15 := HZ.out.hi
  have hpa := HZ.out.pw
  have h63 : n < 63 := by omega
  obtain ⟨hq1, hq2⟩ := pw_int hn4
  have haI : p2 n - 1 = (a : Int) := by unfold p2; omega
  have ha0 : ((a : Int) == 0) = false := by simp; omega
  have ha0' : ¬ ((a : Int) = 0) := by omega
  obtain ⟨v, hv⟩ : ∃ v, v = q0 &&& a := ⟨_, rfl⟩
  have hvI : bits .and .i64 (q0 : Int) (a : Int) = (v : Int) := by rw [hv]; exact and_nat q0 a (by omega) (by omega)
  have hva : v ≤ a := by rw [hv]; exact Nat.and_le_right
  obtain ⟨gm, hgm⟩ : ∃ gm, gm = q2 % a := ⟨_, rfl⟩
  have hgmI : (q2 : Int).tmod (a : Int) = (gm : Int) := by rw [hgm]; exact (Int.ofNat_tmod q2 a).symm
  have hgml : gm < a := by rw [hgm]; exact Nat.mod_lt _ (by omega)
  obtain ⟨g, hg⟩ : ∃ g, g = 1 + gm := ⟨_, rfl⟩
  have hgI : 1 + (gm : Int) = (g : Int) := by omega
  have hg1 : 1 ≤ g := by omega
  have hga : g ≤ a := by omega
  obtain ⟨e, he⟩ : ∃ e, e = q3 &&& a := ⟨_, rfl⟩
  have heI : bits .and .i64 (q3 : Int) (a : Int) = (e : Int) := by rw [he]; exact and_nat q3 a (by omega) (by omega)
  have hea : e ≤ a := by rw [he]; exact Nat.and_le_right
  obtain ⟨q, hq⟩ : ∃ q, q = q1 % (n + 1) := ⟨_, rfl⟩
  have hqI : (q1 : Int).tmod ((n : Int) + 1) = (q : Int) := by rw [hq]; exact (Int.ofNat_tmod q1 (n + 1)).symm
  have hqn : q ≤ n := by have := Nat.mod_lt q1 (show 0 < n + 1 by omega); omega
  have hn10 : ((n : Int) + 1 == 0) = false := by simp; omega
  have hn10' : ¬ ((n : Int) + 1 = 0) := by omega
  have hn0 : ((n : Int) == 0) = false := by simp; omega
  have hn0' : ¬ ((n : Int) = 0) := by omega
  obtain ⟨i, hi⟩ : ∃ i, i = it % n := ⟨_, rfl⟩
  have hiI : (it : Int).tmod (n : Int) = (i : Int) := by rw [hi]; exact (Int.ofNat_tmod it n).symm
  have hin : i < n := by rw [hi]; exact Nat.mod_lt _ (by omega)
  obtain ⟨p, hp⟩ : ∃ p, p = q0 % (n + 1) := ⟨_, rfl⟩
  have hpI : (q0 : Int).tmod ((n : Int) + 1) = (p : Int) := by rw [hp]; exact (Int.ofNat_tmod q0 (n + 1)).symm
  have hpn : p ≤ n := by have := Nat.mod_lt q0 (show 0 < n + 1 by omega); omega
  obtain ⟨c, hc⟩ : ∃ c, c = q1 % 2 ^ n := ⟨_, rfl⟩
  have hcI : (q1 : Int).tmod (p2 n) = (c : Int) := by rw [hc]; exact (Int.ofNat_tmod q1 (2 ^ n)).symm
  have hcn : c < 2 ^ n := by rw [hc]; exact Nat.mod_lt _ (by omega)
  have hp0 : (p2 n == 0) = false := by simp; omega
  have hp0' : ¬ (p2 n = 0) := by omega
  obtain ⟨h, hh⟩ : ∃ h, h = g ||| e := ⟨_, rfl⟩
  have hhI : bits .or .i64 (g : Int) (e : Int) = (h : Int) := by rw [hh]; exact or_nat g e (by omega) (by omega)
  have hgh : g ≤ h := by rw [hh]; exact Nat.left_le_or
  have hhn : h < 2 ^ n := by rw [hh]; exact Nat.or_lt_two_pow (by omega) (by omega)
  have hv2 : v < 2 ^ n := by omega
  have HL1 := Lib.hid (fun W hT => learns_is n v g i ⟨hn2, hn4⟩ hv2 hg1 (by omega) hin W hT)
  have HL2 := Lib.hid (fun W hT => learns_is n v h i ⟨hn2, hn4⟩ hv2 (by omega) hhn hin W hT)
  have HG1 := Lib.hid (fun W hT => guesses_is n v q g i ⟨hn2, hn4⟩ hv2 hqn hg1 (by omega) hin W hT)
  have HG2 := Lib.hid (fun W hT => guesses_is n v q h i ⟨hn2, hn4⟩ hv2 hqn (by omega) hhn hin W hT)
  have HR1 : Hid (n ≤ 3 → ∀ W, Tab W → Calls Tryz.prog 22 #[.int .i64 (n : Int), .int .i64 ((p : Int) - 1), .int .i64 (c : Int), .int .i64 (g : Int), .int .i64 (i : Int)] W fun e w' => RetP (.bool (anonWant n p g i)) 0 e W w') := Lib.hid (fun h3 W hT => traces_is n p c g i ⟨hn2, h3⟩ hpn hcn hg1 (by omega) hin W hT)
  have HR2 : Hid (n ≤ 3 → ∀ W, Tab W → Calls Tryz.prog 22 #[.int .i64 (n : Int), .int .i64 ((p : Int) - 1), .int .i64 (c : Int), .int .i64 (h : Int), .int .i64 (i : Int)] W fun e w' => RetP (.bool (anonWant n p h i)) 0 e W w') := Lib.hid (fun h3 W hT => traces_is n p c h i ⟨hn2, h3⟩ hpn hcn (by omega) hhn hin W hT)
  have h12 : tallyWant n v g i = true → tallyWant n v h i = true := by rw [hh]; exact grow_t ⟨hn2, hn4⟩ hv2 hg1 (by omega) (by omega) hin
  have h3x := grow_d ⟨hn2, hn4⟩ hqn hv2 hg1 (show g < 2 ^ n by omega) (show e < 2 ^ n by omega) hin
  have h56 : n ≤ 3 → anonWant n p g i = true → anonWant n p h i = true := fun h3 => by rw [hh]; exact grow_a ⟨hn2, h3⟩ hpn hg1 (by omega) (by omega) hin
  rw [← hh] at h3x
  generalize tallyWant n v g i = y1 at *
  generalize tallyWant n v h i = y2 at *
  generalize decWant n v q g i = y3 at *
  generalize decWant n v q h i = y4 at *
  generalize anonWant n p g i = y5 at *
  generalize anonWant n p h i = y6 at *
  have H56 := Lib.hid h56
  have hE0 : Ext w (w.alloc (.cells #[.int .u8 (q0 : Int), .int .u8 (q1 : Int), .int .u8 (q2 : Int), .int .u8 (q3 : Int)] 59)) := (Ext.refl w).alloc _
  have HBX : Hid (∀ w', Ext (w.alloc (.cells #[.int .u8 (q0 : Int), .int .u8 (q1 : Int), .int .u8 (q2 : Int), .int .u8 (q3 : Int)] 59)) w' → w'.cell? ⟨w.heap.size, 0, none⟩ = some (.int .u8 (q0 : Int)) ∧ w'.cell? ⟨w.heap.size, 1, none⟩ = some (.int .u8 (q1 : Int)) ∧ w'.cell? ⟨w.heap.size, 2, none⟩ = some (.int .u8 (q2 : Int)) ∧ w'.cell? ⟨w.heap.size, 3, none⟩ = some (.int .u8 (q3 : Int))) := Lib.hid fun w' e => ⟨e.cell (box4 w _ _ _ _ _).1, e.cell (box4 w _ _ _ _ _).2.1, e.cell (box4 w _ _ _ _ _).2.2.1, e.cell (box4 w _ _ _ _ _).2.2.2⟩
  have HE0 := Lib.hid hE0
  have HT := Lib.hid (hT.ext hE0)
  have HAW := Lib.hid (cAwake22_any _ (hT.ext hE0))
  obtain ⟨h31, h34⟩ := h3x
  have HOKS : Hid ((y1 = false ∨ y2 = true) ∧ (y3 = false ∨ y4 = true) ∧ (y3 = false ∨ y1 = true)) := Lib.hid ⟨or_of h12, or_of h34, or_of h31⟩
  clear hT hE0 h12 h31 h34 h56 hh hc hp hi hq hv he hgm hg ha hnr hr hpa HZ
  go_enter Tryz.func11, Tryz.ntmps11
  go_wp2_with fail
  refine HAW.out.mono ?_
  rintro _ w1 ⟨rfl, hE1⟩
  have HE1 := Lib.hid hE1
  obtain ⟨b0, b1, b2, b3⟩ := HBX.out w1 hE1
  have bl := World.block_lt_of_cell? _ _ b0
  clear hE1
  dsimp only
  go_wp2_with fail
  go_quiet (fail)
  have HEQ : Hid (Ext w (w1.drewN nq)) := Lib.hid (HE0.out.trans (HE1.out.drewN _))
  obtain ⟨k1, k2, k3⟩ := HOKS.out
  cases y1 <;> cases y2 <;> cases y3 <;> cases y4
  all_goals first | (exfalso; revert k1 k2 k3; simp; done) | skip
  all_goals
    clear k1 k2 k3
    go_wp2_with fail
    refine (HL1.out _ (HT.out.ext (HE1.out.drewN _))).mono ?_
    rintro _ w2 ⟨rfl, hE2⟩
    dsimp only
    go_wp2_with fail
    refine (HL2.out _ (HT.out.ext ((HE1.out.drewN _).trans hE2))).mono ?_
    rintro _ w3 ⟨rfl, hE3⟩
    dsimp only
    go_wp2_with fail
    refine (HG1.out _ (HT.out.ext (((HE1.out.drewN _).trans hE2).trans hE3))).mono ?_
    rintro _ w4 ⟨rfl, hE4⟩
    dsimp only
    go_wp2_with fail
    refine (HG2.out _ (HT.out.ext ((((HE1.out.drewN _).trans hE2).trans hE3).trans hE4))).mono ?_
    rintro _ w5 ⟨rfl, hE5⟩
    dsimp only
    have HE5 := Lib.hid (((((HE1.out.drewN nq).trans hE2).trans hE3).trans hE4).trans hE5)
    by_cases hn3 : n ≤ 3
    · have hd3 : decide ((3 : Int) < (n : Int)) = false := decide_eq_false (by omega)
      have hnl : ¬ 3 < n := by omega
      clear b0 b1 b2 b3 bl
      obtain ⟨b0, b1, b2, b3⟩ := HBX.out w5 HE5.out
      have bl := World.block_lt_of_cell? _ _ b0
      have h56 := H56.out hn3
      go_wp2_with fail
      go_quiet (fail)
      cases y5 <;> cases y6
      all_goals first | (exfalso; revert h56; simp; done) | skip
      all_goals
        go_wp2_with fail
        refine (HR1.out hn3 _ (HT.out.ext (HE5.out.drewN _))).mono ?_
        rintro _ w6 ⟨rfl, hE6⟩
        dsimp only
        go_wp2_with fail
        refine (HR2.out hn3 _ (HT.out.ext ((HE5.out.drewN _).trans hE6))).mono ?_
        rintro _ w7 ⟨rfl, hE7⟩
        dsimp only
        go_wp2_with fail
        go_ret
        exact ⟨rfl, HE0.out.trans (((HE5.out.drewN _).trans hE6).trans hE7)⟩
    · have hd3 : decide ((3 : Int) < (n : Int)) = true := decide_eq_true (by omega)
      have hnl : 3 < n := by omega
      go_wp2_with fail
      go_ret
      exact ⟨rfl, HE0.out.trans HE5.out⟩
theorem topCoalitionsGrow_int (s q0 q1 q2 q3 i : Int) (bs : 0 ≤ s ∧ s ≤ 255) (bq0 : 0 ≤ q0 ∧ q0 ≤ 255) (bq1 : 0 ≤ q1 ∧ q1 ≤ 255) (bq2 : 0 ≤ q2 ∧ q2 ≤ 255) (bq3 : 0 ≤ q3 ∧ q3 ≤ 255) (bi : 0 ≤ i ∧ i ≤ 255) (w : World) (hT : Tab w) :
    Calls Tryz.prog 11 #[.int .u8 s, .agg #[.int .u8 q0, .int .u8 q1, .int .u8 q2, .int .u8 q3], .int .u8 i] w fun e w' => e = .returned (.bool true) ∧ Ext w w' := by
  obtain ⟨s, rfl⟩ := Int.eq_ofNat_of_zero_le bs.1
  obtain ⟨q0, rfl⟩ := Int.eq_ofNat_of_zero_le bq0.1
  obtain ⟨q1, rfl⟩ := Int.eq_ofNat_of_zero_le bq1.1
  obtain ⟨q2, rfl⟩ := Int.eq_ofNat_of_zero_le bq2.1
  obtain ⟨q3, rfl⟩ := Int.eq_ofNat_of_zero_le bq3.1
  obtain ⟨i, rfl⟩ := Int.eq_ofNat_of_zero_le bi.1
  exact topCoalitionsGrow_any s q0 q1 q2 q3 i (by omega) (by omega) (by omega) (by omega) (by omega) (by omega) w hT
end Wt

/- The law TopCoalitionsGrow returns true at every input, and its arguments read behind the call as they did before. the tied card: the library's table of TrailingZeros64 lies as the program's text lays it. -/
namespace Go.Proofs.YtflnfcmbalhpnaaGreatDoor
open Go.ChangeShapes Go.WideShapes Go.ChangeAt Go.WideMaps Go.WideElems Go.RowKit

theorem own : ownKnob Tryz.prog.godebug = none := by kernel_rfl
theorem laidOut : laidOutB Tryz.prog = true := by kernel_rfl
theorem okWide_arr {P : Program} {w : World} {r : Reach} {base : Nat} {t e : TypeId} {n : Nat} {v : Value} (ht : P.underlying t = some (.array n e)) (h : Value.okWide P w r base t v) : ∃ cs, v = .agg cs := by
  unfold Value.okWide at h
  rw [ht] at h
  obtain ⟨cs, h1, _⟩ := h
  exact ⟨cs, h1⟩
set_option maxRecDepth 100000 in
theorem open_uint84 {H : Type} {enc : TypeId × Value → H} {w : World} {v : Value} {d : DataW H} {p : List MemPlace} {r : Reach} {b0 : Nat} (hval : Value.okWide Tryz.prog w r b0 59 v) (h : DataW.Trod enc Tryz.prog w 0 (fun _ => true) true 59 v d p) :
    ∃ z0 z1 z2 z3 : Int, v = .agg #[.int .u8 z0, .int .u8 z1, .int .u8 z2, .int .u8 z3] ∧ (0 ≤ z0 ∧ z0 ≤ 255) ∧ (0 ≤ z1 ∧ z1 ≤ 255) ∧ (0 ≤ z2 ∧ z2 ≤ 255) ∧ (0 ≤ z3 ∧ z3 ≤ 255) := by
  have hc0 : Tryz.prog.cellsOf 5 = 1 := by kernel_rfl
  have hc3 : Tryz.prog.cellsOf 59 = 4 := by kernel_rfl
  obtain ⟨cs, rfl⟩ := okWide_arr Tryz.underlying59 hval
  obtain ⟨fuel, h⟩ := h
  obtain ⟨xs, m, _, _, hl, hxl, hi⟩ := DataW.trod_array Tryz.underlying59 h
  rw [hc3] at hl
  match xs, hxl with
  | [y0, y1, y2, y3], _ =>
    have u0 := hi 0 (by omega)
    have u1 := hi 1 (by omega)
    have u2 := hi 2 (by omega)
    have u3 := hi 3 (by omega)
    simp only [hc0, List.getElem?_cons_zero, List.getElem?_cons_succ] at u0 u1 u2 u3
    obtain ⟨z0, hi0, _, w0⟩ := DataW.trod_int Tryz.underlying5 u0
    obtain ⟨z1, hi1, _, w1⟩ := DataW.trod_int Tryz.underlying5 u1
    obtain ⟨z2, hi2, _, w2⟩ := DataW.trod_int Tryz.underlying5 u2
    obtain ⟨z3, hi3, _, w3⟩ := DataW.trod_int Tryz.underlying5 u3
    have hcl : (Value.agg cs).cells.toList = [.int .u8 z0, .int .u8 z1, .int .u8 z2, .int .u8 z3] := by
      generalize (Value.agg cs).cells.toList = L at hl hi0 hi1 hi2 hi3
      match L, hl with
      | [c0, c1, c2, c3], _ =>
        simp at hi0 hi1 hi2 hi3
        rw [hi0, hi1, hi2, hi3]
    have e2 : cs.toList = [.int .u8 z0, .int .u8 z1, .int .u8 z2, .int .u8 z3] := hcl
    have e3 : cs = #[.int .u8 z0, .int .u8 z1, .int .u8 z2, .int .u8 z3] := by
      apply Array.ext'
      rw [e2]
    have b0 := w0
    have b1 := w1
    have b2 := w2
    have b3 := w3
    simp [Lit.wf, IntKind.min, IntKind.max, IntKind.signed, IntKind.bits] at b0 b1 b2 b3
    exact ⟨z0, z1, z2, z3, by rw [e3], b0, b1, b2, b3⟩
theorem door_met (os : Os) (args : Array Value) : laidMetH Tryz.prog [("math/bits.deBruijn64tab", Rows.laid_math_bits_deBruijn64tab)] ((World.doorLaid Tryz.prog 400 os).forCall (fun _ _ => 0) ⟨#[], args, []⟩).memory := by
  rw [MakeChecks.laidMetH_plain _ _ _ (by kernel_rfl)]
  exact laidMet_of_run' 8 (by kernel_rfl) (by kernel_rfl)
set_option maxRecDepth 100000 in
set_option maxHeartbeats 1000000 in
theorem law_lifted (os : Os) (started : os.Started) (H : Type) (enc : TypeId × Value → H) :
    ReturnsInHanded {} Tryz.checked os 11 .any (fun w args => (Rows.topCoalitionsGrowSpec.pre enc Tryz.prog Tryz.f11 Rows.topCoalitionsGrowRow.domain false w args ∧ laidMetH Tryz.prog [("math/bits.deBruijn64tab", Rows.laid_math_bits_deBruijn64tab)] w) ∧ sizedMet enc Tryz.prog Tryz.f11 (OpenSpec.ofChange Rows.topCoalitionsGrowSpec) false w args)
      (Rows.topCoalitionsGrowSpec.post enc Tryz.prog Tryz.f11 false true false false) := by
  refine returnsInHanded_of_change_and (C := Tryz.checked) (X := fun w _ => laidMetH Tryz.prog [("math/bits.deBruijn64tab", Rows.laid_math_bits_deBruijn64tab)] w) (fun _ _ _ hh h => h.of_heap hh) own started (by kernel_rfl) Tryz.func11
    (ChangeSpec.witness_shaped (enc := enc) (C := Tryz.checked) (os := os) (X := fun w _ => laidMetH Tryz.prog [("math/bits.deBruijn64tab", Rows.laid_math_bits_deBruijn64tab)] w) false (World.doorLaid Tryz.prog 400 os) #[.int .u8 0, .agg #[.int .u8 0, .int .u8 0, .int .u8 0, .int .u8 0], .int .u8 0] 8 rfl (World.shaped_of_RefB (by kernel_rfl) (by kernel_rfl)) (by kernel_rfl) (by kernel_rfl) (by kernel_rfl) (door_met os _)) ?_
  intro W base args ds gs before hval0 hW _ hsz0 hL _
  have hT := of_laid hL
  have hval : ∀ (j : Nat) t v, Tryz.f11.params[j]? = some t → args[j]? = some v → Value.okWide Tryz.prog W .any base t v := hval0
  have hsz : (DataW.weightsEach Tryz.prog (Tryz.f11.params.toList ++ Rows.topCoalitionsGrowSpec.plain.varTypes Tryz.prog) (ds ++ gs)).all (· ≤ reachBytes) = true := hsz0
  have hW' := hW
  obtain ⟨p, q, hA0, hV, rfl, hfz, hnd⟩ := hW
  have hA : DataW.TrodAll enc Tryz.prog W 0 (fun _ => true) true Tryz.f11.params.toList args.toList ds p := hA0
  rw [Tryz.params11] at hA hval hsz
  obtain ⟨v0, v1, v2, d0, d1, d2, p0, p1, p2, rfl, rfl, rfl, h0, h1, h2⟩ := trodAll_three hA
  obtain ⟨rfl, rfl⟩ := trodVars_none hV
  have hv0 : Rows.topCoalitionsGrowSpec.plain.varTypes Tryz.prog = [] := rfl
  rw [hv0] at hsz
  have hz : ∀ n ∈ DataW.weightsEach Tryz.prog [5, 59, 5] [d0, d1, d2], n ≤ reachBytes := fun n hn => by
    have := List.all_eq_true.1 hsz n (by simpa using hn)
    simpa using this
  have k0 := h0
  have k1 := h1
  have k2 := h2
  obtain ⟨s, rfl, rfl, rfl, ws⟩ := open_int Tryz.underlying5 (hval 0 5 v0 rfl rfl) h0
  have bs := ws
  simp [Lit.wf, IntKind.min, IntKind.max, IntKind.signed, IntKind.bits] at bs
  obtain ⟨q0, q1, q2, q3, rfl, bq0, bq1, bq2, bq3⟩ := open_uint84 (hval 1 59 v1 rfl rfl) h1
  obtain ⟨i, rfl, rfl, rfl, wi⟩ := open_int Tryz.underlying5 (hval 2 5 v2 rfl rfl) h2
  have bi := wi
  simp [Lit.wf, IntKind.min, IntKind.max, IntKind.signed, IntKind.bits] at bi
  have hl1 : ∀ y ∈ p1, y.block < W.heap.size := fun y hy => by simpa using hW'.lt y (by simp [hy])
  refine (Wt.topCoalitionsGrow_int s q0 q1 q2 q3 i bs bq0 bq1 bq2 bq3 bi W hT).mono fun e W' he => ?_
  obtain ⟨rfl, hE⟩ := he
  have bel : Below W.heap.size W W' := hE
  refine ⟨_, rfl, ⟨_, _, _, [], [] ++ (p1 ++ ([])), [], hW', trodAll_mk1 (shut_bool Tryz.underlying4 true), trodAll_mk3 (shut_int Tryz.underlying5 ws) (Below.trod laidOut (by kernel_rfl) (of_decide_eq_true (by kernel_rfl)) k1 bel hl1) (shut_int Tryz.underlying5 wi), rfl, bel.frame _, fun h => by cases h⟩⟩
theorem topCoalitionsGrow_holds : Rows.TopCoalitionsGrowSaid :=
  OpenClaim.holds_of_wide 11 Tryz.f11 rfl rfl rfl rfl rfl rfl rfl ⟨rfl, rfl, rfl, rfl, rfl⟩ rfl rfl rfl rfl rfl (by kernel_rfl) Tryz.func11 (by kernel_rfl)
    (of_decide_eq_true (by kernel_rfl)) (by unfold Func.isWrapper; first | (rw [if_pos (by decide +kernel)]; kernel_rfl) | (rw [if_neg (by decide +kernel)]; exact ⟨rfl, rfl⟩))
    (fun os started H enc _ => law_lifted os started H enc)
theorem topCoalitionsGrow_card_holds : Rows.TopCoalitionsGrowCardSaid :=
  Claim7.holds_tied_plain_at .later [] [.data] true Rows.topCoalitionsGrowCard.stood.harness false
    topCoalitionsGrow_holds (fun _ h => by cases h) (by kernel_rfl) (fun _ h => by cases h) topCoalitionsGrow_row_tie rfl ⟨rfl, rfl⟩ (by kernel_rfl) rfl
    (fun f fn hf hfn => by
      obtain rfl : f = 11 := Option.some.inj ((show Tryz.prog.funcNamed "witting/wittingtop.TopCoalitionsGrow" = some 11 by kernel_rfl).symm.trans hf) |>.symm
      obtain rfl : fn = Tryz.f11 := (Option.some.inj (Tryz.func11.symm.trans hfn)).symm
      exact ⟨by kernel_rfl, fun j t ht => by
        rw [Tryz.params11] at ht
        have hm : t ∈ [5, 59, 5] := by simpa using Array.mem_of_getElem? ht
        have hall : ([5, 59, 5].all fun u => !Tryz.prog.wantsStandIn u) = true := by kernel_rfl
        exact (show Tryz.prog.wantsStandIn t = false by simpa using List.all_eq_true.1 hall t hm)⟩)
    (by kernel_rfl)
#print axioms topCoalitionsGrow_card_holds
end Go.Proofs.YtflnfcmbalhpnaaGreatDoor
