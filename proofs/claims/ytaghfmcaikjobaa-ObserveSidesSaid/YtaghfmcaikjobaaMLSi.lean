/- The walk of ObserveSides (printed by gen_si.py). -/
import Derived.Test.YtaghfmcaikjobaaMOfC
import Derived.Test.YtaghfmcaikjobaaMOfE
import Derived.Test.YtaghfmcaikjobaaMOfF
import Derived.Test.YtaghfmcaikjobaaMOdC
import Derived.Test.YtaghfmcaikjobaaMCkC
namespace Wt
open Go Go.RowKit Go.Maps Go.Proofs Fm

/-- What the law asks of the product. -/
structure SiOk (A M : Mo) (l : List (Nat × Nat)) (f : List Nd) : Prop where
  req : reqErr M f = 0
  w : M.worlds = (l.length : Int)
  m : l.length ≤ 64
  lt : ∀ i, i < l.length → ((nth l i).1 : Int) < A.worlds ∧ (nth l i).1 < 64
  eq : ∀ i, i < l.length → bt (holdsOf M f) i = bt (holdsOf A f) (nth l i).1
theorem si_ok {A B : Mo} {f : List Nd} (h : prErr A B = 0) (hq : reqErr A f = 0) (he : ∀ q, q < A.rel.length → eqvB (nth B.rel q) = true) : SiOk A (prM A B) (prL A B) f := by
  obtain ⟨N, m, okA, okB, hr, hw, hv⟩ := prErr_ok h
  obtain ⟨s1, s2⟩ := sides_law okA okB h he hq
  have hl := prL_eq okA okB h
  have hM := prM_eq okA okB h
  have hll : (prL A B).length = N * m := by rw [hl, pairL_len]
  refine ⟨s1, by rw [hM, hll], by rw [hll]; exact hw, fun i hi => ?_, fun i hi => ?_⟩
  · rw [hll] at hi
    have h2 := (pairL_snd (N := N) (m := m) hi).2
    have h64 := okA.most
    rw [hl, okA.worlds]; omega
  · rw [hll] at hi
    rw [s2 i hi, hl, pairL_nth hi]
set_option maxRecDepth 20000 in
set_option maxHeartbeats 8000000 in
theorem observeSides_any (A B : Mo) (va ra vb rb : Option Addr) (vc rc vd rd : Nat) (fa : Option Addr) (fc : Nat) (f : List Nd) (w : World) (hA : RM w va ra A) (hB : RM w vb rb B) (hf : RN w fa f) :
    Calls Try.prog 6 #[.agg #[.int .i64 A.worlds, .slice va A.val.length vc, .slice ra A.rel.length rc], .agg #[.int .i64 B.worlds, .slice vb B.val.length vd, .slice rb B.rel.length rd], .slice fa f.length fc] w fun e w' => e = .returned (.bool true) ∧ Ext w w' := by
  have hE0 : Ext w ((w.alloc (.cells #[.int .i64 A.worlds, .slice va A.val.length vc, .slice ra A.rel.length rc] 29)).alloc (.cells #[.int .i64 B.worlds, .slice vb B.val.length vd, .slice rb B.rel.length rd] 29)) := ((Ext.refl w).alloc _).alloc _
  have hb1 := (MoBox.new w A.worlds A.val A.rel va vc ra rc 29).ext ((Ext.refl _).alloc (.cells #[.int .i64 B.worlds, .slice vb B.val.length vd, .slice rb B.rel.length rd] 29))
  have hb2 := MoBox.new (w.alloc (.cells #[.int .i64 A.worlds, .slice va A.val.length vc, .slice ra A.rel.length rc] 29)) B.worlds B.val B.rel vb vd rb rd 29
  rw [show (w.alloc (.cells #[.int .i64 A.worlds, .slice va A.val.length vc, .slice ra A.rel.length rc] 29)).heap.size = w.heap.size + 1 by simp] at hb2
  have HA := Lib.hid (hA.ext hE0)
  have HB := Lib.hid (hB.ext hE0)
  have HF := Lib.hid (hf.ext hE0)
  have HE := Lib.hid hE0
  have HBX := Lib.hid hb1
  have HBY := Lib.hid hb2
  have H1 : Hid (∀ w, RM w va ra A → RM w vb rb B → Calls Try.prog 22 #[.agg #[.int .i64 A.worlds, .slice va A.val.length vc, .slice ra A.rel.length rc], .agg #[.int .i64 B.worlds, .slice vb B.val.length vd, .slice rb B.rel.length rd]] w fun e w' => RetPr (prM A B) (prL A B) (prErr A B) e w w') := Lib.hid fun w h h2 => oproduct_any A B va ra vb rb vc rc vd rd w h h2
  have H2 : Hid (∀ w, RM w va ra A → RN w fa f → Calls Try.prog 25 #[.agg #[.int .i64 A.worlds, .slice va A.val.length vc, .slice ra A.rel.length rc], .slice fa f.length fc] w fun e w' => RetP (.int .u64 (un (holdsOf A f))) (reqErr A f) e w w') := Lib.hid fun w h h2 => holds_any A va ra vc rc fa fc f w h h2
  have HSI : Hid (prErr A B = 0 → reqErr A f = 0 → (∀ q, q < A.rel.length → eqvB (nth B.rel q) = true) → SiOk A (prM A B) (prL A B) f) := Lib.hid si_ok
  have HRL : Hid (prErr A B = 0 → A.rel.length = B.rel.length ∧ A.rel.length ≤ 4) := Lib.hid fun h => by
    obtain ⟨N, m, okA, okB, hr, hw, hv⟩ := prErr_ok h
    exact ⟨hr, okA.rel⟩
  have hfl := hf.len
  generalize prM A B = M at *
  generalize prL A B = L at *
  generalize prErr A B = c at *
  generalize hsa : holdsOf A f = SA at *
  have HSA := Lib.hid hsa
  generalize hqe : reqErr A f = q at *
  clear hA hB hf hE0 hb1 hb2 hqe hsa
  go_enter Try.func6, Try.ntmps6
  obtain ⟨m0, m1, m2⟩ := HBX.out
  dsimp only at m0 m1 m2
  have hlm := World.block_lt_of_cell? _ _ m0
  dsimp only at hlm
  go_wp2_with fail
  clear m0 m1 m2 hlm
  generalize (w.alloc (.cells #[.int .i64 A.worlds, .slice va A.val.length vc, .slice ra A.rel.length rc] 29)).alloc (.cells #[.int .i64 B.worlds, .slice vb B.val.length vd, .slice rb B.rel.length rd] 29) = W0 at *
  refine (r13Few_any A va ra vc rc 8 _ HA.out).mono ?_
  rintro _ w1 ⟨b1, rfl, hE1⟩
  dsimp only
  cases b1
  · go_wp2_with fail
    refine (awake22_any _).mono ?_
    rintro _ wA ⟨rfl, hEA⟩
    dsimp only
    go_wp2_with fail
    go_ret
    exact ⟨rfl, HE.out.trans (hE1.trans hEA)⟩
  obtain ⟨n0, n1, n2⟩ := HBY.out.ext hE1
  dsimp only at n0 n1 n2
  have hln := World.block_lt_of_cell? _ _ n0
  dsimp only at hln
  go_wp2_with fail
  clear n0 n1 n2 hln
  refine (r13Few_any B vb rb vd rd 8 _ (HB.out.ext4 hE1)).mono ?_
  rintro _ w2 ⟨b2, rfl, hE2⟩
  dsimp only
  have hX2 := hE1.trans hE2
  cases b2
  · go_wp2_with fail
    refine (awake22_any _).mono ?_
    rintro _ wA ⟨rfl, hEA⟩
    dsimp only
    go_wp2_with fail
    go_ret
    exact ⟨rfl, HE.out.trans (hX2.trans hEA)⟩
  by_cases h20 : f.length ≤ 20
  rotate_left
  · have hd : decide ((20 : Int) < f.length) = true := decide_eq_true (by omega)
    clear h20
    go_wp2_with fail
    refine (awake22_any _).mono ?_
    rintro _ wA ⟨rfl, hEA⟩
    dsimp only
    go_wp2_with fail
    go_ret
    exact ⟨rfl, HE.out.trans (hX2.trans hEA)⟩
  have hd : decide ((20 : Int) < f.length) = false := decide_eq_false (by omega)
  clear h20
  obtain ⟨m0, m1, m2⟩ := HBX.out.ext hX2
  dsimp only at m0 m1 m2
  have hlm := World.block_lt_of_cell? _ _ m0
  dsimp only at hlm
  obtain ⟨n0, n1, n2⟩ := HBY.out.ext hX2
  dsimp only at n0 n1 n2
  have hln := World.block_lt_of_cell? _ _ n0
  dsimp only at hln
  go_wp2_with fail
  clear m0 m1 m2 n0 n1 n2 hlm hln hd
  refine (H1.out _ (HA.out.ext4 hX2) (HB.out.ext4 hX2)).mono ?_
  rintro _ w5 ⟨va5, ra5, la5, vc5, rc5, lc5, rfl, hm5, hp5, hE5⟩
  dsimp only
  have hA5 : Ext w5 (w5.alloc (.cells #[.int .i64 M.worlds, .slice va5 M.val.length vc5, .slice ra5 M.rel.length rc5] 29)) := (Ext.refl _).alloc _
  have HB5 := Lib.hid (OutAt.new w5 (.int .i64 M.worlds) (.slice va5 M.val.length vc5) (.slice ra5 M.rel.length rc5) 29)
  have HM5 := Lib.hid (hm5.ext4 hA5)
  have HP5 := Lib.hid (hp5.ext hA5)
  have hX5 := hX2.trans (hE5.trans hA5)
  have hpl := hp5.len
  clear hm5 hp5
  obtain ⟨m0, m1, m2⟩ := HBX.out.ext hX5
  dsimp only at m0 m1 m2
  have hlm := World.block_lt_of_cell? _ _ m0
  dsimp only at hlm
  go_wp2_with fail
  clear m0 m1 m2 hlm
  generalize w5.alloc (.cells #[.int .i64 M.worlds, .slice va5 M.val.length vc5, .slice ra5 M.rel.length rc5] 29) = w6 at *
  refine (H2.out _ (HA.out.ext4 hX5) (HF.out.ext hX5)).mono ?_
  rintro _ w7 ⟨rfl, hE7⟩
  dsimp only
  have hX7 := hX5.trans hE7
  by_cases hcq : c = 0 ∧ q = 0
  rotate_left
  · have hdd : ((c != 0) || (q != 0)) = true := by
      by_cases h0 : c = 0
      · have : q ≠ 0 := fun h => hcq ⟨h0, h⟩
        simp [this]
      · simp [h0]
    clear hcq
    cases e1 : (c != 0) <;> cases e2 : (q != 0)
    all_goals rw [e1, e2] at hdd
    case false.false => cases hdd
    all_goals
      clear hdd
      go_wp2_with fail
      refine (awake22_any _).mono ?_
      rintro _ wA ⟨rfl, hEA⟩
      dsimp only
      go_wp2_with fail
      go_ret
      exact ⟨rfl, HE.out.trans (hX7.trans hEA)⟩
  obtain ⟨rfl, rfl⟩ := hcq
  have HSI2 := Lib.hid (HSI.out rfl rfl)
  obtain ⟨hrl, hr4⟩ := HRL.out rfl
  have HRL2 := Lib.hid hrl
  have HX7 := Lib.hid hX7
  clear HSI HRL hrl
  obtain ⟨m0, m1, m2⟩ := HBX.out.ext hX7
  dsimp only at m0 m1 m2
  have hlm := World.block_lt_of_cell? _ _ m0
  dsimp only at hlm
  go_wp2_with fail
  clear m0 m1 m2 hlm
  go_loopw [54] (fun i wr => ∃ k : Nat, k ≤ A.rel.length ∧ i = .int .i64 (k : Int) ∧ Ext w7 wr ∧ Hid (∀ q, q < k → eqvB (nth B.rel q) = true)) (fun i _ => A.rel.length - (intOf i).toNat)
  case atStart => exact ⟨0, Nat.zero_le _, rfl, Ext.refl _, Lib.hid fun j hj => absurd hj (Nat.not_lt_zero _)⟩
  case round =>
    obtain ⟨k, hk, rfl, hEr, hok⟩ := hrel
    have HER := Lib.hid hEr
    have HXr := Lib.hid (HX7.out.trans hEr)
    by_cases hkl : k < A.rel.length
    · have hkB : k < B.rel.length := by have := HRL2.out; omega
      have hkI : (k : Int) < (A.rel.length : Int) := by omega
      have hkJ : (k : Int) < (B.rel.length : Int) := by omega
      have hge : decide ((B.rel.length : Int) ≤ (k : Int)) = false := decide_eq_false (by omega)
      obtain ⟨b, off, a', c', hra, hb, hcr, hu⟩ := ((HA.out.ext4 HXr.out).rel).get (k := k) hkl
      obtain ⟨b2, off2, a2', c2', hrb, hb2, hcm, hum⟩ := ((HB.out.ext4 HXr.out).rel).get (k := k) hkB
      subst hra hrb
      have HUM := Lib.hid hum
      have HCM := Lib.hid hcm
      obtain ⟨m0, m1, m2⟩ := HBX.out.ext HXr.out
      dsimp only at m0 m1 m2
      have hlm := World.block_lt_of_cell? _ _ m0
      dsimp only at hlm
      clear hum hcm hb2 hEr
      go_wp2_with fail
      clear m0 m1 m2 hlm hcr hb
      refine (equivalence22_any _ _ _ _ hu).mono ?_
      rintro _ w8 ⟨rfl, hQ8⟩
      dsimp only
      have hX8 := HXr.out.trans hQ8.ext
      cases he : eqvB (nth A.rel k)
      · go_wp2_with fail
        refine (awake22_any _).mono ?_
        rintro _ wA ⟨rfl, hEA⟩
        dsimp only
        go_wp2_with fail
        go_ret
        exact ⟨rfl, HE.out.trans (hX8.trans hEA)⟩
      obtain ⟨n0, n1, n2⟩ := HBY.out.ext hX8
      dsimp only at n0 n1 n2
      have hln := World.block_lt_of_cell? _ _ n0
      dsimp only at hln
      have hcm := hQ8.ext.cell HCM.out
      have hb2 : b2 < w8.heap.size := World.block_lt_of_cell? _ _ hcm
      go_wp2_with fail
      clear n0 n1 n2 hln hcm hb2
      refine (equivalence22_any _ _ _ _ (HUM.out.ext hQ8.ext)).mono ?_
      rintro _ w9 ⟨rfl, hQ9⟩
      dsimp only
      have hX9 := hX8.trans hQ9.ext
      cases he2 : eqvB (nth B.rel k)
      · go_wp2_with fail
        refine (awake22_any _).mono ?_
        rintro _ wA ⟨rfl, hEA⟩
        dsimp only
        go_wp2_with fail
        go_ret
        exact ⟨rfl, HE.out.trans (hX9.trans hEA)⟩
      have HOK := Lib.hid (lt_step (P := fun q => eqvB (nth B.rel q) = true) hok.out he2)
      go_wp2
      go_roundw
      case rel => exact ⟨k + 1, hkl, by go_num, HER.out.trans (hQ8.ext.trans hQ9.ext), HOK⟩
      case measure => simp [intOf]; omega
    · obtain rfl : k = A.rel.length := by omega
      obtain ⟨s1, s2, s3, s4, s5⟩ := HSI2.out hok.out
      have HS4 := Lib.hid s4
      rw [HSA.out] at s5
      have HS5 := Lib.hid s5
      have hll : ((L.length : Int) != M.worlds) = false := by rw [s2]; simp
      have HH := Lib.hid (holds_any M va5 ra5 vc5 rc5 fa fc f wr (HM5.out.ext4 (hE7.trans HER.out)) (HF.out.ext HXr.out))
      rw [s1] at HH
      generalize holdsOf M f = SM at *
      obtain ⟨n0, n1, n2, -⟩ := HB5.out.ext (hE7.trans HER.out)
      have hln : w5.heap.size < wr.heap.size := World.block_lt_of_cell? _ _ n0
      clear s1 s2 s4 s5 hEr
      rename World => w9
      go_wp2_with fail
      clear n0 n1 n2 hln
      refine HH.out.mono ?_
      rintro _ w10 ⟨rfl, hE10⟩
      dsimp only
      obtain ⟨n0, n1, n2, -⟩ := HB5.out.ext (hE7.trans (HER.out.trans hE10))
      have hln : w5.heap.size < w10.heap.size := World.block_lt_of_cell? _ _ n0
      have HP10 := Lib.hid (HP5.out.ext (hE7.trans (HER.out.trans hE10)))
      have HX10 := Lib.hid (HXr.out.trans hE10)
      go_wp2_with fail
      clear n0 n1 n2 hln hll
      go_loopw [99] (fun i wq => ∃ j : Nat, j ≤ L.length ∧ i = .int .i64 (j : Int) ∧ Ext w10 wq) (fun i _ => L.length - (intOf i).toNat)
      case atStart => exact ⟨0, Nat.zero_le _, rfl, Ext.refl _⟩
      case round =>
        rename World => wq
        obtain ⟨j, hj, rfl, hEq⟩ := hrel
        have HEQ := Lib.hid hEq
        by_cases hjl : j < L.length
        · obtain ⟨b, off, hla, hb, hc, hd⟩ := (HP10.out.ext hEq).get (k := j) hjl
          subst hla
          obtain ⟨hlt, hp64⟩ := HS4.out j hjl
          have heq := HS5.out j hjl
          generalize (nth L j).1 = p0 at *
          generalize (nth L j).2 = p1 at *
          have hbb : (bt SM j != bt SA p0) = false := by rw [heq]; simp
          have hbb2 : (bt SM j == bt SA p0) = true := by rw [heq]; simp
          have hd1 : decide ((p0 : Int) < 0) = false := by simp
          have hd2 : decide (A.worlds ≤ (p0 : Int)) = false := decide_eq_false (by omega)
          have hjI : (j : Int) < (L.length : Int) := by omega
          obtain ⟨m0, m1, m2⟩ := HBX.out.ext (HX10.out.trans hEq)
          dsimp only at m0 m1 m2
          have hlm := World.block_lt_of_cell? _ _ m0
          dsimp only at hlm
          have hAq : Ext wq (wq.alloc (.cells #[.int .i64 (p0 : Int), .int .i64 (p1 : Int)] 53)) := (Ext.refl _).alloc _
          clear heq hlt hEq
          go_wp2
          go_roundw
          case rel => exact ⟨j + 1, hjl, by go_num, HEQ.out.trans hAq⟩
          case measure => simp [intOf]; omega
        · obtain rfl : j = L.length := by omega
          go_wp2_with fail
          refine (awake22_any _).mono ?_
          rintro _ wA ⟨rfl, hEA⟩
          dsimp only
          go_wp2_with fail
          go_ret
          exact ⟨rfl, HE.out.trans (HX10.out.trans (HEQ.out.trans hEA))⟩
end Wt
