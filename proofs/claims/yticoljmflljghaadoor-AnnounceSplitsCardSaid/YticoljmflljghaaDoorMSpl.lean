/- The walk of AnnounceSplits. -/
import Derived.Test.YticoljmflljghaaDoorMAwk
import Derived.Test.YticoljmflljghaaDoorMSam
import Derived.Test.YticoljmflljghaaDoorRows
import Derived.Test.YticoljmflljghaaDoorCards
import Derived.Test.YticoljmflljghaaDoorTie
import Derived.Test.YticoljmflljghaaDoorMCkC
import Derived.Test.YticoljmflljghaaDoorMTz
import Derived.ProofKit
import Derived.LaidMore
import Derived.SizedLaws
import Derived.SevenTiedAt
namespace Wt
open Go Go.RowKit Go.Maps Go.Proofs Fm

theorem whE_law (s x : BitVec 64) (w : Nat) : (whE s w x &&& ~~~ s = 0#64 ∨ whE s w x &&& s = 0#64) ∧ whE s w x &&& ~~~ x = 0#64 := by
  unfold whE
  cases bt s w
  · rw [if_neg (by simp)]
    refine ⟨.inr (bt_ext fun k hk => ?_), bt_ext fun k hk => ?_⟩
    · simp only [bt_and, bt_not, bt_zero]; cases bt s k <;> cases bt x k <;> simp
    · simp only [bt_and, bt_not, bt_zero]; cases bt s k <;> cases bt x k <;> simp
  · rw [if_pos rfl]
    refine ⟨.inl (bt_ext fun k hk => ?_), bt_ext fun k hk => ?_⟩
    · simp only [bt_and, bt_not, bt_zero]; cases bt s k <;> cases bt x k <;> simp
    · simp only [bt_and, bt_not, bt_zero]; cases bt s k <;> cases bt x k <;> simp
theorem whM_eq {M : Mo} {f : List Nd} (h : reqErr M f = 0) : whM M f = ⟨M.worlds, M.val, M.rel.map (whRow (holdsOf M f))⟩ := if_neg (by simp [h])
theorem whRow_nth (s : BitVec 64) (r : List (BitVec 64)) {w : Nat} (h : w < r.length) : nth (whRow s r) w = whE s w (nth r w) := by
  unfold whRow whE
  rw [nth_mapN _ _ (by simpa using h), nth_range h]
theorem sub_of_zero {x y : BitVec 64} {s : BitVec 64} (h : y &&& ~~~ x = 0#64) (h2 : Sub x s) : Sub y s := (andNot_zero.1 h).trans h2
theorem wh_ok {M : Mo} {N : Nat} (ok : MoOk M N) {f : List Nd} (h : reqErr M f = 0) : MoOk (whM M f) N := by
  rw [whM_eq h]
  refine ⟨ok.worlds, ok.one, ok.most, by simpa using ok.rel, ok.val, fun r hr => ?_, ok.valIn, fun r hr s hs => ?_⟩
  · simp only [List.mem_map] at hr
    obtain ⟨r0, h0, rfl⟩ := hr
    rw [← ok.row r0 h0]; simp [whRow]
  · simp only [List.mem_map] at hr
    obtain ⟨r0, h0, rfl⟩ := hr
    obtain ⟨k, hk, rfl⟩ := mem_nth hs
    have hk : k < r0.length := by simpa [whRow] using hk
    rw [whRow_nth _ _ hk]
    exact andNot_zero.2 (sub_of_zero (whE_law _ _ _).2 (andNot_zero.1 (ok.relIn r0 h0 _ (nth_mem hk))))
theorem wh_res {M : Mo} {N : Nat} (ok : MoOk M N) {f : List Nd} (h : reqErr M f = 0) (h0 : holdsOf M f ≠ 0#64) : resErr (whM M f) (holdsOf M f) = 0 ∧ resM (whM M f) (holdsOf M f) = upM M f := by
  obtain ⟨r1, r2, _⟩ := res_ok (wh_ok ok h) (holds_in ok f) h0
  refine ⟨r1, ?_⟩
  rw [r2, wh_law ok h]
  exact (if_pos (upErr_mk h h0)).symm
set_option maxRecDepth 20000 in
set_option maxHeartbeats 8000000 in
theorem announceSplits_any (M : Mo) (va ra : Option Addr) (vc rc : Nat) (fa : Option Addr) (fc : Nat) (f : List Nd) (w : World) (hm : RM w va ra M) (hf : RN w fa f) (hT : Tab w) :
    Calls Tryd.prog 6 #[.agg #[.int .i64 M.worlds, .slice va M.val.length vc, .slice ra M.rel.length rc], .slice fa f.length fc] w fun e w' => e = .returned (.bool true) ∧ Ext w w' := by
  have hE0 := (Ext.refl w).alloc (.cells #[.int .i64 M.worlds, .slice va M.val.length vc, .slice ra M.rel.length rc] 25)
  have HBX := Lib.hid (MoBox.new w M.worlds M.val M.rel va vc ra rc 25)
  have HF := Lib.hid (hf.ext hE0)
  have HT := Lib.hid (hT.ext hE0)
  have HM := Lib.hid (hm.ext hE0)
  have HE := Lib.hid hE0
  have hrl := hm.rel.len
  have hfl := hf.len
  clear hm hT hE0 hf
  go_enter Tryd.func6, Tryd.ntmps6
  go_wp2_with fail
  generalize w.alloc (.cells #[.int .i64 M.worlds, .slice va M.val.length vc, .slice ra M.rel.length rc] 25) = W0 at *
  refine (awake25_any _ HT.out).mono ?_
  rintro _ w1 ⟨rfl, hX1⟩
  dsimp only
  obtain ⟨m0, m1, m2⟩ := HBX.out.ext hX1
  dsimp only at m0 m1 m2
  go_wp2_with fail
  refine (few25_any M va ra vc rc _ 1 [f] _ (HM.out.ext (hX1.alloc _)) (RNN.one _ fa fc f 26 (HF.out.ext hX1))).mono ?_
  rintro _ w2 ⟨b, rfl, hE2, hsm⟩
  have hX2 := (hX1.alloc (.cells #[.slice fa f.length fc] 26)).trans hE2
  dsimp only
  clear m0 m1 m2
  cases b
  · go_wp2_with fail
    refine (awake25_any _ (HT.out.ext hX2)).mono ?_
    rintro _ w3 ⟨rfl, hE3⟩
    dsimp only
    go_wp2_with fail
    go_ret
    exact ⟨rfl, HE.out.trans (hX2.trans hE3)⟩
  obtain ⟨m0, m1, m2⟩ := HBX.out.ext hX2
  dsimp only at m0 m1 m2
  go_wp2_with fail
  refine (r13Check_any M va ra vc rc _ (HM.out.ext hX2)).mono ?_
  rintro _ w3 ⟨rfl, hE3⟩
  dsimp only
  have hX3 := hX2.trans hE3
  clear m0 m1 m2
  by_cases hM : moCheck M = 0
  rotate_left
  · have hq : (moCheck M != 0) = true := by simpa using hM
    go_wp2_with fail
    refine (awake25_any _ (HT.out.ext hX3)).mono ?_
    rintro _ w4 ⟨rfl, hE4⟩
    dsimp only
    go_wp2_with fail
    go_ret
    exact ⟨rfl, HE.out.trans (hX3.trans hE4)⟩
  have hq : (moCheck M != 0) = false := by simp [hM]
  obtain ⟨m0, m1, m2⟩ := HBX.out.ext hX3
  dsimp only at m0 m1 m2
  go_wp2_with fail
  refine (holds_any M va ra vc rc fa fc f _ (HM.out.ext hX3) (HF.out.ext hX3)).mono ?_
  rintro _ w4 ⟨rfl, hE4⟩
  dsimp only
  have hX4 := hX3.trans hE4
  clear m0 m1 m2
  obtain ⟨m0, m1, m2⟩ := HBX.out.ext hX4
  dsimp only at m0 m1 m2
  go_wp2_with fail
  refine (whether_any M va ra vc rc fa fc f _ (HM.out.ext hX4) (HF.out.ext hX4) (HT.out.ext hX4)).mono ?_
  rintro _ w5 ⟨va5, ra5, vc5, rc5, rfl, hm5, hE5⟩
  dsimp only
  have hr5 := hm5 w5 (fun _ _ _ => rfl)
  have hX5 := hX4.trans hE5
  clear m0 m1 m2 hm5
  by_cases hr : reqErr M f = 0
  rotate_left
  · have hq1 : (reqErr M f != 0) = true := by simpa using hr
    have hq2 : (reqErr M f == reqErr M f) = true := by simp
    have hEnd := HE.out.trans (hX5.alloc (.cells #[.int .i64 (whM M f).worlds, .slice va5 (whM M f).val.length vc5, .slice ra5 (whM M f).rel.length rc5] 25))
    go_wp2_with fail
    go_ret
    exact ⟨by first | rfl | simp, hEnd⟩
  have hq1 : (reqErr M f != 0) = false := by simp [hr]
  obtain ⟨N, ok⟩ := moCheck_ok hM
  have hwm := whM_eq hr
  have HRES : Hid (holdsOf M f ≠ 0#64 → resErr (whM M f) (holdsOf M f) = 0 ∧ resM (whM M f) (holdsOf M f) = upM M f) := Lib.hid (wh_res ok hr)
  have HUPE : Hid (holdsOf M f ≠ 0#64 → upErr M f = 0) := Lib.hid (upErr_mk hr)
  have HROW : Hid (∀ a, a < M.rel.length → (nth M.rel a).length = N ∧ (nth (whM M f).rel a).length = N ∧ ∀ w, w < N → nth (nth (whM M f).rel a) w = whE (holdsOf M f) w (nth (nth M.rel a) w)) := Lib.hid fun a ha => by
    have h1 := ok.row _ (nth_mem ha)
    rw [hwm]
    have h2 : nth (M.rel.map (whRow (holdsOf M f))) a = whRow (holdsOf M f) (nth M.rel a) := nth_mapN _ _ ha
    refine ⟨h1, ?_, fun w hw => ?_⟩
    · show (nth (M.rel.map (whRow (holdsOf M f))) a).length = N
      rw [h2, ← h1]; simp [whRow]
    · show nth (nth (M.rel.map (whRow (holdsOf M f))) a) w = _
      rw [h2, whRow_nth _ _ (by omega)]
  have hw1 : (whM M f).worlds = M.worlds := by rw [hwm]
  have hw2 : (whM M f).val = M.val := by rw [hwm]
  have hw3 : (whM M f).rel.length = M.rel.length := by rw [hwm]; simp
  have HWW := Lib.hid ok.worlds
  have hr4 := ok.rel
  have h64 := ok.most
  have hRM : RM w5 va5 ra5 (whM M f) := hr5
  have hra := hr5.rel
  have HRM := Lib.hid hRM
  have HRA := Lib.hid hra
  have HVA : Hid (RU w5 va5 M.val) := Lib.hid (by have h := hr5.val; rw [hw2] at h; exact h)
  clear hr hwm ok hr5 hRM hra
  have hA5 : Ext w5 (w5.alloc (.cells #[.int .i64 M.worlds, .slice va5 M.val.length vc5, .slice ra5 M.rel.length rc5] 25)) := (Ext.refl _).alloc _
  have hbx5 := MoBox.new w5 M.worlds M.val M.rel va5 vc5 ra5 rc5 25
  rw [hw1, hw2, hw3]
  have HW1 := Lib.hid hw1
  have HW2 := Lib.hid hw2
  have HW3 := Lib.hid hw3
  clear hw1 hw2 hw3
  obtain ⟨m0, m1, m2⟩ := HBX.out.ext hX5
  dsimp only at m0 m1 m2
  have hbm := World.block_lt_of_cell? w5 _ m0
  have hww : (M.worlds != M.worlds) = false := by simp
  have hrr : ((M.rel.length : Int) != (M.rel.length : Int)) = false := by simp
  go_wp2_with fail
  generalize w5.alloc (.cells #[.int .i64 M.worlds, .slice va5 M.val.length vc5, .slice ra5 M.rel.length rc5] 25) = w6 at *
  have hX6 := hX5.trans hA5
  refine (r13Same_any va5 va vc5 vc M.val M.val _ (HVA.out.ext hA5) (HM.out.ext hX6).val).mono ?_
  rintro _ w7 ⟨rfl, hQ⟩
  rw [decide_eq_true (rfl : M.val = M.val)]
  dsimp only
  have hE7 := hQ.ext
  have hX7 := hX6.trans hE7
  clear m0 m1 m2 hbm hQ
  obtain ⟨m0, m1, m2⟩ := HBX.out.ext hX7
  dsimp only at m0 m1 m2
  obtain ⟨n0, n1, n2⟩ := hbx5.ext hE7
  dsimp only at n0 n1 n2
  have HR7 := Lib.hid (HRA.out.ext (hA5.trans hE7))
  have HM7 := Lib.hid (HM.out.ext hX7)
  clear hbx5
  go_wp2_with fail
  go_loop [79] (fun i => ∃ a : Nat, a ≤ M.rel.length ∧ i = .int .i64 (a : Int)) (fun i => M.rel.length - (intOf i).toNat)
  case atStart => exact ⟨0, Nat.zero_le _, rfl⟩
  case round =>
    obtain ⟨a, ha, rfl⟩ := hrel
    by_cases hal : a < M.rel.length
    · obtain ⟨hl1, hl2, hrow⟩ := HROW.out a hal
      obtain ⟨b1, o1, p1, c1, rfl, hb1, hc1, hu1⟩ := HR7.out.get (k := a) (by rw [HW3.out]; exact hal)
      rw [hl2] at hc1
      obtain ⟨b2, o2, p2, c2, rfl, hb2, hc2, hu2⟩ := HM7.out.rel.get hal
      rw [hl1] at hc2
      have HU1 := Lib.hid hu1
      have HU2 := Lib.hid hu2
      have HROW2 := Lib.hid hrow
      clear hu1 hu2 hrow
      go_wp2_with fail
      go_loop [88] (fun i => ∃ v : Nat, v ≤ N ∧ i = .int .i64 (v : Int)) (fun i => N - (intOf i).toNat)
      case atStart => exact ⟨0, Nat.zero_le _, rfl⟩
      case round =>
        obtain ⟨v, hv, rfl⟩ := hrel
        by_cases hvl : v < N
        · obtain ⟨b3, o3, rfl, hb3, hc3⟩ := HU1.out.get (k := v) (by omega)
          obtain ⟨b4, o4, rfl, hb4, hc4⟩ := HU2.out.get (k := v) (by omega)
          rw [HROW2.out v hvl] at hc3
          obtain ⟨e1, e2⟩ := whE_law (holdsOf M f) (nth (nth M.rel a) v) v
          have d1 : decide ((v : Int) ≥ M.worlds) = false := decide_eq_false (by rw [HWW.out]; omega)
          have d1b : decide (M.worlds ≤ (v : Int)) = false := decide_eq_false (by rw [HWW.out]; omega)
          have f2 : (whE (holdsOf M f) v (nth (nth M.rel a) v) &&& ~~~ nth (nth M.rel a) v != 0#64) = false := by simp [e2]
          by_cases e3 : whE (holdsOf M f) v (nth (nth M.rel a) v) &&& ~~~ holdsOf M f = 0#64
          · have f1 : (whE (holdsOf M f) v (nth (nth M.rel a) v) &&& ~~~ holdsOf M f != 0#64) = false := by simp [e3]
            generalize whE (holdsOf M f) v (nth (nth M.rel a) v) = y at *
            clear e1 e2 e3
            go_wp2
            go_round
            case rel => exact ⟨v + 1, hvl, by go_num⟩
            case measure => simp [intOf]; omega
          · have f1 : (whE (holdsOf M f) v (nth (nth M.rel a) v) &&& ~~~ holdsOf M f != 0#64) = true := by simpa using e3
            have f3 : (whE (holdsOf M f) v (nth (nth M.rel a) v) &&& holdsOf M f != 0#64) = false := by
              rcases e1 with e1 | e1
              · exact absurd e1 e3
              · simp [e1]
            generalize whE (holdsOf M f) v (nth (nth M.rel a) v) = y at *
            clear e1 e2 e3
            go_wp2
            go_round
            case rel => exact ⟨v + 1, hvl, by go_num⟩
            case measure => simp [intOf]; omega
        · go_wp2
          go_round
          case rel => exact ⟨a + 1, hal, by go_num⟩
          case measure => simp [intOf]; omega
    · have hE57 := hA5.trans hE7
      clear m0 m1 m2
      by_cases hs : holdsOf M f = 0#64
      · have hq5 : (holdsOf M f == 0#64) = true := by simp [hs]
        clear hs
        go_wp2_with fail
        go_ret
        exact ⟨rfl, HE.out.trans hX7⟩
      · have hq5 : (holdsOf M f == 0#64) = false := by simpa using hs
        obtain ⟨r1, r2⟩ := HRES.out hs
        have hue := HUPE.out hs
        have HRS : Hid (∀ w va ra vc rc, RM w va ra (whM M f) → Tab w → Calls Tryd.prog 19 #[.agg #[.int .i64 M.worlds, .slice va M.val.length vc, .slice ra M.rel.length rc], .int .u64 (un (holdsOf M f))] w fun e w' => ∃ L, RetR (upM M f) L 0 e w w') := Lib.hid fun w va ra vc rc h h2 => (restrict_any (whM M f) va ra vc rc (holdsOf M f) w h h2 |> fun h3 => by
          rw [r1, r2, HW1.out, HW2.out, HW3.out] at h3
          exact h3.mono fun _ _ h4 => ⟨_, h4⟩)
        have HUP : Hid (∀ w, RM w va ra M → RN w fa f → Tab w → Calls Tryd.prog 16 #[.agg #[.int .i64 M.worlds, .slice va M.val.length vc, .slice ra M.rel.length rc], .slice fa f.length fc] w fun e w' => RetR (upM M f) (natI (upL M f)) 0 e w w') := Lib.hid fun w h1 h2 h3 => by
          have := update_any M va ra vc rc fa fc f w h1 h2 h3
          rw [hue] at this
          exact this.mono fun _ _ h4 => h4.r
        clear hs r1 r2 hue
        go_wp2_with fail
        refine (HRS.out _ _ _ _ _ (HRM.out.ext2 hE57) (HT.out.ext hX7)).mono ?_
        rintro _ w9 ⟨L, va9, ra9, la9, vc9, rc9, lc9, rfl, hm9, hE9⟩
        dsimp only
        have hr9 := hm9 w9 (fun _ _ _ => rfl)
        have hX9 := hX7.trans hE9
        clear hm9 n0 n1 n2
        have hA9 : Ext w9 (w9.alloc (.cells #[.int .i64 (upM M f).worlds, .slice va9 (upM M f).val.length vc9, .slice ra9 (upM M f).rel.length rc9] 25)) := (Ext.refl _).alloc _
        have hbx9 := MoBox.new w9 (upM M f).worlds (upM M f).val (upM M f).rel va9 vc9 ra9 rc9 25
        obtain ⟨m0, m1, m2⟩ := HBX.out.ext hX9
        dsimp only at m0 m1 m2
        have hbm := World.block_lt_of_cell? w9 _ m0
        go_wp2_with fail
        generalize w9.alloc (.cells #[.int .i64 (upM M f).worlds, .slice va9 (upM M f).val.length vc9, .slice ra9 (upM M f).rel.length rc9] 25) = w10 at *
        have hX10 := hX9.trans hA9
        refine (HUP.out _ (HM.out.ext hX10) (HF.out.ext hX10) (HT.out.ext hX10)).mono ?_
        rintro _ w11 ⟨va11, ra11, la11, vc11, rc11, lc11, rfl, hm11, hE11⟩
        dsimp only
        have hr11 := hm11 w11 (fun _ _ _ => rfl)
        clear hm11 m0 m1 m2 hbm
        have hA11 : Ext w11 (w11.alloc (.cells #[.int .i64 (upM M f).worlds, .slice va11 (upM M f).val.length vc11, .slice ra11 (upM M f).rel.length rc11] 25)) := (Ext.refl _).alloc _
        have hbx11 := MoBox.new w11 (upM M f).worlds (upM M f).val (upM M f).rel va11 vc11 ra11 rc11 25
        obtain ⟨a0, a1, a2⟩ := hbx9.ext hE11
        dsimp only at a0 a1 a2
        have hba := World.block_lt_of_cell? w11 _ a0
        go_wp2_with fail
        generalize w11.alloc (.cells #[.int .i64 (upM M f).worlds, .slice va11 (upM M f).val.length vc11, .slice ra11 (upM M f).rel.length rc11] 25) = w12 at *
        refine (sameM_any (upM M f) va9 ra9 va11 ra11 vc9 rc9 vc11 rc11 _ (hr9.1.ext2 (hA9.trans (hE11.trans hA11))) (hr11.1.ext2 hA11)).mono ?_
        rintro _ w13 ⟨rfl, hE13⟩
        dsimp only
        go_wp2_with fail
        go_ret
        exact ⟨rfl, HE.out.trans (hX10.trans (hE11.trans (hA11.trans hE13)))⟩
end Wt

/- The law AnnounceSplits returns true at every input, and its arguments read behind the call as they did before; the library's table of TrailingZeros64 lies as the program's text lays it: the tied card. No other condition. -/
namespace Go.Proofs.YticoljmflljghaaDoor
open Go.ChangeShapes Go.WideShapes Go.ChangeAt Go.WideMaps Go.WideElems Go.RowKit

theorem own : ownKnob Tryd.prog.godebug = none := by kernel_rfl
theorem laidOut : laidOutB Tryd.prog = true := by kernel_rfl
theorem door_met (os : Os) (args : Array Value) : laidMetH Tryd.prog [("math/bits.deBruijn64tab", Rows.laid_math_bits_deBruijn64tab)] ((World.doorLaid Tryd.prog 400 os).forCall (fun _ _ => 0) ⟨#[], args, []⟩).memory := by
  rw [MakeChecks.laidMetH_plain _ _ _ (by kernel_rfl)]
  exact laidMet_of_run' 8 (by kernel_rfl) (by kernel_rfl)
set_option maxRecDepth 100000 in
set_option maxHeartbeats 1000000 in
theorem law_lifted (os : Os) (started : os.Started) (H : Type) (enc : TypeId × Value → H) :
    ReturnsInHanded {} Tryd.checked os 6 .any (fun w args => (Rows.announceSplitsSpec.pre enc Tryd.prog Tryd.f6 Rows.announceSplitsRow.domain false w args ∧ laidMetH Tryd.prog [("math/bits.deBruijn64tab", Rows.laid_math_bits_deBruijn64tab)] w) ∧ sizedMet enc Tryd.prog Tryd.f6 (OpenSpec.ofChange Rows.announceSplitsSpec) false w args)
      (Rows.announceSplitsSpec.post enc Tryd.prog Tryd.f6 false true false false) := by
  refine returnsInHanded_of_change_and (C := Tryd.checked) (X := fun w _ => laidMetH Tryd.prog [("math/bits.deBruijn64tab", Rows.laid_math_bits_deBruijn64tab)] w) (fun _ _ _ hh h => h.of_heap hh) own started (by kernel_rfl) Tryd.func6
    (ChangeSpec.witness_shaped (enc := enc) (C := Tryd.checked) (os := os) (X := fun w _ => laidMetH Tryd.prog [("math/bits.deBruijn64tab", Rows.laid_math_bits_deBruijn64tab)] w) false (World.doorLaid Tryd.prog 400 os) #[.agg #[.int .i64 0, .slice none 0 0, .slice none 0 0], .slice none 0 0] 8 rfl (World.shaped_of_RefB (by kernel_rfl) (by kernel_rfl)) (by kernel_rfl) (by kernel_rfl) (by kernel_rfl) (door_met os _)) ?_
  intro W base args ds gs before hval0 hW _ hsz0 hL _
  have hT := of_laid hL
  have hval : ∀ (j : Nat) t v, Tryd.f6.params[j]? = some t → args[j]? = some v → Value.okWide Tryd.prog W .any base t v := hval0
  have hsz : (DataW.weightsEach Tryd.prog (Tryd.f6.params.toList ++ Rows.announceSplitsSpec.plain.varTypes Tryd.prog) (ds ++ gs)).all (· ≤ reachBytes) = true := hsz0
  have hW' := hW
  obtain ⟨p, q, hA0, hV, rfl, hfz, hnd⟩ := hW
  have hA : DataW.TrodAll enc Tryd.prog W 0 (fun _ => true) true Tryd.f6.params.toList args.toList ds p := hA0
  rw [Tryd.params6] at hA hval hsz
  obtain ⟨v0, v1, d0, d1, p0, p1, rfl, rfl, rfl, h0, h1⟩ := trodAll_two hA
  obtain ⟨rfl, rfl⟩ := trodVars_none hV
  have hv0 : Rows.announceSplitsSpec.plain.varTypes Tryd.prog = [] := rfl
  rw [hv0] at hsz
  have hz : ∀ n ∈ DataW.weightsEach Tryd.prog [25, 26] [d0, d1], n ≤ reachBytes := fun n hn => by
    have := List.all_eq_true.1 hsz n (by simpa using hn)
    simpa using this
  have k0 := h0
  have k1 := h1
  obtain ⟨M, va, ra, vc, rc, rfl, hm⟩ := Wt.open_mo rfl (hval 0 25 v0 rfl rfl) h0 (fun n hn => hz n (DataW.weights_mem_each (j := 0) rfl rfl n hn))
  obtain ⟨oa, ol, oc, rfl⟩ := okWide_slice Tryd.underlying26 (hval 1 26 v1 rfl rfl)
  obtain ⟨fu, h1'⟩ := h1
  obtain ⟨oa', l, oc', he1, hff⟩ := Wt.open_rn h1' (fun n hn => hz n (DataW.weights_mem_each (j := 1) rfl rfl n hn))
  simp [Value.cells] at he1
  obtain ⟨rfl, rfl, rfl⟩ := he1
  have hl0 : ∀ y ∈ p0, y.block < W.heap.size := fun y hy => by simpa using hW'.lt y (by simp [hy])
  have hl1 : ∀ y ∈ p1, y.block < W.heap.size := fun y hy => by simpa using hW'.lt y (by simp [hy])
  refine (Wt.announceSplits_any M va ra vc rc oa oc l W hm hff hT).mono fun e W' he => ?_
  obtain ⟨rfl, hE⟩ := he
  have bel : Below W.heap.size W W' := hE
  refine ⟨_, rfl, ⟨_, _, _, [], p0 ++ p1, [], hW', trodAll_mk1 (shut_bool Tryd.underlying4 true), trodAll_mk2 (Below.trod laidOut (by kernel_rfl) (of_decide_eq_true (by kernel_rfl)) k0 bel hl0) (Below.trod laidOut (by kernel_rfl) (of_decide_eq_true (by kernel_rfl)) k1 bel hl1), rfl, bel.frame _, fun h => by cases h⟩⟩
theorem announceSplits_holds : Rows.AnnounceSplitsSaid :=
  OpenClaim.holds_of_wide 6 Tryd.f6 rfl rfl rfl rfl rfl rfl rfl ⟨rfl, rfl, rfl, rfl, rfl⟩ rfl rfl rfl rfl rfl (by kernel_rfl) Tryd.func6 (by kernel_rfl)
    (of_decide_eq_true (by kernel_rfl)) (by unfold Func.isWrapper; first | (rw [if_pos (by decide +kernel)]; kernel_rfl) | (rw [if_neg (by decide +kernel)]; exact ⟨rfl, rfl⟩))
    (fun os started H enc _ => law_lifted os started H enc)
theorem announceSplits_card_holds : Rows.AnnounceSplitsCardSaid :=
  Claim7.holds_tied_plain_at .later [] [.data] true (true, "bfc9cf39f4916f8cdba97181050ae874bab3cc17f0a05f25e3554b4a33c5c255") false
    announceSplits_holds (fun _ h => by cases h) (by kernel_rfl) (fun _ h => by cases h) announceSplits_row_tie rfl ⟨rfl, rfl⟩ (by kernel_rfl) rfl
    (fun f fn hf hfn => by
      obtain rfl : f = 6 := Option.some.inj ((show Tryd.prog.funcNamed "witting/wittinglaw25.AnnounceSplits" = some 6 by kernel_rfl).symm.trans hf) |>.symm
      obtain rfl : fn = Tryd.f6 := (Option.some.inj (Tryd.func6.symm.trans hfn)).symm
      exact ⟨by kernel_rfl, fun j t ht => by
        rw [Tryd.params6] at ht
        have hm : t ∈ [25, 26] := by simpa using Array.mem_of_getElem? ht
        have hall : ([25, 26].all fun u => !Tryd.prog.wantsStandIn u) = true := by kernel_rfl
        exact (show Tryd.prog.wantsStandIn t = false by simpa using List.all_eq_true.1 hall t hm)⟩)
    (by kernel_rfl)
#print axioms announceSplits_card_holds
end Go.Proofs.YticoljmflljghaaDoor
