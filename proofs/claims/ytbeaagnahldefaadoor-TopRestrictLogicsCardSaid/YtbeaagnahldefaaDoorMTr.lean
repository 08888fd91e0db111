/- The walk of TopRestrictLogics. -/
import Derived.Test.YtbeaagnahldefaaDoorM8Bd
import Derived.Test.YtbeaagnahldefaaDoorRows
import Derived.Test.YtbeaagnahldefaaDoorCards
import Derived.Test.YtbeaagnahldefaaDoorTie
import Derived.Test.YtbeaagnahldefaaDoorM8Az
import Derived.ProofKit
import Derived.LaidMore
import Derived.SizedLaws
import Derived.SevenTiedAt
namespace Wt
open Go Go.RowKit Go.Maps Go.Proofs Fm

/-- The set of the first worlds of a list. -/
def lefK (ws : List Nat) : Nat → BitVec 64
  | 0 => 0#64
  | k + 1 => lefK ws k ||| 1#64 <<< nth ws k
theorem bt_lefK (ws : List Nat) {j : Nat} (hj : j < 64) : ∀ k, bt (lefK ws k) j = true ↔ ∃ i, i < k ∧ nth ws i = j
  | 0 => by simp [lefK, bt_zero]
  | k + 1 => by
    show bt (lefK ws k ||| 1#64 <<< nth ws k) j = true ↔ _
    rw [bt_or, Bool.or_eq_true, bt_lefK ws hj k, bt_shl1]
    constructor
    · rintro (⟨i, h1, h2⟩ | h)
      · exact ⟨i, by omega, h2⟩
      · simp at h
        exact ⟨k, by omega, h.2.symm⟩
    · rintro ⟨i, h1, h2⟩
      by_cases hik : i = k
      · subst hik
        exact .inr (by simp [h2, hj])
      · exact .inl ⟨i, by omega, h2⟩
theorem lefK_mem (S : BitVec 64) : lefK (memL S) (memL S).length = S := bt_ext fun j hj => by
  rw [Bool.eq_iff_iff, bt_lefK _ hj]
  constructor
  · rintro ⟨i, hi, rfl⟩
    exact (mem_memL.1 (nth_mem hi)).2
  · intro h
    exact mem_nth (mem_memL.2 ⟨hj, h⟩)
def serRow (M : Mo) (S : BitVec 64) (ws : List Nat) (a i : Nat) : Bool := (List.range i).all fun j => nth (nth M.rel a) (nth ws j) &&& S != 0#64
def serA (M : Mo) (S : BitVec 64) (ws : List Nat) (a : Nat) : Bool := (List.range a).all fun q => serRow M S ws q ws.length
theorem serRow_step (M : Mo) (S : BitVec 64) (ws : List Nat) (a i : Nat) : serRow M S ws a (i + 1) = (serRow M S ws a i && (nth (nth M.rel a) (nth ws i) &&& S != 0#64)) := all_snoc _ _
theorem serA_step (M : Mo) (S : BitVec 64) (ws : List Nat) (a : Nat) : serA M S ws (a + 1) = (serA M S ws a && serRow M S ws a ws.length) := all_snoc _ _
theorem serA_end (M : Mo) (S : BitVec 64) (ws : List Nat) : serA M S ws M.rel.length = serK M S ws := rfl
set_option maxRecDepth 20000 in
set_option maxHeartbeats 16000000 in
theorem topRestrictLogics_any (M : Mo) (va ra : Option Addr) (vc rc : Nat) (fa : Option Addr) (fc : Nat) (f : List Nd) (g : Int) (w : World) (hT : Tab w) (hm : RM w va ra M) (hf : RN w fa f) :
    Calls Tryd.prog 6 #[.agg #[.int .i64 M.worlds, .slice va M.val.length vc, .slice ra M.rel.length rc], .slice fa f.length fc, .int .i64 g] w fun e w' => e = .returned (.bool true) ∧ Ext w w' := by
  have hE0 : Ext w (w.alloc (.cells #[.int .i64 M.worlds, .slice va M.val.length vc, .slice ra M.rel.length rc] 25)) := (Ext.refl w).alloc _
  have HOM := Lib.hid (OutAt.new w (.int .i64 M.worlds) (.slice va M.val.length vc) (.slice ra M.rel.length rc) 25)
  have HE := Lib.hid hE0
  have HM := Lib.hid (hm.ext hE0)
  have HF := Lib.hid (hf.ext hE0)
  have HT := Lib.hid (hT.ext hE0)
  have hvl := hm.val.len
  have hrl := hm.rel.len
  have hfl := hf.len
  clear hm hf hT hE0
  obtain ⟨m0, m1, m2, -⟩ := HOM.out
  have ml := World.block_lt_of_cell? _ _ m0
  dsimp only at ml
  go_enter Tryd.func6, Tryd.ntmps6
  go_wp2_with fail
  generalize w.alloc (.cells #[.int .i64 M.worlds, .slice va M.val.length vc, .slice ra M.rel.length rc] 25) = w0 at *
  refine (r13FewN_any M va ra vc rc 10 _ HM.out).mono ?_
  rintro _ w1 ⟨b, rfl, -, hX⟩
  have HX1 := Lib.hid hX
  clear hX m0 m1 m2 ml
  dsimp only
  cases b
  · go_wp2_with (go_at_call 19; refine (awake14_any _ (HT.out.ext HX1.out)).mono ?_; rintro _ w9 ⟨rfl, hE9⟩)
    go_ret
    exact ⟨rfl, (HE.out.trans HX1.out).trans hE9⟩
  by_cases h4 : 30 < f.length
  · have e4 : decide ((30 : Int) < (f.length : Int)) = true := decide_eq_true (by omega)
    clear h4
    go_wp2_with (go_at_call 19; refine (awake14_any _ (HT.out.ext HX1.out)).mono ?_; rintro _ w9 ⟨rfl, hE9⟩)
    go_ret
    exact ⟨rfl, (HE.out.trans HX1.out).trans hE9⟩
  have e4 : decide ((30 : Int) < (f.length : Int)) = false := decide_eq_false (by omega)
  clear h4
  obtain ⟨m0, m1, m2, -⟩ := HOM.out.ext HX1.out
  have ml := World.block_lt_of_cell? _ _ m0
  dsimp only at ml
  go_wp2_with fail
  refine (frInA_any g M va ra vc rc _ (HT.out.ext HX1.out) (HM.out.ext HX1.out)).mono ?_
  rintro _ w2 ⟨rfl, hX⟩
  have HX2 := Lib.hid (HX1.out.trans hX)
  clear hX m0 m1 m2 ml e4
  dsimp only
  cases hfi : frIn M g
  · clear hfi
    go_wp2_with (go_at_call 19; refine (awake14_any _ (HT.out.ext HX2.out)).mono ?_; rintro _ w9 ⟨rfl, hE9⟩)
    go_ret
    exact ⟨rfl, (HE.out.trans HX2.out).trans hE9⟩
  have HFI := Lib.hid hfi
  clear hfi
  have hup := (update_any M va ra vc rc fa fc f _ (HM.out.ext HX2.out) (HF.out.ext HX2.out) (HT.out.ext HX2.out)).mono fun _ _ h => h.r
  have HUP := Lib.hid hup
  clear hup
  obtain ⟨m0, m1, m2, -⟩ := HOM.out.ext HX2.out
  have ml := World.block_lt_of_cell? _ _ m0
  dsimp only at ml
  go_wp2_with fail
  refine HUP.out.mono ?_
  rintro _ w5 ⟨vb, rb, la, vd, rd, lc, rfl, hk, hX⟩
  have HX5 := Lib.hid (HX2.out.trans hX)
  have HK5 := Lib.hid hk
  clear hX hk HUP m0 m1 m2 ml
  by_cases her : upErr M f = 0
  rotate_left
  · have hq : (upErr M f != 0) = true := by simpa using her
    clear her
    generalize upErr M f = er at *
    generalize upM M f = B at *
    have HX6 := Lib.hid (HX5.out.alloc (.cells #[.int .i64 B.worlds, .slice vb B.val.length vd, .slice rb B.rel.length rd] 25))
    dsimp only
    go_wp2_with (go_at_call 19; refine (awake14_any _ (HT.out.ext HX6.out)).mono ?_; rintro _ w9 ⟨rfl, hE9⟩)
    go_ret
    exact ⟨rfl, (HE.out.trans HX6.out).trans hE9⟩
  obtain ⟨N, ok, ok2, hB, hws, hlt, hle, -⟩ := up_ok her
  obtain ⟨-, hS0⟩ := upErr_ok her
  have hin := holds_in ok f
  have hB1 : (upM M f).worlds = ((upL M f).length : Int) := by rw [hB]; rfl
  have hB2 : (upM M f).val.length = M.val.length := by rw [hB]; simp [arrM]
  have hB3 : (upM M f).rel.length = M.rel.length := by rw [hB]; simp [arrM]
  have hin2 : ∀ g, keptG g → frIn M g = true → frIn (upM M f) g = true := fun g hg h => by
    rw [hB]
    exact arr_in ok ok2.one ok2.most hlt hg h
  have hkd : frIn (upM M f) 1 = serK M (holdsOf M f) (upL M f) := by rw [hB, hws]; exact serK_kd ok hS0 hin
  have hlf : lefK (upL M f) (upL M f).length = holdsOf M f := by rw [hws]; exact lefK_mem _
  have hN64 := ok.most
  have HRW := Lib.hid ok.row
  have HLT := Lib.hid hlt
  have HIN := Lib.hid hin2
  have HKD := Lib.hid hkd
  have HLF := Lib.hid hlf
  have HBV := Lib.hid hB2
  have HBR := Lib.hid hB3
  have hnl : (natI (upL M f)).length = (upL M f).length := by simp [natI]
  have HWN := Lib.hid ok.worlds
  have HW0 := Lib.hid hB1
  rw [her, hB1, hB2, hB3, hnl]
  generalize holdsOf M f = S at *
  generalize upM M f = B at *
  generalize upL M f = ws at *
  clear her ok ok2 hB hws hlt hS0 hin hin2 hkd hlf hnl
  have hy : Ext w5 (w5.alloc (.cells #[.int .i64 (ws.length : Int), .slice vb M.val.length vd, .slice rb M.rel.length rd] 25)) := (Ext.refl _).alloc _
  have HX6 := Lib.hid (HX5.out.trans hy)
  have HK6 := Lib.hid (HK5.out _ (agree_ofExtT hy))
  have HO6 := Lib.hid (OutAt.new w5 (.int .i64 (ws.length : Int)) (.slice vb M.val.length vd) (.slice rb M.rel.length rd) 25)
  clear hy HK5
  dsimp only
  go_upto_region 6 with fail
  generalize w5.alloc (.cells #[.int .i64 (ws.length : Int), .slice vb M.val.length vd, .slice rb M.rel.length rd] 25) = w6 at *
  have hne1 : ((ws.length : Int) != (ws.length : Int)) = false := by simp
  have hne2 : ((M.rel.length : Int) != (M.rel.length : Int)) = false := by simp
  have HFR : Hid (∀ h : Int, ∀ W, Tab W → RM W vb rb B → Calls Tryd.prog 18 #[.agg #[.int .i64 (ws.length : Int), .slice vb M.val.length vd, .slice rb M.rel.length rd], .int .i64 h] W fun e w' => e = .returned (.bool (frIn B h)) ∧ Ext W w') := Lib.hid fun h W hT hm => by
    have h1 := frInA_any h B vb rb vd rd W hT hm
    rw [HW0.out, HBV.out, HBR.out] at h1
    exact h1
  go_cut [63] from 40 to 63 (fun s63 wc => s63 = .bool false ∧ Hid (Ext w6 wc))
  case first =>
    go_wp2_with fail
    refine (dKept_any g _).mono ?_
    rintro _ _ ⟨rfl, rfl⟩
    dsimp only
    cases hkg : keptB g
    · obtain ⟨m0, m1, m2, -⟩ := HOM.out.ext HX6.out
      obtain ⟨n0, n1, n2, -⟩ := HO6.out
      have ml := World.block_lt_of_cell? _ _ m0
      have nl := World.block_lt_of_cell? _ _ n0
      dsimp only at ml nl
      clear hkg
      go_wp2_with fail
      go_meet
      case rel => exact ⟨rfl, Lib.hid (Ext.refl _)⟩
    · have hIn := HIN.out g (keptB_iff.1 hkg) HFI.out
      obtain ⟨n0, n1, n2, -⟩ := HO6.out
      have nl := World.block_lt_of_cell? _ _ n0
      have hcall := HFR.out g _ (HT.out.ext HX6.out) HK6.out.1
      rw [hIn] at hcall
      have HCL := Lib.hid hcall
      dsimp only at nl
      clear hkg hIn hcall
      go_wp2_with fail
      refine HCL.out.mono ?_
      rintro _ w7 ⟨rfl, hE7⟩
      clear n0 n1 n2 nl
      obtain ⟨m0, m1, m2, -⟩ := HOM.out.ext (HX6.out.trans hE7)
      obtain ⟨n0, n1, n2, -⟩ := HO6.out.ext hE7
      have ml := World.block_lt_of_cell? _ _ m0
      have nl := World.block_lt_of_cell? _ _ n0
      have HE7 := Lib.hid hE7
      dsimp only at ml nl ⊢
      clear hE7
      go_wp2_with fail
      go_meet
      case rel => exact ⟨rfl, HE7⟩
  case rest =>
    obtain ⟨rfl, HX7⟩ := hcut
    rename World => w7
    have HY7 := Lib.hid (HX6.out.trans HX7.out)
    have HLS := Lib.hid (HK6.out.2.ext HX7.out)
    go_wp2_with fail
    go_loopw [10, 11] (fun t i wr => ∃ k : Nat, k ≤ ws.length ∧ i = .int .i64 (k : Int) ∧ t = .int .u64 (un (lefK ws k)) ∧ Hid (Ext w7 wr)) (fun _ i _ => ws.length - (RowKit.intOf i).toNat)
    case atStart => exact ⟨0, Nat.zero_le _, rfl, rfl, Lib.hid (Ext.refl _)⟩
    case round =>
      obtain ⟨k, hk, rfl, rfl, HX⟩ := hrel
      by_cases hkl : k < ws.length
      · obtain ⟨b1, o1, hla, hb1, hc1⟩ := (HLS.out.ext HX.out).get (k := k) (by simpa [natI] using hkl)
        rw [nth_natI hkl] at hc1
        subst hla
        obtain ⟨m0, m1, m2, -⟩ := HOM.out.ext (HY7.out.trans HX.out)
        have ml := World.block_lt_of_cell? _ _ m0
        have hwk := HLT.out k hkl
        rw [HWN.out] at m0
        have d1 : decide (((nth ws k : Nat) : Int) < 0) = false := decide_eq_false (by omega)
        have d2 : decide ((N : Int) ≤ ((nth ws k : Nat) : Int)) = false := decide_eq_false (by omega)
        have hw64 : nth ws k < 64 := by omega
        have HST : Hid (lefK ws (k + 1) = lefK ws k ||| 1#64 <<< nth ws k) := Lib.hid rfl
        generalize lefK ws k = X at *
        generalize nth ws k = p at *
        dsimp only at ml
        go_wp2_with fail
        go_quiet (fail)
        go_wp2_with fail
        go_roundw
        case rel => exact ⟨k + 1, hkl, by go_num, by rw [HST.out], Lib.hid (HX.out.drewN _)⟩
        case measure => simp [RowKit.intOf]; omega
      · obtain rfl : k = ws.length := by omega
        rw [HLF.out]
        have HX8 := Lib.hid (HY7.out.trans HX.out)
        have HLS8 := Lib.hid (HLS.out.ext HX.out)
        have HK8 := Lib.hid (HK6.out.1.ext (HX7.out.trans HX.out))
        have HO8 := Lib.hid (HO6.out.ext (HX7.out.trans HX.out))
        clear hk hkl HX HLS HY7
        rename World => w8
        go_wp2_with fail
        go_loopw [12, 13] (fun t i wr => ∃ a : Nat, a ≤ M.rel.length ∧ i = .int .i64 (a : Int) ∧ (∃ tb : Bool, t = .bool tb ∧ Hid (tb = serA M S ws a)) ∧ Hid (Ext w8 wr)) (fun _ i _ => M.rel.length - (RowKit.intOf i).toNat)
        case atStart => exact ⟨0, Nat.zero_le _, rfl, ⟨true, rfl, Lib.hid rfl⟩, Lib.hid (Ext.refl _)⟩
        case round =>
          rename World => wa
          obtain ⟨a, ha, rfl, ⟨tb, rfl, HTB⟩, HXa⟩ := hrel
          have HXA := Lib.hid (HX8.out.trans HXa.out)
          by_cases hal : a < M.rel.length
          · obtain ⟨m0, m1, m2, -⟩ := HOM.out.ext HXA.out
            have ml := World.block_lt_of_cell? _ _ m0
            have HSA := Lib.hid (serA_step M S ws a)
            dsimp only at ml
            go_wp2_with fail
            clear m0 m1 m2 ml
            go_loopw [12, 14] (fun t i wz => ∃ j : Nat, j ≤ ws.length ∧ i = .int .i64 (j : Int) ∧ (∃ tc : Bool, t = .bool tc ∧ Hid (tc = (tb && serRow M S ws a j))) ∧ Hid (Ext wa wz)) (fun _ i _ => ws.length - (RowKit.intOf i).toNat)
            case atStart => exact ⟨0, Nat.zero_le _, rfl, ⟨tb, rfl, Lib.hid (by simp [serRow])⟩, Lib.hid (Ext.refl _)⟩
            case round =>
              rename World => wz
              obtain ⟨j, hj, rfl, ⟨tc, rfl, HTC⟩, HXz⟩ := hrel
              by_cases hjl : j < ws.length
              · have HST : Hid ((tb && serRow M S ws a (j + 1)) = (tc && (nth (nth M.rel a) (nth ws j) &&& S != 0#64))) := Lib.hid (by rw [serRow_step, ← Bool.and_assoc, HTC.out])
                cases tc
                · go_wp2_with fail
                  go_quiet (fail)
                  go_wp2_with fail
                  go_roundw
                  case rel => exact ⟨j + 1, hjl, by go_num, ⟨false, rfl, Lib.hid (by rw [HST.out]; rfl)⟩, Lib.hid (HXz.out.drewN _)⟩
                  case measure => simp [RowKit.intOf]; omega
                · obtain ⟨m0, m1, m2, -⟩ := HOM.out.ext (HXA.out.trans HXz.out)
                  have ml := World.block_lt_of_cell? _ _ m0
                  obtain ⟨b1, o1, hla, hb1, hc1⟩ := (HLS8.out.ext (HXa.out.trans HXz.out)).get (k := j) (by simpa [natI] using hjl)
                  rw [nth_natI hjl] at hc1
                  obtain ⟨b2, o2, a2, c2, hra, hb2, hc2, hu2⟩ := (HM.out.rel.ext (HXA.out.trans HXz.out)).get hal
                  have hrN : (nth M.rel a).length = N := HRW.out _ (nth_mem hal)
                  have hwj := HLT.out j hjl
                  obtain ⟨b3, o3, ha3, hb3, hc3⟩ := hu2.get (k := nth ws j) (by omega)
                  have hi1 : (0 : Int) ≤ ((nth ws j : Nat) : Int) := by omega
                  have hi2 : ((nth ws j : Nat) : Int) < ((nth M.rel a).length : Int) := by omega
                  subst hla
                  subst hra
                  subst ha3
                  have hun := un_ne0 (nth (nth M.rel a) (nth ws j) &&& S)
                  dsimp only at ml
                  clear hu2 hrN
                  generalize nth (nth M.rel a) (nth ws j) = R at *
                  generalize nth ws j = p at *
                  generalize (nth M.rel a).length = rn at *
                  cases hx : (R &&& S != 0#64)
                  all_goals
                    rw [hx] at hun HST
                    clear hx
                    go_wp2_with fail
                    go_quiet (fail)
                    go_wp2_with fail
                    go_roundw
                    case rel => exact ⟨j + 1, hjl, by go_num, ⟨_, rfl, Lib.hid (by rw [HST.out]; rfl)⟩, Lib.hid (HXz.out.drewN _)⟩
                    case measure => simp [RowKit.intOf]; omega
              · obtain rfl : j = ws.length := by omega
                go_wp2_with fail
                go_roundw
                case rel => exact ⟨a + 1, hal, by go_num, ⟨tc, rfl, Lib.hid (by rw [HSA.out, ← HTB.out]; exact HTC.out)⟩, Lib.hid (HXa.out.trans HXz.out)⟩
                case measure => simp [RowKit.intOf]; omega
          · obtain rfl : a = M.rel.length := by omega
            have hcall := HFR.out 1 _ (HT.out.ext HXA.out) (HK8.out.ext HXa.out)
            rw [HKD.out, ← serA_end, ← HTB.out] at hcall
            have HCL := Lib.hid hcall
            obtain ⟨m0, m1, m2, -⟩ := HOM.out.ext HXA.out
            obtain ⟨n0, n1, n2, -⟩ := HO8.out.ext HXa.out
            have ml := World.block_lt_of_cell? _ _ m0
            have nl := World.block_lt_of_cell? _ _ n0
            have hqq : (tb == tb) = true := by simp
            dsimp only at ml nl
            clear hcall
            go_wp2_with fail
            refine HCL.out.mono ?_
            rintro _ wb ⟨rfl, hEb⟩
            have HEb := Lib.hid (HXA.out.trans hEb)
            dsimp only
            go_wp2_with (go_at_call 19; refine (awake14_any _ (HT.out.ext HEb.out)).mono ?_; rintro _ w9 ⟨rfl, hE9⟩)
            go_ret
            exact ⟨rfl, (HE.out.trans HEb.out).trans hE9⟩
end Wt

/- The law TopRestrictLogics returns true at every input, and its arguments read behind the call as they did before. the tied card: the library's table of TrailingZeros64 lies as the program's text lays it. -/
namespace Go.Proofs.YtbeaagnahldefaaDoor
open Go.ChangeShapes Go.WideShapes Go.ChangeAt Go.WideMaps Go.WideElems Go.RowKit

theorem own : ownKnob Tryd.prog.godebug = none := by kernel_rfl
theorem laidOut : laidOutB Tryd.prog = true := by kernel_rfl
theorem door_met (os : Os) (args : Array Value) : laidMetH Tryd.prog [("math/bits.deBruijn64tab", Rows.laid_math_bits_deBruijn64tab)] ((World.doorLaid Tryd.prog 400 os).forCall (fun _ _ => 0) ⟨#[], args, []⟩).memory := by
  rw [MakeChecks.laidMetH_plain _ _ _ (by kernel_rfl)]
  exact laidMet_of_run' 8 (by kernel_rfl) (by kernel_rfl)
set_option maxRecDepth 100000 in
set_option maxHeartbeats 1000000 in
theorem law_lifted (os : Os) (started : os.Started) (H : Type) (enc : TypeId × Value → H) :
    ReturnsInHanded {} Tryd.checked os 6 .any (fun w args => (Rows.topRestrictLogicsSpec.pre enc Tryd.prog Tryd.f6 Rows.topRestrictLogicsRow.domain false w args ∧ laidMetH Tryd.prog [("math/bits.deBruijn64tab", Rows.laid_math_bits_deBruijn64tab)] w) ∧ sizedMet enc Tryd.prog Tryd.f6 (OpenSpec.ofChange Rows.topRestrictLogicsSpec) false w args)
      (Rows.topRestrictLogicsSpec.post enc Tryd.prog Tryd.f6 false true false false) := by
  refine returnsInHanded_of_change_and (C := Tryd.checked) (X := fun w _ => laidMetH Tryd.prog [("math/bits.deBruijn64tab", Rows.laid_math_bits_deBruijn64tab)] w) (fun _ _ _ hh h => h.of_heap hh) own started (by kernel_rfl) Tryd.func6
    (ChangeSpec.witness_shaped (enc := enc) (C := Tryd.checked) (os := os) (X := fun w _ => laidMetH Tryd.prog [("math/bits.deBruijn64tab", Rows.laid_math_bits_deBruijn64tab)] w) false (World.doorLaid Tryd.prog 400 os) #[.agg #[.int .i64 0, .slice none 0 0, .slice none 0 0], .slice none 0 0, .int .i64 0] 8 rfl (World.shaped_of_RefB (by kernel_rfl) (by kernel_rfl)) (by kernel_rfl) (by kernel_rfl) (by kernel_rfl) (door_met os _)) ?_
  intro W base args ds gs before hval0 hW _ hsz0 hL _
  have hT := of_laid hL
  have hval : ∀ (j : Nat) t v, Tryd.f6.params[j]? = some t → args[j]? = some v → Value.okWide Tryd.prog W .any base t v := hval0
  have hsz : (DataW.weightsEach Tryd.prog (Tryd.f6.params.toList ++ Rows.topRestrictLogicsSpec.plain.varTypes Tryd.prog) (ds ++ gs)).all (· ≤ reachBytes) = true := hsz0
  have hW' := hW
  obtain ⟨p, q, hA0, hV, rfl, hfz, hnd⟩ := hW
  have hA : DataW.TrodAll enc Tryd.prog W 0 (fun _ => true) true Tryd.f6.params.toList args.toList ds p := hA0
  rw [Tryd.params6] at hA hval hsz
  obtain ⟨v0, v1, v2, d0, d1, d2, p0, p1, p2, rfl, rfl, rfl, h0, h1, h2⟩ := trodAll_three hA
  obtain ⟨rfl, rfl⟩ := trodVars_none hV
  have hv0 : Rows.topRestrictLogicsSpec.plain.varTypes Tryd.prog = [] := rfl
  rw [hv0] at hsz
  have hz : ∀ n ∈ DataW.weightsEach Tryd.prog [25, 26, 3] [d0, d1, d2], n ≤ reachBytes := fun n hn => by
    have := List.all_eq_true.1 hsz n (by simpa using hn)
    simpa using this
  have k0 := h0
  have k1 := h1
  have k2 := h2
  obtain ⟨m, mv, mr, mvc, mrc, rfl, hmm⟩ := Wt.open_mo rfl (hval 0 25 v0 rfl rfl) h0 (fun n hn => hz n (DataW.weights_mem_each (j := 0) rfl rfl n hn))
  obtain ⟨fa, fl, fc, rfl⟩ := okWide_slice Tryd.underlying26 (hval 1 26 v1 rfl rfl)
  obtain ⟨fu, h1'⟩ := h1
  obtain ⟨fa', f, fc', he1, hff⟩ := Wt.open_rn h1' (fun n hn => hz n (DataW.weights_mem_each (j := 1) rfl rfl n hn))
  simp [Value.cells] at he1
  obtain ⟨rfl, rfl, rfl⟩ := he1
  obtain ⟨g, rfl, rfl, rfl, wg⟩ := open_int Tryd.underlying3 (hval 2 3 v2 rfl rfl) h2
  have hl0 : ∀ y ∈ p0, y.block < W.heap.size := fun y hy => by simpa using hW'.lt y (by simp [hy])
  have hl1 : ∀ y ∈ p1, y.block < W.heap.size := fun y hy => by simpa using hW'.lt y (by simp [hy])
  refine (Wt.topRestrictLogics_any m mv mr mvc mrc fa fc f g W hT hmm hff).mono fun e W' he => ?_
  obtain ⟨rfl, hE⟩ := he
  have bel : Below W.heap.size W W' := hE
  refine ⟨_, rfl, ⟨_, _, _, [], p0 ++ (p1 ++ ([])), [], hW', trodAll_mk1 (shut_bool Tryd.underlying4 true), trodAll_mk3 (Below.trod laidOut (by kernel_rfl) (of_decide_eq_true (by kernel_rfl)) k0 bel hl0) (Below.trod laidOut (by kernel_rfl) (of_decide_eq_true (by kernel_rfl)) k1 bel hl1) (shut_int Tryd.underlying3 wg), rfl, bel.frame _, fun h => by cases h⟩⟩
theorem topRestrictLogics_holds : Rows.TopRestrictLogicsSaid :=
  OpenClaim.holds_of_wide 6 Tryd.f6 rfl rfl rfl rfl rfl rfl rfl ⟨rfl, rfl, rfl, rfl, rfl⟩ rfl rfl rfl rfl rfl (by kernel_rfl) Tryd.func6 (by kernel_rfl)
    (of_decide_eq_true (by kernel_rfl)) (by unfold Func.isWrapper; first | (rw [if_pos (by decide +kernel)]; kernel_rfl) | (rw [if_neg (by decide +kernel)]; exact ⟨rfl, rfl⟩))
    (fun os started H enc _ => law_lifted os started H enc)
theorem topRestrictLogics_card_holds : Rows.TopRestrictLogicsCardSaid :=
  Claim7.holds_tied_plain_at .later [] [.data] true Rows.topRestrictLogicsCard.stood.harness false
    topRestrictLogics_holds (fun _ h => by cases h) (by kernel_rfl) (fun _ h => by cases h) topRestrictLogics_row_tie rfl ⟨rfl, rfl⟩ (by kernel_rfl) rfl
    (fun f fn hf hfn => by
      obtain rfl : f = 6 := Option.some.inj ((show Tryd.prog.funcNamed "witting/wittingtop.TopRestrictLogics" = some 6 by kernel_rfl).symm.trans hf) |>.symm
      obtain rfl : fn = Tryd.f6 := (Option.some.inj (Tryd.func6.symm.trans hfn)).symm
      exact ⟨by kernel_rfl, fun j t ht => by
        rw [Tryd.params6] at ht
        have hm : t ∈ [25, 26, 3] := by simpa using Array.mem_of_getElem? ht
        have hall : ([25, 26, 3].all fun u => !Tryd.prog.wantsStandIn u) = true := by kernel_rfl
        exact (show Tryd.prog.wantsStandIn t = false by simpa using List.all_eq_true.1 hall t hm)⟩)
    (by kernel_rfl)
#print axioms topRestrictLogics_card_holds
end Go.Proofs.YtbeaagnahldefaaDoor
