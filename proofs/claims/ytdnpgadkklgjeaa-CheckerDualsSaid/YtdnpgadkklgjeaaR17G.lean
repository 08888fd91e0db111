/- Walks: wittingref17.Holds, At, Valid; wittingref13.SameSets, Few. -/
import Derived.Test.YtdnpgadkklgjeaaR17F
import Derived.Test.YtdnpgadkklgjeaaCkD
import Derived.Deep.QuietTactic
import Derived.BigQuiet
namespace Wt
open Go Go.RowKit Go.Maps Go.Proofs Fm

/-- The canonical list has the error of the formula. -/
theorem reqErr_compact (M : Mo) {f : List Nd} (h : fCheck f = 0) : reqErr M (fCompact f) = reqErr M f ∧ (fCompact f).length = fsize (trAt f (f.length - 1)) ∧ trAt (fCompact f) ((fCompact f).length - 1) = trAt f (f.length - 1) := by
  obtain ⟨h0, h200, hw⟩ := fCheck_ok.1 h
  obtain ⟨hc, hk⟩ := fCompact_of h
  have ht : fok (trAt f (f.length - 1)) := fok_trAt hw _ _ (Nat.lt_succ_self _) hk
  have hs : fsize (trAt f (f.length - 1)) ≤ 200 := Nat.le_trans (fsize_le hw hk) h200
  have hcc := compact_canon _ ht hs
  have hck := canon_check _ ht hs
  have e1 : fFrags (fCompact f) = fFrags f := by unfold fFrags; rw [hc, hcc]
  have e2 : fFits (fCompact f) M.rel.length M.val.length = fFits f M.rel.length M.val.length := by
    unfold fFits fAgents fFacts; rw [hc, hcc, hck, h]
  refine ⟨?_, by rw [hc, canon_length], by rw [hc, trAt_canon _ ht]⟩
  unfold reqErr
  rw [e1, e2, hc, hck, h]
theorem reqErr_none (M : Mo) {f : List Nd} (h : fCheck f ≠ 0) : reqErr M f ≠ 0 ∧ reqErr M (fCompact f) ≠ 0 := by
  have h3 : fCheck ([] : List Nd) = 3 := rfl
  rw [fCompact_no h]
  refine ⟨fun e => h (reqErr_ok e).2.1, fun e => ?_⟩
  have := (reqErr_ok e).2.1
  rw [h3] at this; omega
theorem reqErr_iff (M : Mo) (f : List Nd) : reqErr M (fCompact f) = 0 ↔ reqErr M f = 0 := by
  by_cases h : fCheck f = 0
  · rw [(reqErr_compact M h).1]
  · have := reqErr_none M h
    exact ⟨fun e => absurd e this.2, fun e => absurd e this.1⟩
set_option maxRecDepth 20000 in
set_option maxHeartbeats 2000000 in
theorem r17Holds_any (M : Mo) (va ra : Option Addr) (vc rc : Nat) (fa : Option Addr) (fc : Nat) (f : List Nd) (w : World) (hm : RM w va ra M) (hf : RN w fa f) :
    Calls Try.prog 13 #[.agg #[.int .i64 M.worlds, .slice va M.val.length vc, .slice ra M.rel.length rc], .slice fa f.length fc] w fun e w' => RetP (.int .u64 (un (holdsOf M f))) (reqErr M f) e w w' := by
  have hE0 := (Ext.refl w).alloc (.cells #[.int .i64 M.worlds, .slice va M.val.length vc, .slice ra M.rel.length rc] 25)
  have HM := Lib.hid (hm.ext hE0)
  have HF := Lib.hid (hf.ext hE0)
  have hbx := MoBox.new w M.worlds M.val M.rel va vc ra rc 25
  have HE := Lib.hid hE0
  clear hE0 hm hf
  have HI := Lib.hid (reqErr_iff M f)
  have HCM : Hid (∀ w, RN w fa f → Calls Try.prog 40 #[.slice fa f.length fc] w (fun e w' => RetN (fCompact f) e w w')) := fun w h => r5Compact_any fa fc f w h
  have HCK : Hid (∀ w, RM w va ra M → RN w fa f → Calls Try.prog 41 #[.agg #[.int .i64 M.worlds, .slice va M.val.length vc, .slice ra M.rel.length rc], .slice fa f.length fc, .int .i64 15] w (fun e w' => e = .returned (.int .i64 (reqErr M f)) ∧ Ext w w')) := fun w h h2 => r17Check_any M va ra vc rc fa fc f w h h2
  by_cases h : reqErr M f = 0
  · have h2 := (reqErr_ok h).2.1
    obtain ⟨k1, k2, k3⟩ := reqErr_compact M h2
    have hN : holdsOf M f = lastSet M f := if_pos h
    have hS : setsOf M (fCompact f) = (List.range (fCompact f).length).map (fun k => (semT M (trAt (fCompact f) k)).1) := if_pos (k1.trans h)
    have hp : 0 < (fCompact f).length := by rw [k2]; exact fsize_pos _
    have hSl : (setsOf M (fCompact f)).length = (fCompact f).length := by rw [hS]; simp
    have hSn : nth (setsOf M (fCompact f)) ((fCompact f).length - 1) = lastSet M f := by
      rw [nth_eq _ _ (by omega)]
      simp [hS, lastSet, k3]
    have h200 := (fCompact_ok f).2
    have HN := Lib.hid hN
    have HR := Lib.hid h
    have HS := Lib.hid hSn
    have HL := Lib.hid hSl
    have HK1 := Lib.hid (k1.trans h)
    clear h h2 k1 k2 k3 hN hS hSn hSl HI HCK
    generalize fCompact f = C at *
    have hsub : IntKind.i64.wrap ((C.length : Int) - 1) = ((C.length - 1 : Nat) : Int) := by rw [IntWalk.i64_in _ (by omega)]; omega
    have hq : ((C.length : Int) == 0) = false := by
      have : ¬ ((C.length : Int) = 0) := by omega
      simpa using this
    have hpos : 0 < C.length := hp
    go_enter Try.func13, Try.ntmps13
    go_wp2_with fail
    generalize w.alloc (.cells #[.int .i64 M.worlds, .slice va M.val.length vc, .slice ra M.rel.length rc] 25) = W0 at *
    obtain ⟨m0, m1, m2⟩ := hbx
    dsimp only at m0 m1 m2
    have HCX := Lib.hid (HCM.out W0.drew (HF.out.ext ((Ext.refl _).drew)))
    have HKP : Hid (∀ w1, Ext W0.drew w1 → w1.cell? ⟨w.heap.size, 0, none⟩ = some (.int .i64 M.worlds) ∧ w1.cell? ⟨w.heap.size, 1, none⟩ = some (.slice va M.val.length vc) ∧ w1.cell? ⟨w.heap.size, 2, none⟩ = some (.slice ra M.rel.length rc)) := fun w1 e => ⟨e.cell m0, e.cell m1, e.cell m2⟩
    go_region_held3 (fun w' => w'.cell? ⟨w.heap.size, 0, none⟩ = some (.int .i64 M.worlds) ∧ w'.cell? ⟨w.heap.size, 1, none⟩ = some (.slice va M.val.length vc) ∧ w'.cell? ⟨w.heap.size, 2, none⟩ = some (.slice ra M.rel.length rc)) (first | go_keep | exact HKP.out _ (by assumption))
      (first | (go_at_call 40; refine HCX.out.mono ?_; rintro e w1 ⟨ca, cc, rfl, hcn, hE1⟩) | (go_at_call 19; refine (r17Sets_any M va ra vc rc ca cc C _ (HM.out.ext (((Ext.refl _).drew).trans hE1)) hcn).mono ?_; rintro e w2 ⟨a, c, rfl, hu, hE2⟩; have hE3 := hE1.trans hE2; obtain ⟨gb, goff, rfl, hgb, hgc⟩ := hu.get (k := C.length - 1) (by rw [HL.out]; omega); rw [HS.out] at hgc; rw [HL.out, HK1.out]) | fail)
    all_goals
      go_wp2
      go_ret2
      exact ⟨by rw [HN.out, HR.out]; rfl, HE.out.drew.trans hE3⟩
  · have hN : holdsOf M f = 0#64 := if_neg h
    have hCn : reqErr M (fCompact f) ≠ 0 := fun e => h (HI.out.1 e)
    have HN := Lib.hid hN
    have hq : (reqErr M (fCompact f) != 0) = true := by simp [hCn]
    clear hN h hCn HI
    generalize fCompact f = C at *
    go_enter Try.func13, Try.ntmps13
    go_wp2_with fail
    generalize w.alloc (.cells #[.int .i64 M.worlds, .slice va M.val.length vc, .slice ra M.rel.length rc] 25) = W0 at *
    obtain ⟨m0, m1, m2⟩ := hbx
    dsimp only at m0 m1 m2
    have HCX := Lib.hid (HCM.out W0.drew (HF.out.ext ((Ext.refl _).drew)))
    have HKP : Hid (∀ w1, Ext W0.drew w1 → w1.cell? ⟨w.heap.size, 0, none⟩ = some (.int .i64 M.worlds) ∧ w1.cell? ⟨w.heap.size, 1, none⟩ = some (.slice va M.val.length vc) ∧ w1.cell? ⟨w.heap.size, 2, none⟩ = some (.slice ra M.rel.length rc)) := fun w1 e => ⟨e.cell m0, e.cell m1, e.cell m2⟩
    go_region_held3 (fun w' => w'.cell? ⟨w.heap.size, 0, none⟩ = some (.int .i64 M.worlds) ∧ w'.cell? ⟨w.heap.size, 1, none⟩ = some (.slice va M.val.length vc) ∧ w'.cell? ⟨w.heap.size, 2, none⟩ = some (.slice ra M.rel.length rc)) (first | go_keep | exact HKP.out _ (by assumption))
      (first | (go_at_call 40; refine HCX.out.mono ?_; rintro e w1 ⟨ca, cc, rfl, hcn, hE1⟩) | (go_at_call 19; refine (r17Sets_any M va ra vc rc ca cc C _ (HM.out.ext (((Ext.refl _).drew).trans hE1)) hcn).mono ?_; rintro e w2 ⟨a, c, rfl, hu, hE2⟩; have hE3 := hE1.trans hE2; obtain ⟨z0, z1, z2⟩ := HKP.out _ hE3) | fail)
    all_goals
      go_wp2_with (go_at_call 41; refine (HCK.out _ (HM.out.ext (((Ext.refl _).drew).trans hE3)) (HF.out.ext (((Ext.refl _).drew).trans hE3))).mono ?_; rintro e w4 ⟨rfl, hE4⟩)
      go_ret2
      exact ⟨by rw [HN.out]; rfl, (HE.out.drew.trans hE3).trans hE4⟩
end Wt

/- Walks: wittingref17.At, Valid; wittingref13.SameSets. -/
namespace Wt
open Go Go.RowKit Go.Maps Go.Proofs Fm

set_option maxRecDepth 20000 in
set_option maxHeartbeats 1000000 in
theorem r17At_any (M : Mo) (va ra : Option Addr) (vc rc : Nat) (x : Int) (fa : Option Addr) (fc : Nat) (f : List Nd) (w : World) (hm : RM w va ra M) (hf : RN w fa f) :
    Calls Try.prog 15 #[.agg #[.int .i64 M.worlds, .slice va M.val.length vc, .slice ra M.rel.length rc], .int .i64 x, .slice fa f.length fc] w fun e w' => RetP (.bool (atOf M x f)) (atErr M x f) e w w' := by
  have hE0 := (Ext.refl w).alloc (.cells #[.int .i64 M.worlds, .slice va M.val.length vc, .slice ra M.rel.length rc] 25)
  have H := Lib.hid (r17Holds_any M va ra vc rc fa fc f _ (hm.ext hE0) (hf.ext hE0))
  obtain ⟨m0, m1, m2⟩ := MoBox.new w M.worlds M.val M.rel va vc ra rc 25
  have HE := Lib.hid hE0
  clear hE0 hm hf
  by_cases h : reqErr M f = 0
  · have HR := Lib.hid h
    by_cases h1 : x < 0
    · have hN : atErr M x f = 2 := by unfold atErr inMo; simp [h]; omega
      have hN2 : atOf M x f = false := by unfold atOf; simp [hN]
      have HN := Lib.hid hN
      have HN2 := Lib.hid hN2
      clear h hN hN2
      go_enter Try.func15, Try.ntmps15
      go_wp2_with (go_at_call 13; refine H.out.mono ?_; rintro e w1 ⟨rfl, hE1⟩; have q0 := hE1.cell m0; clear m0 m1 m2; rw [HR.out])
      go_ret2
      exact ⟨by rw [HN.out, HN2.out]; rfl, HE.out.trans hE1⟩
    · obtain ⟨k, rfl⟩ := Int.eq_ofNat_of_zero_le (show 0 ≤ x by omega)
      by_cases h2 : (k : Int) < M.worlds
      · have hN : atErr M k f = 0 := by unfold atErr inMo; simp [h]; omega
        have hN2 : atOf M k f = hasW (holdsOf M f) k := by unfold atOf hasW; simp [hN]
        have HN := Lib.hid hN
        have HN2 := Lib.hid hN2
        clear h hN hN2
        go_enter Try.func15, Try.ntmps15
        go_wp2_with (first | (go_at_call 13; refine H.out.mono ?_; rintro e w1 ⟨rfl, hE1⟩; have q0 := hE1.cell m0; clear m0 m1 m2; rw [HR.out]) | (go_at_call 42; refine (r13Has_any (holdsOf M f) (k : Int) _).mono ?_; rintro _ _ ⟨rfl, rfl⟩))
        go_ret2
        exact ⟨by rw [HN.out, HN2.out]; rfl, HE.out.trans hE1⟩
      · have hN : atErr M k f = 2 := by unfold atErr inMo; simp [h]; omega
        have hN2 : atOf M k f = false := by unfold atOf; simp [hN]
        have HN := Lib.hid hN
        have HN2 := Lib.hid hN2
        clear h hN hN2
        go_enter Try.func15, Try.ntmps15
        go_wp2_with (go_at_call 13; refine H.out.mono ?_; rintro e w1 ⟨rfl, hE1⟩; have q0 := hE1.cell m0; clear m0 m1 m2; rw [HR.out])
        go_ret2
        exact ⟨by rw [HN.out, HN2.out]; rfl, HE.out.trans hE1⟩
  · have hN : atErr M x f = reqErr M f := if_pos h
    have hN2 : atOf M x f = false := by unfold atOf; simp [hN, h]
    have HN := Lib.hid hN
    have HN2 := Lib.hid hN2
    have hq : (reqErr M f != 0) = true := by simp [h]
    clear hN hN2 h
    go_enter Try.func15, Try.ntmps15
    go_wp2_with (go_at_call 13; refine H.out.mono ?_; rintro e w1 ⟨rfl, hE1⟩)
    go_ret2
    exact ⟨by rw [HN.out, HN2.out]; rfl, HE.out.trans hE1⟩
set_option maxRecDepth 20000 in
set_option maxHeartbeats 1000000 in
theorem r17Valid_any (M : Mo) (va ra : Option Addr) (vc rc : Nat) (fa : Option Addr) (fc : Nat) (f : List Nd) (w : World) (hm : RM w va ra M) (hf : RN w fa f) :
    Calls Try.prog 17 #[.agg #[.int .i64 M.worlds, .slice va M.val.length vc, .slice ra M.rel.length rc], .slice fa f.length fc] w fun e w' => RetP (.bool (validOf M f)) (reqErr M f) e w w' := by
  have hE0 := (Ext.refl w).alloc (.cells #[.int .i64 M.worlds, .slice va M.val.length vc, .slice ra M.rel.length rc] 25)
  have H := Lib.hid (r17Holds_any M va ra vc rc fa fc f _ (hm.ext hE0) (hf.ext hE0))
  obtain ⟨m0, m1, m2⟩ := MoBox.new w M.worlds M.val M.rel va vc ra rc 25
  have HE := Lib.hid hE0
  clear hE0 hm hf
  by_cases h : reqErr M f = 0
  · obtain ⟨N, ok⟩ := moCheck_ok (reqErr_ok h).1
    have hW := ok.worlds
    have hn1 := ok.one
    have hn64 := ok.most
    have hsh := div_max N hn1 hn64
    have hs64 := sub64 N hn1 hn64
    rw [hW] at m0
    have hN : validOf M f = (holdsOf M f == allW N) := by unfold validOf; rw [hW]; simp [h]
    have HN := Lib.hid hN
    have HR := Lib.hid h
    have HW := Lib.hid hW
    clear hN h ok hW
    rw [HW.out] at H HE m1 m2 ⊢
    go_enter Try.func17, Try.ntmps17
    go_wp2_with (first | (go_at_call 13; refine H.out.mono ?_; rintro e w1 ⟨rfl, hE1⟩; have q0 := hE1.cell m0; clear m0 m1 m2; rw [HR.out]) | (go_at_call 28; refine (r13All_any N _).mono ?_; rintro _ _ ⟨rfl, rfl⟩))
    go_ret2
    exact ⟨by rw [HN.out, HR.out]; rfl, HE.out.trans hE1⟩
  · have hN : validOf M f = false := by unfold validOf; simp [h]
    have HN := Lib.hid hN
    have hq : (reqErr M f != 0) = true := by simp [h]
    have hq2 : (reqErr M f == 0) = false := by simp [h]
    clear hN h
    go_enter Try.func17, Try.ntmps17
    go_wp2_with (go_at_call 13; refine H.out.mono ?_; rintro e w1 ⟨rfl, hE1⟩)
    go_ret2
    exact ⟨by rw [HN.out]; rfl, HE.out.trans hE1⟩
set_option maxHeartbeats 1000000 in
theorem r13Same_any (a b : Option Addr) (ac bc : Nat) (s t : List (BitVec 64)) (w : World) (ha : RU w a s) (hb : RU w b t) :
    Calls Try.prog 20 #[.slice a s.length ac, .slice b t.length bc] w fun e w' => e = .returned (.bool (decide (s = t))) ∧ Qu w w' := by
  have hl := ha.len
  have hl2 := hb.len
  by_cases hlen : s.length = t.length
  · have hL : ((s.length : Int) != (t.length : Int)) = false := by simp [hlen]
    go_enter Try.func20, Try.ntmps20
    go_wp2
    go_loopw [5] (fun i wr => ∃ k : Nat, k ≤ s.length ∧ i = .int .i64 k ∧ Qu w wr ∧ Hid (∀ j, j < k → nth s j = nth t j)) (fun i _ => s.length - (intOf i).toNat)
    case atStart => exact ⟨0, Nat.zero_le _, rfl, Qu.refl _, fun _ h => absurd h (Nat.not_lt_zero _)⟩
    case round =>
      obtain ⟨k, hk, rfl, hE, hno⟩ := hrel
      by_cases hlt : k < s.length
      · obtain ⟨b1, off1, rfl, hb1, hc1⟩ := (ha.ext hE.ext).get hlt
        obtain ⟨b2, off2, rfl, hb2, hc2⟩ := (hb.ext hE.ext).get (k := k) (by omega)
        have hkt : k < t.length := by omega
        have hkI : (k : Int) < (t.length : Int) := by omega
        by_cases hq : nth s k = nth t k
        · have HQ := Lib.hid hq
          rw [hq] at hc1
          have hq2 : (nth t k != nth t k) = false := by simp
          clear hq
          go_wp2_with fail
          go_quiet (fail)
          go_wp2
          go_roundw
          case rel => exact ⟨k + 1, hlt, by go_num, hE.drewN _, fun j hj => by
            rcases Nat.lt_or_ge j k with h | h
            · exact hno.out j h
            · obtain rfl : j = k := by omega
              exact HQ.out⟩
          case measure => simp [intOf]; omega
        · have hv : decide (s = t) = false := decide_eq_false fun e => hq (by rw [e])
          have HV := Lib.hid hv
          have hq2 : (nth s k != nth t k) = true := by simp [hq]
          clear hv hq
          go_wp2_with fail
          go_quiet (fail)
          go_wp2
          go_ret
          exact ⟨by rw [HV.out]; rfl, hE.drewN _⟩
      · have hv : decide (s = t) = true := by
          rw [decide_eq_true_eq]
          apply List.ext_getElem hlen
          intro j h1 h2
          have := hno.out j (by omega)
          rwa [nth_eq _ _ h1, nth_eq _ _ h2] at this
        have HV := Lib.hid hv
        clear hv
        go_wp2
        go_ret
        exact ⟨by rw [HV.out]; rfl, hE⟩
  · have hv : decide (s = t) = false := decide_eq_false fun e => hlen (by rw [e])
    have HV := Lib.hid hv
    have hL : ((s.length : Int) != (t.length : Int)) = true := by simp; omega
    clear hv
    go_enter Try.func20, Try.ntmps20
    go_wp2
    go_ret
    exact ⟨by rw [HV.out]; rfl, Qu.refl _⟩
end Wt
