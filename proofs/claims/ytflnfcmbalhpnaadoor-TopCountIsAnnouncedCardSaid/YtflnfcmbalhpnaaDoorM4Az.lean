/- Walk: wittingref17.Sets (printed by gen_r17f.py). -/
import Derived.Test.YtflnfcmbalhpnaaDoorM4Ax
import Derived.Test.YtflnfcmbalhpnaaDoorM4Ay
import Derived.Test.YtflnfcmbalhpnaaDoorM4Al
import Derived.Deep.RegionHeld3
import Derived.Deep.QuietTactic
import Derived.BigQuiet
namespace Wt
open Go Go.RowKit Go.Maps Go.Proofs Fm

theorem nd_ok {l : List Nd} (hw : Wf l) {k : Nat} (hk : k < l.length) : NdOk (nth l k) := by
  obtain ⟨h1, _, _, h4, h5⟩ := nodeErr_ok (hw k hk)
  exact ndOk_of h1 h4 h5
theorem GS.take {w0 : World} {f : Nat → BitVec 64} {k : Nat} {v : Value} {wr : World} (h : GS w0 f k v wr) (_hk : k ≤ 1000) {q : Nat} (hq : q < k) : ∃ g c, v = .slice (some ⟨g, 0, none⟩) k c ∧ wr.cell? ⟨g, q, none⟩ = some (.int .u64 (un (f q))) := by
  rcases h.own.2 with ⟨_, h0⟩ | ⟨g, cap, cur, rfl, rest⟩
  · omega
  · refine ⟨g, cap, rfl, ?_⟩
    rw [h.own.cellAt q (by omega), List.getElem?_map]
    simp [hq, uv]
end Wt

/- Walks: wittingref17.Holds, At, Valid; wittingref13.SameSets, Few. -/
namespace Wt
open Go Go.RowKit Go.Maps Go.Proofs Fm

/-- The canonical list has the error of the formula. -/
theorem reqErr_compact (M : Mo) {f : List Nd} (h : fCheck f = 0) : reqErr M (fCompact f) = reqErr M f ∧ (fCompact f).length = fsize (trAt f (f.length - 1)) ∧ trAt (fCompact f) ((fCompact f).length - 1) = trAt f (f.length - 1) := by
  obtain ⟨h0, h200, hw⟩ := fCheck_ok.1 h
  obtain ⟨hc, hk⟩ := fCompact_of h
  have ht : fok (trAt f (f.length - 1)) := fok_trAt hw _ _ (Nat.lt_succ_self _) hk
  have hs : fsize (trAt f (f.length - 1)) ≤ 200 := Nat.le_trans (fsize_le hw hk) h200
  have hcc := compact_canon _ ht hs
  have hck := canon_check _ ht hs
  have e1 : fFrags (fCompact f) = fFrags f := by unfold fFrags; rw [hc, hcc]
  have e2 : fFits (fCompact f) M.rel.length M.val.length = fFits f M.rel.length M.val.length := by
    unfold fFits fAgents fFacts; rw [hc, hcc, hck, h]
  refine ⟨?_, by rw [hc, canon_length], by rw [hc, trAt_canon _ ht]⟩
  unfold reqErr
  rw [e1, e2, hc, hck, h]
theorem reqErr_none (M : Mo) {f : List Nd} (h : fCheck f ≠ 0) : reqErr M f ≠ 0 ∧ reqErr M (fCompact f) ≠ 0 := by
  have h3 : fCheck ([] : List Nd) = 3 := rfl
  rw [fCompact_no h]
  refine ⟨fun e => h (reqErr_ok e).2.1, fun e => ?_⟩
  have := (reqErr_ok e).2.1
  rw [h3] at this; omega
theorem reqErr_iff (M : Mo) (f : List Nd) : reqErr M (fCompact f) = 0 ↔ reqErr M f = 0 := by
  by_cases h : fCheck f = 0
  · rw [(reqErr_compact M h).1]
  · have := reqErr_none M h
    exact ⟨fun e => absurd e this.2, fun e => absurd e this.1⟩
end Wt

/- Walks: wittingref17.At, Valid; wittingref13.SameSets. -/
namespace Wt
open Go Go.RowKit Go.Maps Go.Proofs Fm

set_option maxHeartbeats 1000000 in
theorem r13Same_any (a b : Option Addr) (ac bc : Nat) (s t : List (BitVec 64)) (w : World) (ha : RU w a s) (hb : RU w b t) :
    Calls Tryd.prog 30 #[.slice a s.length ac, .slice b t.length bc] w fun e w' => e = .returned (.bool (decide (s = t))) ∧ Qu w w' := by
  have hl := ha.len
  have hl2 := hb.len
  by_cases hlen : s.length = t.length
  · have hL : ((s.length : Int) != (t.length : Int)) = false := by simp [hlen]
    go_enter Tryd.func30, Tryd.ntmps30
    go_wp2
    go_loopw [5] (fun i wr => ∃ k : Nat, k ≤ s.length ∧ i = .int .i64 k ∧ Qu w wr ∧ Hid (∀ j, j < k → nth s j = nth t j)) (fun i _ => s.length - (intOf i).toNat)
    case atStart => exact ⟨0, Nat.zero_le _, rfl, Qu.refl _, fun _ h => absurd h (Nat.not_lt_zero _)⟩
    case round =>
      obtain ⟨k, hk, rfl, hE, hno⟩ := hrel
      by_cases hlt : k < s.length
      · obtain ⟨b1, off1, rfl, hb1, hc1⟩ := (ha.ext hE.ext).get hlt
        obtain ⟨b2, off2, rfl, hb2, hc2⟩ := (hb.ext hE.ext).get (k := k) (by omega)
        have hkt : k < t.length := by omega
        have hkI : (k : Int) < (t.length : Int) := by omega
        by_cases hq : nth s k = nth t k
        · have HQ := Lib.hid hq
          rw [hq] at hc1
          have hq2 : (nth t k != nth t k) = false := by simp
          clear hq
          go_wp2_with fail
          go_quiet (fail)
          go_wp2
          go_roundw
          case rel => exact ⟨k + 1, hlt, by go_num, hE.drewN _, fun j hj => by
            rcases Nat.lt_or_ge j k with h | h
            · exact hno.out j h
            · obtain rfl : j = k := by omega
              exact HQ.out⟩
          case measure => simp [intOf]; omega
        · have hv : decide (s = t) = false := decide_eq_false fun e => hq (by rw [e])
          have HV := Lib.hid hv
          have hq2 : (nth s k != nth t k) = true := by simp [hq]
          clear hv hq
          go_wp2_with fail
          go_quiet (fail)
          go_wp2
          go_ret
          exact ⟨by rw [HV.out]; rfl, hE.drewN _⟩
      · have hv : decide (s = t) = true := by
          rw [decide_eq_true_eq]
          apply List.ext_getElem hlen
          intro j h1 h2
          have := hno.out j (by omega)
          rwa [nth_eq _ _ h1, nth_eq _ _ h2] at this
        have HV := Lib.hid hv
        clear hv
        go_wp2
        go_ret
        exact ⟨by rw [HV.out]; rfl, hE⟩
  · have hv : decide (s = t) = false := decide_eq_false fun e => hlen (by rw [e])
    have HV := Lib.hid hv
    have hL : ((s.length : Int) != (t.length : Int)) = true := by simp; omega
    clear hv
    go_enter Tryd.func30, Tryd.ntmps30
    go_wp2
    go_ret
    exact ⟨by rw [HV.out]; rfl, Qu.refl _⟩
end Wt
