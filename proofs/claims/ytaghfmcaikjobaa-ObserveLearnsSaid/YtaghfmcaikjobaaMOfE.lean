/- Walk: wittinglaw22.equivalence. -/
import Derived.Test.YtaghfmcaikjobaaMObP
import Derived.Test.YtaghfmcaikjobaaMObQ
import Derived.Deep.QuietTactic
import Derived.BigQuiet
namespace Wt
open Go Go.RowKit Go.Maps Go.Proofs Fm

set_option maxHeartbeats 2000000 in
theorem equivalence22_any (a : Option Addr) (r : List (BitVec 64)) (c : Nat) (w : World) (hr : RU w a r) :
    Calls Try.prog 26 #[.slice a r.length c] w fun e w' => e = .returned (.bool (eqvB r)) ∧ Qu w w' := by
  have hl := hr.len
  have HR := Lib.hid hr
  have HY : Hid ((∀ x, x < r.length → bt (nth r x) x = true ∧ ∀ y, y < r.length → bt (nth r x) y = true → nth r x = nth r y) → eqvB r = true) := Lib.hid eqvB_iff.2
  have HN : Hid (∀ x, x < r.length → (bt (nth r x) x = false ∨ ∃ y, y < r.length ∧ bt (nth r x) y = true ∧ nth r x ≠ nth r y) → eqvB r = false) := Lib.hid fun x hx h => by
    cases he : eqvB r
    · rfl
    · obtain ⟨h1, h2⟩ := eqvB_iff.1 he x hx
      rcases h with h | ⟨y, hy, hb, hne⟩
      · rw [h] at h1; cases h1
      · exact absurd (h2 y hy hb) hne
  clear hr
  generalize eqvB r = res at *
  go_enter Try.func26, Try.ntmps26
  go_wp2
  go_loopw [7] (fun i wr => ∃ k : Nat, k ≤ r.length ∧ i = .int .i64 (k : Int) ∧ Qu w wr ∧ Hid (∀ x, x < k → bt (nth r x) x = true ∧ ∀ y, y < r.length → bt (nth r x) y = true → nth r x = nth r y)) (fun i _ => r.length - (intOf i).toNat)
  case atStart => exact ⟨0, Nat.zero_le _, rfl, Qu.refl _, Lib.hid fun j hj => absurd hj (Nat.not_lt_zero _)⟩
  case round =>
    obtain ⟨k, hk, rfl, hQ, hok⟩ := hrel
    have HQ := Lib.hid hQ
    by_cases hlt : k < r.length
    · obtain ⟨b, off, rfl, hb, hc⟩ := (HR.out.ext hQ.ext).get hlt
      have hkI : (k : Int) < (r.length : Int) := by omega
      clear hQ
      cases hxx : bt (nth r k) k
      · have HF := Lib.hid (HN.out k hlt (.inl hxx))
        go_wp2
        go_ret
        exact ⟨by rw [HF.out]; rfl, HQ.out⟩
      · have HXX := Lib.hid hxx
        go_wp2_with fail
        go_loopw [21] (fun i wy => ∃ j : Nat, j ≤ r.length ∧ i = .int .i64 (j : Int) ∧ Qu w wy ∧ Hid (∀ y, y < j → bt (nth r k) y = true → nth r k = nth r y)) (fun i _ => r.length - (intOf i).toNat)
        case atStart => exact ⟨0, Nat.zero_le _, rfl, HQ.out, Lib.hid fun j hj => absurd hj (Nat.not_lt_zero _)⟩
        case round =>
          rename World => wy
          obtain ⟨j, hj, rfl, hQ, hokj⟩ := hrel
          have HQy := Lib.hid hQ
          by_cases hjl : j < r.length
          · obtain ⟨b2, off2, he, hb2, hc2⟩ := (HR.out.ext hQ.ext).get hlt
            obtain ⟨b3, off3, he3, hb3, hc3⟩ := (HR.out.ext hQ.ext).get hjl
            simp only [Option.some.injEq, Addr.mk.injEq] at he he3
            obtain ⟨rfl, rfl, -⟩ := he
            obtain ⟨rfl, rfl, -⟩ := he3
            have hjI : (j : Int) < (r.length : Int) := by omega
            have HP1 : Hid (bt (nth r k) j = true → nth r k ≠ nth r j → res = false) := Lib.hid fun h1 h2 => HN.out k hlt (.inr ⟨j, hjl, h1, h2⟩)
            have HP2 : Hid ((bt (nth r k) j = true → nth r k = nth r j) → ∀ y, y < j + 1 → bt (nth r k) y = true → nth r k = nth r y) := Lib.hid fun h => lt_step hokj.out h
            clear hQ hc hb
            generalize nth r k = rk at *
            generalize nth r j = rj at *
            cases hxy : bt rk j
            · have HS := Lib.hid (HP2.out fun h => by rw [hxy] at h; cases h)
              go_wp2_with fail
              go_quiet (fail)
              go_wp2
              go_roundw
              case rel => exact ⟨j + 1, hjl, by go_num, HQy.out.drewN _, HS⟩
              case measure => simp [intOf]; omega
            · by_cases heq : rk = rj
              · have HS := Lib.hid (HP2.out fun _ => heq)
                have hne : (rk != rj) = false := by simp [heq]
                clear heq
                go_wp2_with fail
                go_quiet (fail)
                go_wp2
                go_roundw
                case rel => exact ⟨j + 1, hjl, by go_num, HQy.out.drewN _, HS⟩
                case measure => simp [intOf]; omega
              · have HF := Lib.hid (HP1.out hxy heq)
                have hne : (rk != rj) = true := by simp [heq]
                clear heq
                go_wp2_with fail
                go_quiet (fail)
                go_wp2
                go_ret
                exact ⟨by rw [HF.out]; rfl, HQy.out.drewN _⟩
          · obtain rfl : j = r.length := by omega
            have HK := Lib.hid (lt_step (P := fun x => bt (nth r x) x = true ∧ ∀ y, y < r.length → bt (nth r x) y = true → nth r x = nth r y) hok.out ⟨HXX.out, hokj.out⟩)
            go_wp2
            go_roundw
            case rel => exact ⟨k + 1, hlt, by go_num, HQy.out, HK⟩
            case measure => simp [intOf]; omega
    · obtain rfl : k = r.length := by omega
      have HT := Lib.hid (HY.out hok.out)
      go_wp2
      go_ret
      exact ⟨by rw [HT.out]; rfl, HQ.out⟩
end Wt
