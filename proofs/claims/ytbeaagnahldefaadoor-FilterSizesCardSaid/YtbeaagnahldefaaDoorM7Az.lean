/- Walk: (*filter.view).permits (printed by gen_flc.py). -/
import Derived.Test.YtbeaagnahldefaaDoorM7Av
namespace Wt
open Go Go.RowKit Go.Maps Go.Proofs Fm

set_option maxRecDepth 20000 in
set_option maxHeartbeats 16000000 in
theorem permits_any (b : Nat) (W : Int) (L : List (BitVec 64)) (c : List Nd) (va ra ca sa : Option Addr) (vl vc rl rc cc sc : Nat) (w : World) (hv : VwAt w b W va ra ca sa vl vc rl rc c.length cc L.length sc) (hn : RN w ca c) (hs : RU w sa L) (hcl : L.length = c.length) (hbx : boxOk c) (a x y : Nat) (hx : x < 64) (hy : y < 64) (keep : Bool) :
    Calls Tryd.prog 35 #[.pointer (some ⟨b, 0, none⟩), .int .i64 (a : Int), .int .i64 (x : Int), .int .i64 (y : Int), .bool keep] w fun e w' => e = .returned (.bool (permL L c keep a x y)) ∧ Ext w w' := by
  have HV := Lib.hid hv
  have HN := Lib.hid hn
  have HCL := Lib.hid hcl
  have HBX := Lib.hid hbx
  have hnl := hn.len
  have HH : Hid (∀ W', Ext w W' → ∀ i k : Nat, i < L.length → k < 64 → Calls Tryd.prog 76 #[.pointer (some ⟨b, 0, none⟩), .int .i64 (i : Int), .int .i64 (k : Int)] W' fun e w' => e = .returned (.bool (bt (nth L i) k)) ∧ W' = w') := Lib.hid fun W' e i k hi hk => fholds_any b W L va ra ca sa vl vc rl rc c.length cc sc W' (hv.ext e) (hs.ext e) i k hi hk
  obtain ⟨v0, v1, v2, v3, v4⟩ := hv
  have vlt := World.block_lt_of_cell? _ _ v0
  dsimp only at vlt
  clear hn hs hcl hbx
  go_enter Tryd.func35, Tryd.ntmps35
  go_wp2_with fail
  clear v0 v1 v2 v3 v4 vlt
  go_loopw [18] (fun i wr => ∃ k : Nat, k ≤ c.length ∧ i = .int .i64 (k : Int) ∧ Hid (Ext w wr) ∧ Hid (((List.range k).all fun i => perN L (nth c i) i a x y keep) = true)) (fun i _ => c.length - (RowKit.intOf i).toNat)
  case atStart => exact ⟨0, Nat.zero_le _, rfl, Lib.hid (Ext.refl _), Lib.hid rfl⟩
  case round =>
    obtain ⟨k, hk, rfl, HE, HP⟩ := hrel
    by_cases hlt : k < c.length
    · obtain ⟨b1, o1, rfl, hb1, n0, n1, n2, n3, n4, n5⟩ := (HN.out.ext HE.out).get hlt
      have hkL : k < L.length := by rw [HCL.out]; exact hlt
      have HB := Lib.hid (HBX.out k hlt)
      rcases hnd : nth c k with ⟨no, ni, ne, ng, nx, ny⟩
      have HD := Lib.hid hnd
      rw [hnd] at n0 n1 n2 n3 n4 n5 HB
      clear hnd
      dsimp only at n0 n1 n2 n3 n4 n5 HB
      by_cases hi : ni = (a : Int)
      · subst hi
        have hia : ((a : Int) != a) = false := by simp
        by_cases h9 : no = 9
        · subst h9
          obtain ⟨hm, h0⟩ := HB.out (.inl rfl)
          obtain ⟨m, rfl⟩ := Int.eq_ofNat_of_zero_le h0
          have hmL : m < L.length := by rw [HCL.out]; simpa using hm
          clear hm h0 HB
          cases keep <;> cases q1 : bt (nth L k) x <;> cases q2 : bt (nth L m) y <;> cases q3 : bt (nth L k) y
          all_goals
            go_wp2_with (go_at_call 76; refine (HH.out _ (HE.out.alloc _) _ _ (by assumption) (by assumption)).mono ?_; rintro _ _ ⟨rfl, rfl⟩)
            first
            | (go_roundw
               case rel => exact ⟨k + 1, hlt, by go_num, Lib.hid (HE.out.alloc _), Lib.hid (perN_all HP.out (by rw [HD.out]; simp [perN, q1, q2, q3]))⟩
               case measure => simp [RowKit.intOf]; omega)
            | (go_ret
               exact ⟨by rw [permL_no hlt (by rw [HD.out]; simp [perN, q1, q2, q3])]; rfl, HE.out.alloc _⟩)
        · by_cases h10 : no = 10
          · subst h10
            obtain ⟨hm, h0⟩ := HB.out (.inr rfl)
            obtain ⟨m, rfl⟩ := Int.eq_ofNat_of_zero_le h0
            have hmL : m < L.length := by rw [HCL.out]; simpa using hm
            clear hm h0 HB h9
            cases keep <;> cases q1 : bt (nth L k) x <;> cases q2 : bt (nth L m) y <;> cases q3 : bt (nth L k) y
            all_goals
              go_wp2_with (go_at_call 76; refine (HH.out _ (HE.out.alloc _) _ _ (by assumption) (by assumption)).mono ?_; rintro _ _ ⟨rfl, rfl⟩)
              first
              | (go_roundw
                 case rel => exact ⟨k + 1, hlt, by go_num, Lib.hid (HE.out.alloc _), Lib.hid (perN_all HP.out (by rw [HD.out]; simp [perN, q1, q2, q3]))⟩
                 case measure => simp [RowKit.intOf]; omega)
              | (go_ret
                 exact ⟨by rw [permL_no hlt (by rw [HD.out]; simp [perN, q1, q2, q3])]; rfl, HE.out.alloc _⟩)
          · have e9 : (no == 9) = false := by simpa using h9
            have e10 : (no == 10) = false := by simpa using h10
            have HPN : Hid (perN L (nth c k) k a x y keep = true) := Lib.hid (by rw [HD.out]; simp [perN, h9, h10])
            clear h9 h10 HB
            go_wp2_with fail
            go_roundw
            case rel => exact ⟨k + 1, hlt, by go_num, Lib.hid (HE.out.alloc _), Lib.hid (perN_all HP.out HPN.out)⟩
            case measure => simp [RowKit.intOf]; omega
      · have hia : (ni != (a : Int)) = true := by simpa using hi
        have HPN : Hid (perN L (nth c k) k a x y keep = true) := Lib.hid (by rw [HD.out]; simp [perN, hi])
        clear hi HB
        go_wp2_with fail
        go_roundw
        case rel => exact ⟨k + 1, hlt, by go_num, Lib.hid (HE.out.alloc _), Lib.hid (perN_all HP.out HPN.out)⟩
        case measure => simp [RowKit.intOf]; omega
    · obtain rfl : k = c.length := by omega
      go_wp2_with fail
      go_ret
      exact ⟨by rw [show permL L c keep a x y = true from HP.out]; rfl, HE.out⟩
end Wt
