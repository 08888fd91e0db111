/- Walk: wittingref32.Numbers. -/
import Derived.Test.YtoacdccachhjdaaGreatDoorMADa
namespace Wt
open Go Go.RowKit Go.Maps Go.Proofs Fm

theorem K3.own1 {w0 wr : World} {L : List (Nat × Nat)} {F S : List Nat} {v1 v2 v3 : Value} (h : K3 w0 L F S v1 v2 v3 wr) (o : Obj) : (wr.alloc o).ownsRow w0.heap.size 23 2 v1 L.length (rowE L) := (h.ext' ((Ext.refl _).alloc o)).o1
theorem K3.own2 {w0 wr : World} {L : List (Nat × Nat)} {F S : List Nat} {v1 v2 v3 : Value} (h : K3 w0 L F S v1 v2 v3 wr) (o : Obj) : (wr.alloc o).ownsRow w0.heap.size 3 1 v2 F.length ((natI F).map iv) := (h.ext' ((Ext.refl _).alloc o)).o2
theorem K3.own3 {w0 wr : World} {L : List (Nat × Nat)} {F S : List Nat} {v1 v2 v3 : Value} (h : K3 w0 L F S v1 v2 v3 wr) (o : Obj) : (wr.alloc o).ownsRow w0.heap.size 3 1 v3 S.length ((natI S).map iv) := (h.ext' ((Ext.refl _).alloc o)).o3
/-- The pairs so far with their keys. -/
def KP (w0 : World) (k1 k2 : Nat × Nat → Nat) (L : List (Nat × Nat)) (v1 v2 v3 : Value) (wr : World) : Prop := K3 w0 L (L.map k1) (L.map k2) v1 v2 v3 wr
set_option maxRecDepth 20000 in
set_option maxHeartbeats 8000000 in
theorem r32numbers_own (m : Nat) (h1 : 1 ≤ m) (h7 : m ≤ 7) (w : World) : Calls Tryz.prog 16 #[.int .i64 (m : Int)] w fun e w' => RetNk (numM m) (numL m) 0 e w w' := by
  have hE0 : Ext w (w.alloc (.cells #[.int .i64 0, .slice none 0 0, .slice none 0 0] 28)) := (Ext.refl w).alloc _
  have HE := Lib.hid hE0
  have HOR := Lib.hid (OutAt.new w (.int .i64 0) (.slice none 0 0) (.slice none 0 0) 28)
  have hsz : (w.alloc (.cells #[.int .i64 0, .slice none 0 0, .slice none 0 0] 28)).heap.size = w.heap.size + 1 := by simp
  have HSZ := Lib.hid hsz
  have d0 : decide ((m : Int) < 1) = false := decide_eq_false (by omega)
  have d1 : decide ((7 : Int) < (m : Int)) = false := decide_eq_false (by omega)
  clear hE0 hsz
  go_enter Tryz.func16, Tryz.ntmps16
  go_wp2_with fail
  generalize w.alloc (.cells #[.int .i64 0, .slice none 0 0, .slice none 0 0] 28) = w0 at *
  obtain ⟨i0, hi1, hz0, hz1, hz2⟩ := info_parts int_info
  obtain ⟨i3, hk1, hx0, hx1, hx2⟩ := info_parts arr2_info
  go_loopw [5, 6, 7, 8] (fun v1 v2 v3 i wr => ∃ x : Nat, x ≤ m + 1 ∧ i = .int .i64 (x : Int) ∧ Hid (KP w0 Prod.fst Prod.snd (prL m numP (x * (m + 1))) v1 v2 v3 wr)) (fun _ _ _ i _ => m + 1 - (RowKit.intOf i).toNat)
  case atStart => exact ⟨0, Nat.zero_le _, rfl, Lib.hid (by rw [Nat.zero_mul]; exact K3.nil _)⟩
  case round =>
    obtain ⟨x, hx, rfl, HK⟩ := hrel
    by_cases hxm : x ≤ m
    · have dx : decide ((x : Int) ≤ (m : Int)) = true := decide_eq_true (by omega)
      go_wp2_with fail
      go_loopw [5, 6, 7, 9] (fun v1 v2 v3 i wz => ∃ y : Nat, y ≤ m + 1 ∧ i = .int .i64 (y : Int) ∧ Hid (KP w0 Prod.fst Prod.snd (prL m numP (x * (m + 1) + y)) v1 v2 v3 wz)) (fun _ _ _ i _ => m + 1 - (RowKit.intOf i).toNat)
      case atStart => exact ⟨0, Nat.zero_le _, rfl, HK⟩
      case round =>
        clear HK
        rename World => wz
        obtain ⟨y, hy, rfl, HK⟩ := hrel
        by_cases hym : y ≤ m
        · have dy : decide ((y : Int) ≤ (m : Int)) = true := decide_eq_true (by omega)
          have HST := Lib.hid (prL_at m numP (v := x) (j := y) (by omega))
          have HLL : Hid ((prL m numP (x * (m + 1) + y)).length ≤ 64) := Lib.hid (by
            have h := prL_len m numP (x * (m + 1) + y)
            have h2 : x * (m + 1) ≤ 7 * 8 := Nat.mul_le_mul (by omega) (by omega)
            omega)
          have hll := HLL.out
          have HNP : Hid (numP x y = (((x : Int) - (y : Int) == 1) || ((y : Int) - (x : Int) == 1))) := Lib.hid rfl
          generalize prL m numP (x * (m + 1) + y) = L at *
          have HKK : Hid (K3 w0 L (L.map Prod.fst) (L.map Prod.snd) u5 u6 u7 wz) := Lib.hid HK.out
          have hfl : (L.map Prod.fst).length ≤ 64 := by rw [List.length_map]; exact hll
          have hsl : (L.map Prod.snd).length ≤ 64 := by rw [List.length_map]; exact hll
          have HYES : Hid (∀ v1 v2 v3 W, numP x y = true → K3 w0 (L ++ [(x, y)]) (L.map Prod.fst ++ [x]) (L.map Prod.snd ++ [y]) v1 v2 v3 W → KP w0 Prod.fst Prod.snd (prL m numP (x * (m + 1) + (y + 1))) v1 v2 v3 W) := Lib.hid fun v1 v2 v3 W hp h => by
            rw [← Nat.add_assoc, HST.out, if_pos hp]
            unfold KP
            rw [List.map_append, List.map_append]
            exact h
          have HNO : Hid (numP x y = false → KP w0 Prod.fst Prod.snd (prL m numP (x * (m + 1) + (y + 1))) u5 u6 u7 wz) := Lib.hid fun hp => by
            rw [← Nat.add_assoc, HST.out, if_neg (by simp [hp]), List.append_nil]
            exact HKK.out
          clear HK HST HLL
          generalize L.map Prod.fst = F at *
          generalize L.map Prod.snd = S at *
          have hsz1 : w0.heap.size ≤ wz.heap.size := HKK.out.e.size
          obtain ⟨bb, hbb⟩ : ∃ bb, ((x : Int) - (y : Int) == 1) = bb := ⟨_, rfl⟩
          obtain ⟨cc, hcc⟩ : ∃ cc, ((y : Int) - (x : Int) == 1) = cc := ⟨_, rfl⟩
          rw [hbb, hcc] at HNP
          have HONE : Hid (∀ z : Nat, ∀ u ∈ [Value.int .i64 (z : Int)], u.oneCell' = true) := Lib.hid (by simp [Value.oneCell'])
          cases bb
          · cases cc
            · go_wp2_with fail
              go_roundw
              case rel => exact ⟨y + 1, by omega, by go_num, Lib.hid (HNO.out HNP.out)⟩
              case measure => simp [RowKit.intOf]; omega
            · go_upto_region 13 with (at_builtin; refine wpList_append_lies _ rfl _ _ 32 rfl w0.heap.size 23 i3 _ 2 16 Tryz.underlying32 hk1 hx0 hx1 hx2 rfl (by decide) u5 L.length (rowE L) rfl (HKK.out.own1 _) ⟨wz.heap.size, 0, none⟩ 1 1 (peCells (x, y)) rfl rfl (paire_news _ _ _ _) (paire_one _) (by decide) (by unfold maxLen; omega) (by omega) (Nat.le_trans hsz1 (by simp)) (wz.heap.size + 1) (by simp) ?_; intro g1 cap1 W1 hown hgrow hat hlt2; have hp := (HKK.out.ext' ((Ext.refl _).alloc _)).push1 hown hgrow; have HP1 := Lib.hid hp; have hs1 := hp.e.size; clear hp hown hgrow hat hlt2)
              go_upto_region 14 with (at_builtin; refine wpList_append_lies _ rfl _ _ 22 rfl w0.heap.size 3 i0 _ 1 8 Tryz.underlying22 hi1 hz0 hz1 hz2 rfl (by decide) u6 F.length _ rfl (HP1.out.own2 _) ⟨W1.heap.size, 0, none⟩ 1 1 [.int .i64 (x : Int)] rfl rfl (cell_one_new _ _ _) (HONE.out _) (by decide) (by unfold maxLen; omega) (by omega) (Nat.le_trans hs1 (by simp)) (W1.heap.size + 1) (by simp) ?_; intro g2 cap2 W2 hown hgrow hat hlt2; have hp := (HP1.out.ext' ((Ext.refl _).alloc _)).push2 (x := x) hown hgrow hat (by simp); have HP2 := Lib.hid hp; have hs2 := hp.e.size; clear hp hown hgrow hat hlt2)
              go_wp2_with (at_builtin; refine wpList_append_lies _ rfl _ _ 22 rfl w0.heap.size 3 i0 _ 1 8 Tryz.underlying22 hi1 hz0 hz1 hz2 rfl (by decide) u7 S.length _ rfl (HP2.out.own3 _) ⟨W2.heap.size, 0, none⟩ 1 1 [.int .i64 (y : Int)] rfl rfl (cell_one_new _ _ _) (HONE.out _) (by decide) (by unfold maxLen; omega) (by omega) (Nat.le_trans hs2 (by simp)) (W2.heap.size + 1) (by simp) ?_; intro g3 cap3 W3 hown hgrow hat hlt2; have hp := (HP2.out.ext' ((Ext.refl _).alloc _)).push3 (x := y) hown hgrow hat (by simp); have HP3 := Lib.hid hp; clear hp hown hgrow hat hlt2)
              go_roundw
              case rel => exact ⟨y + 1, by omega, by go_num, Lib.hid (HYES.out _ _ _ _ HNP.out HP3.out)⟩
              case measure => simp [RowKit.intOf]; omega
          · go_upto_region 13 with (at_builtin; refine wpList_append_lies _ rfl _ _ 32 rfl w0.heap.size 23 i3 _ 2 16 Tryz.underlying32 hk1 hx0 hx1 hx2 rfl (by decide) u5 L.length (rowE L) rfl (HKK.out.own1 _) ⟨wz.heap.size, 0, none⟩ 1 1 (peCells (x, y)) rfl rfl (paire_news _ _ _ _) (paire_one _) (by decide) (by unfold maxLen; omega) (by omega) (Nat.le_trans hsz1 (by simp)) (wz.heap.size + 1) (by simp) ?_; intro g1 cap1 W1 hown hgrow hat hlt2; have hp := (HKK.out.ext' ((Ext.refl _).alloc _)).push1 hown hgrow; have HP1 := Lib.hid hp; have hs1 := hp.e.size; clear hp hown hgrow hat hlt2)
            go_upto_region 14 with (at_builtin; refine wpList_append_lies _ rfl _ _ 22 rfl w0.heap.size 3 i0 _ 1 8 Tryz.underlying22 hi1 hz0 hz1 hz2 rfl (by decide) u6 F.length _ rfl (HP1.out.own2 _) ⟨W1.heap.size, 0, none⟩ 1 1 [.int .i64 (x : Int)] rfl rfl (cell_one_new _ _ _) (HONE.out _) (by decide) (by unfold maxLen; omega) (by omega) (Nat.le_trans hs1 (by simp)) (W1.heap.size + 1) (by simp) ?_; intro g2 cap2 W2 hown hgrow hat hlt2; have hp := (HP1.out.ext' ((Ext.refl _).alloc _)).push2 (x := x) hown hgrow hat (by simp); have HP2 := Lib.hid hp; have hs2 := hp.e.size; clear hp hown hgrow hat hlt2)
            go_wp2_with (at_builtin; refine wpList_append_lies _ rfl _ _ 22 rfl w0.heap.size 3 i0 _ 1 8 Tryz.underlying22 hi1 hz0 hz1 hz2 rfl (by decide) u7 S.length _ rfl (HP2.out.own3 _) ⟨W2.heap.size, 0, none⟩ 1 1 [.int .i64 (y : Int)] rfl rfl (cell_one_new _ _ _) (HONE.out _) (by decide) (by unfold maxLen; omega) (by omega) (Nat.le_trans hs2 (by simp)) (W2.heap.size + 1) (by simp) ?_; intro g3 cap3 W3 hown hgrow hat hlt2; have hp := (HP2.out.ext' ((Ext.refl _).alloc _)).push3 (x := y) hown hgrow hat (by simp); have HP3 := Lib.hid hp; clear hp hown hgrow hat hlt2)
            go_roundw
            case rel => exact ⟨y + 1, by omega, by go_num, Lib.hid (HYES.out _ _ _ _ (by rw [HNP.out]; rfl) HP3.out)⟩
            case measure => simp [RowKit.intOf]; omega
        · obtain rfl : y = m + 1 := by omega
          have dy : decide (((m + 1 : Nat) : Int) ≤ (m : Int)) = false := decide_eq_false (by omega)
          have dy2 : decide ((m : Int) + 1 ≤ (m : Int)) = false := decide_eq_false (by omega)
          go_wp2_with fail
          go_roundw
          case rel => exact ⟨x + 1, by omega, by go_num, Lib.hid (by rw [Nat.succ_mul]; exact HK.out)⟩
          case measure => simp [RowKit.intOf]; omega
    · obtain rfl : x = m + 1 := by omega
      have dx : decide (((m + 1 : Nat) : Int) ≤ (m : Int)) = false := decide_eq_false (by omega)
      have dx2 : decide ((m : Int) + 1 ≤ (m : Int)) = false := decide_eq_false (by omega)
      have HKK : Hid (K3 w0 (numL m) ((numL m).map Prod.fst) ((numL m).map Prod.snd) u5 u6 u7 wr) := Lib.hid HK.out
      have hok := numL_ok ⟨m, by omega⟩
      have hat := fun k hk => numL_at h7 (k := k) hk
      have htw : prM32 3 (numL m) ((numL m).map Prod.fst) ((numL m).map Prod.snd) = numM m := prM32_two (key := numK) (fun _ => rfl) (fun _ => rfl)
      obtain ⟨LL, hLL⟩ : ∃ LL, LL = numL m := ⟨_, rfl⟩
      rw [← hLL] at HKK hok hat htw
      have HLe := Lib.hid hLL
      obtain ⟨A, hA⟩ : ∃ A, A = numM m := ⟨_, rfl⟩
      rw [← hA] at htw
      have HAe := Lib.hid hA
      obtain ⟨la, lc, hv1, hrp⟩ := RPe_own_all HKK.out.o1 (by omega)
      obtain ⟨fa, fc, hv2, hrf⟩ := RI_own_all HKK.out.o2 (by rw [List.length_map]; omega)
      obtain ⟨sa, sc, hv3, hrs⟩ := RI_own_all HKK.out.o3 (by rw [List.length_map]; omega)
      rw [List.length_map] at hv2 hv3
      subst hv1
      subst hv2
      subst hv3
      have HRP := Lib.hid hrp
      have HX := Lib.hid HKK.out.e
      have hpq := fun fcx scx => r32pairs_any 3 LL _ _ la fa sa lc fcx scx wr (hrp _ fun _ _ _ => rfl) (hrf _ fun _ _ _ => rfl) (hrs _ fun _ _ _ => rfl) (by decide) hok.1 (by simp) (by simp) hat
      rw [htw] at hpq
      have HPQ := Lib.hid (hpq fc sc)
      clear hpq hrp hrf hrs HKK hok hat htw hA hLL
      go_wp2_with fail
      refine HPQ.out.mono ?_
      rintro _ w9 ⟨va, ra, vc, rc, rfl, hka, hE9⟩
      have HKA := Lib.hid hka
      have HE9 := Lib.hid hE9
      have HO9 := Lib.hid (HOR.out.ext (HX.out.trans hE9))
      obtain ⟨r0, r1, r2, rfz⟩ := HO9.out
      have f0 := rfz 0
      have f1 := rfz 1
      have f2 := rfz 2
      have rl := HO9.out.lt
      clear hka hE9 rfz
      dsimp only
      go_wp2_with fail
      have hs0 := HSZ.out
      have hs1 := HX.out.size
      have hbk : ∀ k, k ≠ w.heap.size → (((w9.setCell ⟨w.heap.size, 0, none⟩ (.int .i64 A.worlds)).setCell ⟨w.heap.size, 1, none⟩ (.slice va A.val.length vc)).setCell ⟨w.heap.size, 2, none⟩ (.slice ra A.rel.length rc)).heap[k]? = w9.heap[k]? := fun k hne => by
        rw [heap_setCell_other _ _ _ _ (by simpa using hne), heap_setCell_other _ _ _ _ (by simpa using hne), heap_setCell_other _ _ _ _ (by simpa using hne)]
      have hkm : ∀ w'' : World, Agree w.heap.size (((w9.setCell ⟨w.heap.size, 0, none⟩ (.int .i64 A.worlds)).setCell ⟨w.heap.size, 1, none⟩ (.slice va A.val.length vc)).setCell ⟨w.heap.size, 2, none⟩ (.slice ra A.rel.length rc)) w'' → RM w'' va ra A := fun w'' ag => HKA.out w'' fun k hk hl => (ag k (by omega) (by simp only [World.setCell, Array.size_modify]; omega)).trans (hbk k (by omega))
      have hkr : ∀ w'' : World, Agree w.heap.size (((w9.setCell ⟨w.heap.size, 0, none⟩ (.int .i64 A.worlds)).setCell ⟨w.heap.size, 1, none⟩ (.slice va A.val.length vc)).setCell ⟨w.heap.size, 2, none⟩ (.slice ra A.rel.length rc)) w'' → RPe w'' la LL := fun w'' ag => HRP.out w'' fun k hk hl => (ag k (by omega) (by simp only [World.setCell, Array.size_modify]; have := HE9.out.size; omega)).trans ((hbk k (by omega)).trans (HE9.out.block k hl))
      have hEx : Ext w (((w9.setCell ⟨w.heap.size, 0, none⟩ (.int .i64 A.worlds)).setCell ⟨w.heap.size, 1, none⟩ (.slice va A.val.length vc)).setCell ⟨w.heap.size, 2, none⟩ (.slice ra A.rel.length rc)) := ext_set3Z (HE.out.trans (HX.out.trans HE9.out)) (by omega) _ _ _
      have ho : OutAt w9 w.heap.size (.int .i64 0) (.slice none 0 0) (.slice none 0 0) := HO9.out
      obtain ⟨e0, e1, e2, -⟩ := ((ho.set0 (.int .i64 A.worlds)).set1 (.slice va A.val.length vc)).set2 (.slice ra A.rel.length rc)
      generalize ((w9.setCell ⟨w.heap.size, 0, none⟩ (.int .i64 A.worlds)).setCell ⟨w.heap.size, 1, none⟩ (.slice va A.val.length vc)).setCell ⟨w.heap.size, 2, none⟩ (.slice ra A.rel.length rc) = W2 at *
      refine bodyPost_ret (v := .tuple #[.agg #[.int .i64 A.worlds, .slice va A.val.length vc, .slice ra A.rel.length rc], .slice la LL.length lc, .int .i64 0]) ?_ rfl ?_
      · rw [results_cell_two rfl]
        go_simp
      · rw [← HAe.out, ← HLe.out]
        exact ⟨va, ra, la, vc, rc, lc, rfl, hkm, hkr, hEx⟩
end Wt

/- Walk: wittingref32.Sums. -/
namespace Wt
open Go Go.RowKit Go.Maps Go.Proofs Fm

theorem prL_skip {m : Nat} {P : Nat → Nat → Bool} {v j : Nat} : ∀ d, j + d ≤ m + 1 → (∀ i, j ≤ i → i < j + d → P v i = false) → prL m P (v * (m + 1) + (j + d)) = prL m P (v * (m + 1) + j)
  | 0, _, _ => rfl
  | d + 1, h, hp => by
    have h1 := prL_at m P (v := v) (j := j + d) (by omega)
    rw [hp (j + d) (by omega) (by omega)] at h1
    rw [← Nat.add_assoc j d 1, ← Nat.add_assoc _ (j + d) 1, h1, prL_skip d (by omega) fun i a b => hp i a (by omega)]
    simp
theorem prL_rows {m : Nat} {P : Nat → Nat → Bool} : ∀ l, (∀ v, v < l → ∀ i, i ≤ m → P v i = false) → prL m P (l * (m + 1)) = []
  | 0, _ => by rw [Nat.zero_mul]; rfl
  | l + 1, h => by
    have h1 := prL_skip (m := m) (P := P) (v := l) (j := 0) (m + 1) (by omega) fun i _ hi => h l (by omega) i (by omega)
    rw [Nat.succ_mul]
    rw [Nat.zero_add] at h1
    rw [h1, Nat.add_zero]
    exact prL_rows l fun v hv => h v (by omega)
def sumMo (l m : Nat) : Mo := if sumE l m = 0 then sumM l m else ⟨0, [], []⟩
def sumLo (l m : Nat) : List (Nat × Nat) := if sumE l m = 0 then sumL l m else []
theorem sum_before {l m v i : Nat} (h : v < l) : sumP l m v i = false := by unfold sumP; rw [decide_eq_false (by omega)]; rfl
theorem sum_low {l m v i : Nat} (h : i ≤ v) : sumP l m v i = false := by unfold sumP; rw [decide_eq_false (show ¬ v < i by omega)]; simp
theorem sum_high {l m v i : Nat} (h : m < v + i) : sumP l m v i = false := by unfold sumP; rw [decide_eq_false (show ¬ v + i ≤ m by omega)]; simp
theorem sum_in {l m v i : Nat} (h1 : l ≤ v) (h2 : v < i) (h3 : v + i ≤ m) : sumP l m v i = true := by unfold sumP; rw [decide_eq_true h1, decide_eq_true h2, decide_eq_true h3]; rfl
theorem sum_start (l m : Nat) : prL m (sumP l m) (l * (m + 1)) = [] := prL_rows l fun _ hv _ _ => sum_before hv
theorem sum_inner (l m : Nat) {x : Nat} (hx : x ≤ m) : prL m (sumP l m) (x * (m + 1) + (x + 1)) = prL m (sumP l m) (x * (m + 1)) := by
  have h := prL_skip (m := m) (P := sumP l m) (v := x) (j := 0) (x + 1) (by omega) fun i _ hi => sum_low (by omega)
  rw [Nat.zero_add] at h
  exact h
theorem sum_next (l m : Nat) {x y : Nat} (hy : y ≤ m + 1) (h : m < x + y) : prL m (sumP l m) ((x + 1) * (m + 1)) = prL m (sumP l m) (x * (m + 1) + y) := by
  have h1 := prL_skip (m := m) (P := sumP l m) (v := x) (j := y) (m + 1 - y) (by omega) fun i hi _ => sum_high (by omega)
  rw [show y + (m + 1 - y) = m + 1 by omega] at h1
  rw [Nat.succ_mul]
  exact h1
theorem sum_end (l m : Nat) {x : Nat} (h1 : l ≤ x) (h2 : m < x) (h3 : x ≤ m + 1 ∨ x = l) : prL m (sumP l m) (x * (m + 1)) = sumL l m := by
  rcases h3 with h3 | h3
  · obtain rfl : x = m + 1 := by omega
    rfl
  · subst h3
    rw [sum_start]
    unfold sumL prAll
    rw [prL_rows (m + 1) fun _ hv _ _ => sum_before (by omega)]
set_option maxRecDepth 20000 in
set_option maxHeartbeats 16000000 in
theorem r32sums_own (l m : Nat) (hl : l ≤ 15) (hm : m ≤ 30) (w : World) : Calls Tryz.prog 19 #[.int .i64 (l : Int), .int .i64 (m : Int)] w fun e w' => RetNk (sumMo l m) (sumLo l m) (sumE l m) e w w' := by
  have hE0 : Ext w (w.alloc (.cells #[.int .i64 0, .slice none 0 0, .slice none 0 0] 28)) := (Ext.refl w).alloc _
  have HE := Lib.hid hE0
  have HOR := Lib.hid (OutAt.new w (.int .i64 0) (.slice none 0 0) (.slice none 0 0) 28)
  have hsz : (w.alloc (.cells #[.int .i64 0, .slice none 0 0, .slice none 0 0] 28)).heap.size = w.heap.size + 1 := by simp
  have HSZ := Lib.hid hsz
  have d0 : decide ((l : Int) < 0) = false := decide_eq_false (by omega)
  have d1 : decide ((15 : Int) < (l : Int)) = false := decide_eq_false (by omega)
  have d2 : decide ((m : Int) < 0) = false := decide_eq_false (by omega)
  have d3 : decide ((30 : Int) < (m : Int)) = false := decide_eq_false (by omega)
  clear hE0 hsz
  go_enter Tryz.func19, Tryz.ntmps19
  go_wp2_with fail
  generalize w.alloc (.cells #[.int .i64 0, .slice none 0 0, .slice none 0 0] 28) = w0 at *
  obtain ⟨i0, hi1, hz0, hz1, hz2⟩ := info_parts int_info
  obtain ⟨i3, hk1, hx0, hx1, hx2⟩ := info_parts arr2_info
  go_loopw [7, 8, 9, 10, 11] (fun v1 v2 v3 t i wr => ∃ (x : Nat) (tb : Bool), l ≤ x ∧ (x ≤ m + 1 ∨ x = l) ∧ i = .int .i64 (x : Int) ∧ t = .bool tb ∧ Hid (tb = (prL m (sumP l m) (x * (m + 1))).any sumB) ∧ Hid (KP w0 (fun p => p.1 + p.2) (fun p => p.1 * p.2) (prL m (sumP l m) (x * (m + 1))) v1 v2 v3 wr)) (fun _ _ _ _ i _ => 64 - (RowKit.intOf i).toNat)
  case atStart => exact ⟨l, false, Nat.le_refl _, .inr rfl, rfl, rfl, Lib.hid (by rw [sum_start]; rfl), Lib.hid (by rw [sum_start]; exact K3.nil _)⟩
  case round =>
    obtain ⟨x, tb, hlx, hx, rfl, rfl, HTB, HK⟩ := hrel
    by_cases hxm : x ≤ m
    · have dx : decide ((x : Int) ≤ (m : Int)) = true := decide_eq_true (by omega)
      go_wp2_with fail
      go_loopw [7, 8, 9, 10, 12] (fun v1 v2 v3 t i wz => ∃ (y : Nat) (tc : Bool), x + 1 ≤ y ∧ y ≤ m + 1 ∧ i = .int .i64 (y : Int) ∧ t = .bool tc ∧ Hid (tc = (prL m (sumP l m) (x * (m + 1) + y)).any sumB) ∧ Hid (KP w0 (fun p => p.1 + p.2) (fun p => p.1 * p.2) (prL m (sumP l m) (x * (m + 1) + y)) v1 v2 v3 wz)) (fun _ _ _ _ i _ => 64 - (RowKit.intOf i).toNat)
      case atStart => exact ⟨x + 1, tb, Nat.le_refl _, by omega, by go_num, rfl, Lib.hid (by rw [sum_inner l m hxm]; exact HTB.out), Lib.hid (by rw [sum_inner l m hxm]; exact HK.out)⟩
      case round =>
        clear HK HTB
        rename World => wz
        obtain ⟨y, tc, hxy, hy, rfl, rfl, HTC, HK⟩ := hrel
        by_cases hym : x + y ≤ m
        · have dy : decide ((x : Int) + (y : Int) ≤ (m : Int)) = true := decide_eq_true (by omega)
          have HST := Lib.hid (prL_at m (sumP l m) (v := x) (j := y) (by omega))
          have HYP := Lib.hid (sum_in (l := l) (m := m) hlx (show x < y by omega) hym)
          have HLL : Hid ((prL m (sumP l m) (x * (m + 1) + y)).length ≤ 1000) := Lib.hid (by
            have h := prL_len m (sumP l m) (x * (m + 1) + y)
            have h2 : x * (m + 1) ≤ 30 * 31 := Nat.mul_le_mul (by omega) (by omega)
            omega)
          have hll := HLL.out
          generalize prL m (sumP l m) (x * (m + 1) + y) = L at *
          have HKK : Hid (K3 w0 L (L.map fun p => p.1 + p.2) (L.map fun p => p.1 * p.2) u7 u8 u9 wz) := Lib.hid HK.out
          have hfl : (L.map fun p => p.1 + p.2).length ≤ 1000 := by rw [List.length_map]; exact hll
          have hsl : (L.map fun p => p.1 * p.2).length ≤ 1000 := by rw [List.length_map]; exact hll
          have HYES : Hid (∀ v1 v2 v3 W, K3 w0 (L ++ [(x, y)]) ((L.map fun p => p.1 + p.2) ++ [x + y]) ((L.map fun p => p.1 * p.2) ++ [x * y]) v1 v2 v3 W → KP w0 (fun p => p.1 + p.2) (fun p => p.1 * p.2) (prL m (sumP l m) (x * (m + 1) + (y + 1))) v1 v2 v3 W) := Lib.hid fun v1 v2 v3 W h => by
            rw [← Nat.add_assoc, HST.out, if_pos HYP.out]
            unfold KP
            rw [List.map_append, List.map_append]
            exact h
          have HANY : Hid ((prL m (sumP l m) (x * (m + 1) + (y + 1))).any sumB = (tc || decide ((15 : Int) < (y : Int)))) := Lib.hid (by
            rw [← Nat.add_assoc, HST.out, if_pos HYP.out, List.any_append, HTC.out]
            congr 1
            unfold sumB
            simp only [List.any_cons, List.any_nil, Bool.or_false]
            exact decide_eq_decide.2 (by omega))
          clear HK HST HLL HTC
          generalize (L.map fun p => p.1 + p.2) = F at *
          generalize (L.map fun p => p.1 * p.2) = S at *
          have hsz1 : w0.heap.size ≤ wz.heap.size := HKK.out.e.size
          obtain ⟨dd, hdd⟩ : ∃ dd, decide ((15 : Int) < (y : Int)) = dd := ⟨_, rfl⟩
          rw [hdd] at HANY
          have hmul : x * y ≤ 30 * 31 := Nat.mul_le_mul (by omega) (by omega)
          have hm1 : (0 : Int) ≤ (x : Int) * (y : Int) := by rw [← Int.natCast_mul]; omega
          have hm2 : (x : Int) * (y : Int) ≤ 930 := by rw [← Int.natCast_mul]; omega
          have HON2 : Hid (∀ u ∈ [Value.int .i64 ((x : Int) + (y : Int))], u.oneCell' = true) := Lib.hid (by simp [Value.oneCell'])
          have HON3 : Hid (∀ u ∈ [Value.int .i64 ((x : Int) * (y : Int))], u.oneCell' = true) := Lib.hid (by simp [Value.oneCell'])
          cases tc
          · go_upto_region 13 with (at_builtin; refine wpList_append_lies _ rfl _ _ 32 rfl w0.heap.size 23 i3 _ 2 16 Tryz.underlying32 hk1 hx0 hx1 hx2 rfl (by decide) u7 L.length (rowE L) rfl (HKK.out.own1 _) ⟨wz.heap.size, 0, none⟩ 1 1 (peCells (x, y)) rfl rfl (paire_news _ _ _ _) (paire_one _) (by decide) (by unfold maxLen; omega) (by omega) (Nat.le_trans hsz1 (by simp)) (wz.heap.size + 1) (by simp) ?_; intro g1 cap1 W1 hown hgrow hat hlt2; have hp := (HKK.out.ext' ((Ext.refl _).alloc _)).push1 hown hgrow; have HP1 := Lib.hid hp; have hs1 := hp.e.size; clear hp hown hgrow hat hlt2)
            go_upto_region 14 with (at_builtin; refine wpList_append_lies _ rfl _ _ 22 rfl w0.heap.size 3 i0 _ 1 8 Tryz.underlying22 hi1 hz0 hz1 hz2 rfl (by decide) u8 F.length _ rfl (HP1.out.own2 _) ⟨W1.heap.size, 0, none⟩ 1 1 [.int .i64 ((x : Int) + (y : Int))] rfl rfl (cell_one_new _ _ _) (HON2.out) (by decide) (by unfold maxLen; omega) (by omega) (Nat.le_trans hs1 (by simp)) (W1.heap.size + 1) (by simp) ?_; intro g2 cap2 W2 hown hgrow hat hlt2; have hp := (HP1.out.ext' ((Ext.refl _).alloc _)).push2 (x := x + y) hown hgrow hat (by simp); have HP2 := Lib.hid hp; have hs2 := hp.e.size; clear hp hown hgrow hat hlt2)
            go_upto_region 15 with (at_builtin; refine wpList_append_lies _ rfl _ _ 22 rfl w0.heap.size 3 i0 _ 1 8 Tryz.underlying22 hi1 hz0 hz1 hz2 rfl (by decide) u9 S.length _ rfl (HP2.out.own3 _) ⟨W2.heap.size, 0, none⟩ 1 1 [.int .i64 ((x : Int) * (y : Int))] rfl rfl (cell_one_new _ _ _) (HON3.out) (by decide) (by unfold maxLen; omega) (by omega) (Nat.le_trans hs2 (by simp)) (W2.heap.size + 1) (by simp) ?_; intro g3 cap3 W3 hown hgrow hat hlt2; have hp := (HP2.out.ext' ((Ext.refl _).alloc _)).push3 (x := x * y) hown hgrow hat (by simp); have HP3 := Lib.hid hp; clear hp hown hgrow hat hlt2)
            go_wp2_with fail
            go_roundw
            case rel => exact ⟨y + 1, dd, by omega, by omega, by go_num, rfl, Lib.hid (by rw [HANY.out]; rfl), Lib.hid (HYES.out _ _ _ _ HP3.out)⟩
            case measure => simp [RowKit.intOf]; omega
          · go_upto_region 13 with (at_builtin; refine wpList_append_lies _ rfl _ _ 32 rfl w0.heap.size 23 i3 _ 2 16 Tryz.underlying32 hk1 hx0 hx1 hx2 rfl (by decide) u7 L.length (rowE L) rfl (HKK.out.own1 _) ⟨wz.heap.size, 0, none⟩ 1 1 (peCells (x, y)) rfl rfl (paire_news _ _ _ _) (paire_one _) (by decide) (by unfold maxLen; omega) (by omega) (Nat.le_trans hsz1 (by simp)) (wz.heap.size + 1) (by simp) ?_; intro g1 cap1 W1 hown hgrow hat hlt2; have hp := (HKK.out.ext' ((Ext.refl _).alloc _)).push1 hown hgrow; have HP1 := Lib.hid hp; have hs1 := hp.e.size; clear hp hown hgrow hat hlt2)
            go_upto_region 14 with (at_builtin; refine wpList_append_lies _ rfl _ _ 22 rfl w0.heap.size 3 i0 _ 1 8 Tryz.underlying22 hi1 hz0 hz1 hz2 rfl (by decide) u8 F.length _ rfl (HP1.out.own2 _) ⟨W1.heap.size, 0, none⟩ 1 1 [.int .i64 ((x : Int) + (y : Int))] rfl rfl (cell_one_new _ _ _) (HON2.out) (by decide) (by unfold maxLen; omega) (by omega) (Nat.le_trans hs1 (by simp)) (W1.heap.size + 1) (by simp) ?_; intro g2 cap2 W2 hown hgrow hat hlt2; have hp := (HP1.out.ext' ((Ext.refl _).alloc _)).push2 (x := x + y) hown hgrow hat (by simp); have HP2 := Lib.hid hp; have hs2 := hp.e.size; clear hp hown hgrow hat hlt2)
            go_upto_region 15 with (at_builtin; refine wpList_append_lies _ rfl _ _ 22 rfl w0.heap.size 3 i0 _ 1 8 Tryz.underlying22 hi1 hz0 hz1 hz2 rfl (by decide) u9 S.length _ rfl (HP2.out.own3 _) ⟨W2.heap.size, 0, none⟩ 1 1 [.int .i64 ((x : Int) * (y : Int))] rfl rfl (cell_one_new _ _ _) (HON3.out) (by decide) (by unfold maxLen; omega) (by omega) (Nat.le_trans hs2 (by simp)) (W2.heap.size + 1) (by simp) ?_; intro g3 cap3 W3 hown hgrow hat hlt2; have hp := (HP2.out.ext' ((Ext.refl _).alloc _)).push3 (x := x * y) hown hgrow hat (by simp); have HP3 := Lib.hid hp; clear hp hown hgrow hat hlt2)
            go_wp2_with fail
            go_roundw
            case rel => exact ⟨y + 1, true, by omega, by omega, by go_num, rfl, Lib.hid (by rw [HANY.out]; rfl), Lib.hid (HYES.out _ _ _ _ HP3.out)⟩
            case measure => simp [RowKit.intOf]; omega
        · have dy : decide ((x : Int) + (y : Int) ≤ (m : Int)) = false := decide_eq_false (by omega)
          go_wp2_with fail
          go_roundw
          case rel => exact ⟨x + 1, tc, by omega, by omega, by go_num, rfl, Lib.hid (by rw [sum_next l m hy (by omega)]; exact HTC.out), Lib.hid (by rw [sum_next l m hy (by omega)]; exact HK.out)⟩
          case measure => simp [RowKit.intOf]; omega
    · have dx : decide ((x : Int) ≤ (m : Int)) = false := decide_eq_false (by omega)
      have hse := sum_end l m hlx (by omega) hx
      rw [hse] at HTB HK
      have HLM : Hid ((sumL l m).length ≤ 961) := Lib.hid (by
        have h := prL_len m (sumP l m) ((m + 1) * (m + 1))
        have h2 : (m + 1) * (m + 1) ≤ 31 * 31 := Nat.mul_le_mul (by omega) (by omega)
        unfold sumL prAll
        omega)
      have HKK : Hid (K3 w0 (sumL l m) ((sumL l m).map fun p => p.1 + p.2) ((sumL l m).map fun p => p.1 * p.2) u7 u8 u9 wr) := Lib.hid HK.out
      have HEQ : Hid (sumE l m = if sumL l m = [] then 6 else if 64 < (sumL l m).length ∨ (sumL l m).any sumB = true then 8 else 0) := Lib.hid (by unfold sumE; rw [if_neg (by omega)])
      have hlm := HLM.out
      clear hse HK
      by_cases hnil : sumL l m = []
      · have hE6 : sumE l m = 6 := by rw [HEQ.out, if_pos hnil]
        have hM : sumMo l m = ⟨0, [], []⟩ := by unfold sumMo; rw [hE6]; rfl
        have hL : sumLo l m = [] := by unfold sumLo; rw [hE6]; rfl
        have HM := Lib.hid hM
        have HL := Lib.hid hL
        have HER := Lib.hid hE6
        have HX := Lib.hid HKK.out.e
        obtain ⟨la, lc, hv1, -⟩ := RPe_own_all HKK.out.o1 (by omega)
        rw [hnil] at hv1
        subst hv1
        clear hM hL hE6 hnil HKK HTB HEQ HLM hlm
        simp only [List.length_nil]
        have HO9 := Lib.hid (HOR.out.ext HX.out)
        obtain ⟨r0, r1, r2, rfz⟩ := HO9.out
        have f0 := rfz 0
        have f1 := rfz 1
        have f2 := rfz 2
        have rl := HO9.out.lt
        clear rfz
        go_wp2_with fail
        have hs0 := HSZ.out
        have hEx : Ext w (((wr.setCell ⟨w.heap.size, 0, none⟩ (.int .i64 0)).setCell ⟨w.heap.size, 1, none⟩ (.slice none 0 0)).setCell ⟨w.heap.size, 2, none⟩ (.slice none 0 0)) := ext_set3Z (HE.out.trans HX.out) (by omega) _ _ _
        have ho : OutAt wr w.heap.size (.int .i64 0) (.slice none 0 0) (.slice none 0 0) := HO9.out
        obtain ⟨e0, e1, e2, -⟩ := ((ho.set0 (.int .i64 0)).set1 (.slice none 0 0)).set2 (.slice none 0 0)
        clear r0 r1 r2 f0 f1 f2 rl
        generalize ((wr.setCell ⟨w.heap.size, 0, none⟩ (.int .i64 0)).setCell ⟨w.heap.size, 1, none⟩ (.slice none 0 0)).setCell ⟨w.heap.size, 2, none⟩ (.slice none 0 0) = W2 at *
        refine bodyPost_ret (v := .tuple #[.agg #[.int .i64 0, .slice none 0 0, .slice none 0 0], .slice none 0 0, .int .i64 6]) ?_ rfl ?_
        · rw [results_cell_two rfl]
          go_simp
        · rw [HM.out, HL.out, HER.out]
          exact ⟨none, none, none, 0, 0, 0, rfl, fun w'' _ => (FrM.zero 0 w'' 0).rm, fun w'' _ => RPe.nil _ _, hEx⟩
      obtain ⟨la0, lc0, hv1, -⟩ := RPe_own_all HKK.out.o1 (by omega)
      have hl0 : (((sumL l m).length : Int) == 0) = false := by
        have h2 : (sumL l m).length ≠ 0 := fun e => hnil (List.eq_nil_of_length_eq_zero e)
        rw [beq_eq_false_iff_ne]; omega
      by_cases hany : (sumL l m).any sumB = true
      · have hE8 : sumE l m = 8 := by rw [HEQ.out, if_neg hnil, if_pos (.inr hany)]
        have hM : sumMo l m = ⟨0, [], []⟩ := by unfold sumMo; rw [hE8]; rfl
        have hL : sumLo l m = [] := by unfold sumLo; rw [hE8]; rfl
        have HM := Lib.hid hM
        have HL := Lib.hid hL
        have HER := Lib.hid hE8
        have HX := Lib.hid HKK.out.e
        obtain rfl : true = tb := by rw [HTB.out, hany]
        subst hv1
        clear hM hL hE8 hnil HKK HTB HEQ HLM hany
        generalize sumL l m = LQ at *
        have HO9 := Lib.hid (HOR.out.ext HX.out)
        obtain ⟨r0, r1, r2, rfz⟩ := HO9.out
        have f0 := rfz 0
        have f1 := rfz 1
        have f2 := rfz 2
        have rl := HO9.out.lt
        clear rfz
        go_wp2_with fail
        have hs0 := HSZ.out
        have hEx : Ext w (((wr.setCell ⟨w.heap.size, 0, none⟩ (.int .i64 0)).setCell ⟨w.heap.size, 1, none⟩ (.slice none 0 0)).setCell ⟨w.heap.size, 2, none⟩ (.slice none 0 0)) := ext_set3Z (HE.out.trans HX.out) (by omega) _ _ _
        have ho : OutAt wr w.heap.size (.int .i64 0) (.slice none 0 0) (.slice none 0 0) := HO9.out
        obtain ⟨e0, e1, e2, -⟩ := ((ho.set0 (.int .i64 0)).set1 (.slice none 0 0)).set2 (.slice none 0 0)
        clear r0 r1 r2 f0 f1 f2 rl
        generalize ((wr.setCell ⟨w.heap.size, 0, none⟩ (.int .i64 0)).setCell ⟨w.heap.size, 1, none⟩ (.slice none 0 0)).setCell ⟨w.heap.size, 2, none⟩ (.slice none 0 0) = W2 at *
        refine bodyPost_ret (v := .tuple #[.agg #[.int .i64 0, .slice none 0 0, .slice none 0 0], .slice none 0 0, .int .i64 8]) ?_ rfl ?_
        · rw [results_cell_two rfl]
          go_simp
        · rw [HM.out, HL.out, HER.out]
          exact ⟨none, none, none, 0, 0, 0, rfl, fun w'' _ => (FrM.zero 0 w'' 0).rm, fun w'' _ => RPe.nil _ _, hEx⟩
      by_cases h64 : 64 < (sumL l m).length
      · have hE8 : sumE l m = 8 := by rw [HEQ.out, if_neg hnil, if_pos (.inl h64)]
        have hM : sumMo l m = ⟨0, [], []⟩ := by unfold sumMo; rw [hE8]; rfl
        have hL : sumLo l m = [] := by unfold sumLo; rw [hE8]; rfl
        have HM := Lib.hid hM
        have HL := Lib.hid hL
        have HER := Lib.hid hE8
        have HX := Lib.hid HKK.out.e
        obtain rfl : false = tb := by
          rw [HTB.out]
          cases hb : (sumL l m).any sumB
          · rfl
          · exact absurd hb hany
        subst hv1
        clear hM hL hE8 hnil HKK HTB HEQ HLM hany
        generalize sumL l m = LQ at *
        have hd64 : decide ((64 : Int) < (LQ.length : Int)) = true := decide_eq_true (by omega)
        have HO9 := Lib.hid (HOR.out.ext HX.out)
        obtain ⟨r0, r1, r2, rfz⟩ := HO9.out
        have f0 := rfz 0
        have f1 := rfz 1
        have f2 := rfz 2
        have rl := HO9.out.lt
        clear rfz
        go_wp2_with fail
        have hs0 := HSZ.out
        have hEx : Ext w (((wr.setCell ⟨w.heap.size, 0, none⟩ (.int .i64 0)).setCell ⟨w.heap.size, 1, none⟩ (.slice none 0 0)).setCell ⟨w.heap.size, 2, none⟩ (.slice none 0 0)) := ext_set3Z (HE.out.trans HX.out) (by omega) _ _ _
        have ho : OutAt wr w.heap.size (.int .i64 0) (.slice none 0 0) (.slice none 0 0) := HO9.out
        obtain ⟨e0, e1, e2, -⟩ := ((ho.set0 (.int .i64 0)).set1 (.slice none 0 0)).set2 (.slice none 0 0)
        clear r0 r1 r2 f0 f1 f2 rl
        generalize ((wr.setCell ⟨w.heap.size, 0, none⟩ (.int .i64 0)).setCell ⟨w.heap.size, 1, none⟩ (.slice none 0 0)).setCell ⟨w.heap.size, 2, none⟩ (.slice none 0 0) = W2 at *
        refine bodyPost_ret (v := .tuple #[.agg #[.int .i64 0, .slice none 0 0, .slice none 0 0], .slice none 0 0, .int .i64 8]) ?_ rfl ?_
        · rw [results_cell_two rfl]
          go_simp
        · rw [HM.out, HL.out, HER.out]
          exact ⟨none, none, none, 0, 0, 0, rfl, fun w'' _ => (FrM.zero 0 w'' 0).rm, fun w'' _ => RPe.nil _ _, hEx⟩
      have hE0 : sumE l m = 0 := by rw [HEQ.out, if_neg hnil, if_neg (fun h => h.elim h64 hany)]
      have hM : sumMo l m = sumM l m := by unfold sumMo; rw [if_pos hE0]
      have hL : sumLo l m = sumL l m := by unfold sumLo; rw [if_pos hE0]
      have HM := Lib.hid hM
      have HL := Lib.hid hL
      have HE0 := Lib.hid hE0
      obtain rfl : false = tb := by
        rw [HTB.out]
        cases hb : (sumL l m).any sumB
        · rfl
        · exact absurd hb hany
      have hd64 : decide ((64 : Int) < ((sumL l m).length : Int)) = false := decide_eq_false (by omega)
      obtain ⟨-, -, -, h64', -, hpp⟩ := sumE_ok hE0
      have hok : (sumL l m).length ≤ 64 ∧ True := ⟨h64', trivial⟩
      have hat := fun k (hk : k < (sumL l m).length) => hpp _ (nth_mem hk)
      have htw : prM32 4 (sumL l m) ((sumL l m).map fun p => p.1 + p.2) ((sumL l m).map fun p => p.1 * p.2) = sumM l m := prM32_two (key := sumK) (fun _ => rfl) (fun _ => rfl)
      clear hv1 hM hL hE0 hpp h64' hany h64 hnil HEQ HTB HLM
      obtain ⟨LL, hLL⟩ : ∃ LL, LL = sumL l m := ⟨_, rfl⟩
      rw [← hLL] at HKK hok hat htw hl0 hd64
      have HLe := Lib.hid hLL
      obtain ⟨A, hA⟩ : ∃ A, A = sumM l m := ⟨_, rfl⟩
      rw [← hA] at htw
      have HAe := Lib.hid hA
      obtain ⟨la, lc, hv1, hrp⟩ := RPe_own_all HKK.out.o1 (by omega)
      obtain ⟨fa, fc, hv2, hrf⟩ := RI_own_all HKK.out.o2 (by rw [List.length_map]; omega)
      obtain ⟨sa, sc, hv3, hrs⟩ := RI_own_all HKK.out.o3 (by rw [List.length_map]; omega)
      rw [List.length_map] at hv2 hv3
      subst hv1
      subst hv2
      subst hv3
      have HRP := Lib.hid hrp
      have HX := Lib.hid HKK.out.e
      have hpq := fun fcx scx => r32pairs_any 4 LL _ _ la fa sa lc fcx scx wr (hrp _ fun _ _ _ => rfl) (hrf _ fun _ _ _ => rfl) (hrs _ fun _ _ _ => rfl) (by decide) hok.1 (by simp) (by simp) hat
      rw [htw] at hpq
      have HPQ := Lib.hid (hpq fc sc)
      clear hpq hrp hrf hrs HKK hok hat htw hA hLL
      go_wp2_with fail
      refine HPQ.out.mono ?_
      rintro _ w9 ⟨va, ra, vc, rc, rfl, hka, hE9⟩
      have HKA := Lib.hid hka
      have HE9 := Lib.hid hE9
      have HO9 := Lib.hid (HOR.out.ext (HX.out.trans hE9))
      obtain ⟨r0, r1, r2, rfz⟩ := HO9.out
      have f0 := rfz 0
      have f1 := rfz 1
      have f2 := rfz 2
      have rl := HO9.out.lt
      clear hka hE9 rfz
      dsimp only
      go_wp2_with fail
      have hs0 := HSZ.out
      have hs1 := HX.out.size
      have hbk : ∀ k, k ≠ w.heap.size → (((w9.setCell ⟨w.heap.size, 0, none⟩ (.int .i64 A.worlds)).setCell ⟨w.heap.size, 1, none⟩ (.slice va A.val.length vc)).setCell ⟨w.heap.size, 2, none⟩ (.slice ra A.rel.length rc)).heap[k]? = w9.heap[k]? := fun k hne => by
        rw [heap_setCell_other _ _ _ _ (by simpa using hne), heap_setCell_other _ _ _ _ (by simpa using hne), heap_setCell_other _ _ _ _ (by simpa using hne)]
      have hkm : ∀ w'' : World, Agree w.heap.size (((w9.setCell ⟨w.heap.size, 0, none⟩ (.int .i64 A.worlds)).setCell ⟨w.heap.size, 1, none⟩ (.slice va A.val.length vc)).setCell ⟨w.heap.size, 2, none⟩ (.slice ra A.rel.length rc)) w'' → RM w'' va ra A := fun w'' ag => HKA.out w'' fun k hk hl => (ag k (by omega) (by simp only [World.setCell, Array.size_modify]; omega)).trans (hbk k (by omega))
      have hkr : ∀ w'' : World, Agree w.heap.size (((w9.setCell ⟨w.heap.size, 0, none⟩ (.int .i64 A.worlds)).setCell ⟨w.heap.size, 1, none⟩ (.slice va A.val.length vc)).setCell ⟨w.heap.size, 2, none⟩ (.slice ra A.rel.length rc)) w'' → RPe w'' la LL := fun w'' ag => HRP.out w'' fun k hk hl => (ag k (by omega) (by simp only [World.setCell, Array.size_modify]; have := HE9.out.size; omega)).trans ((hbk k (by omega)).trans (HE9.out.block k hl))
      have hEx : Ext w (((w9.setCell ⟨w.heap.size, 0, none⟩ (.int .i64 A.worlds)).setCell ⟨w.heap.size, 1, none⟩ (.slice va A.val.length vc)).setCell ⟨w.heap.size, 2, none⟩ (.slice ra A.rel.length rc)) := ext_set3Z (HE.out.trans (HX.out.trans HE9.out)) (by omega) _ _ _
      have ho : OutAt w9 w.heap.size (.int .i64 0) (.slice none 0 0) (.slice none 0 0) := HO9.out
      obtain ⟨e0, e1, e2, -⟩ := ((ho.set0 (.int .i64 A.worlds)).set1 (.slice va A.val.length vc)).set2 (.slice ra A.rel.length rc)
      generalize ((w9.setCell ⟨w.heap.size, 0, none⟩ (.int .i64 A.worlds)).setCell ⟨w.heap.size, 1, none⟩ (.slice va A.val.length vc)).setCell ⟨w.heap.size, 2, none⟩ (.slice ra A.rel.length rc) = W2 at *
      refine bodyPost_ret (v := .tuple #[.agg #[.int .i64 A.worlds, .slice va A.val.length vc, .slice ra A.rel.length rc], .slice la LL.length lc, .int .i64 0]) ?_ rfl ?_
      · rw [results_cell_two rfl]
        go_simp
      · rw [HM.out, HL.out, HE0.out, ← HAe.out, ← HLe.out]
        exact ⟨va, ra, la, vc, rc, lc, rfl, hkm, hkr, hEx⟩
end Wt
