/- Walk: wittingref32.deals. -/
import Derived.Test.YtoacdccachhjdaaGreatDoorMADa
namespace Wt
open Go Go.RowKit Go.Maps Go.Proofs Fm

theorem RI.someY {w : World} {a : Option Addr} {s : List Nat} (h : RI w a (natI s)) (h1 : 1 ≤ s.length) : ∃ ad, a = some ad := by
  obtain ⟨b, off, e, _⟩ := h.at_ 0 (by rw [natI_len]; omega)
  exact ⟨_, e⟩
set_option maxRecDepth 20000 in
set_option maxHeartbeats 4000000 in
theorem r32deals_zero (s : List Nat) (a : Option Addr) (c : Nat) (cards : Int) (w : World) (hs : s.length ≤ 100) (h1 : 1 ≤ s.length) (hr : RI w a (natI s)) :
    Calls Tryz.prog 70 #[.slice a s.length c, .int .i64 (s.length : Int), .int .i64 cards] w fun e w' => RetDk [s] e w w' := by
  obtain ⟨ad, rfl⟩ := hr.someY h1
  have HN := Lib.hid hr.newsZ
  have HO := Lib.hid (iv_oneZ (natI s))
  have hnl : (natI s).length = s.length := by simp [natI]
  have HNL := Lib.hid hnl
  obtain ⟨i0, hi1, hz0, hz1, hz2⟩ := info_parts int_info
  clear hr hnl
  go_enter Tryz.func70, Tryz.ntmps70
  go_wp2_with (at_builtin; refine wpList_append_own_at _ rfl _ _ 22 rfl w.heap.size 3 i0 _ 1 8 Tryz.underlying22 hi1 hz0 hz1 hz2 rfl (by decide) _ 0 [] rfl ?c0 ad s.length c ((natI s).map iv) rfl ?c6 ?c1 HO.out ?c3 ?c4 ?c5 ?_)
  case c0 => exact World.ownsRow_made w #[] 0 (Nat.le_refl _) (by unfold maxLen; omega) rfl
  case c6 => simp [natI]
  case c1 => exact fun j u h => ((Ext.refl w).alloc _).cell (HN.out j u h)
  case c3 => unfold maxLen; omega
  case c4 => omega
  case c5 => simp
  intro v' W1 hown hgr _ _
  have hE : Ext w W1 := Below.grown ((Ext.refl w).alloc _) hgr (Ext.size ((Ext.refl w).alloc _)) (fun k hk => by simp [Value.ownBlock] at hk; omega)
  try simp only [Nat.zero_add, List.nil_append] at hown
  obtain ⟨a2, c2, rfl⟩ : ∃ a2 c2, v' = .slice a2 s.length c2 := by
    have ho2 := hown
    rw [← HNL.out] at ho2
    obtain ⟨a2, c2, e, -⟩ := RI_of_own ho2 (by rw [HNL.out]; omega)
    exact ⟨a2, c2, by rw [e, HNL.out]⟩
  have HOW := Lib.hid hown
  have HE := Lib.hid hE
  clear hown hE hgr
  go_wp2_with fail
  go_ret
  refine ⟨[.slice a2 s.length c2], _, rfl, HE.out.alloc _, rfl, ?_, fun j hj => ?_⟩
  · exact ⟨rfl, .inr ⟨W1.heap.size, 1, #[.slice a2 s.length c2], rfl, HE.out.size, World.alloc_heap_new W1 _, Nat.le_refl _, by unfold maxLen; omega, rfl, rfl⟩⟩
  · obtain rfl : j = 0 := by simp at hj; omega
    show World.ownsRow _ _ _ _ (.slice a2 s.length c2) s.length ((natI s).map iv)
    exact HOW.out.kept (row := none) ⟨rfl, rfl, rfl, ((Ext.refl W1).alloc _).size, fun k hk _ => ((Ext.refl W1).alloc _).block k hk⟩ (by cases a2 <;> simp [Value.ownBlock])
theorem cell_one_newY (w : World) (o : Obj) (v : Value) (T : Nat) : ∀ j u, [v][j]? = some u → ((w.alloc o).alloc (.cells #[v] T)).cell? ((⟨w.heap.size + 1, 0, none⟩ : Addr).add j) = some u := by
  have h := cell_one_new (w.alloc o) v T
  rw [show (w.alloc o).heap.size = w.heap.size + 1 by simp] at h
  exact h
theorem contains_take (s : List Nat) (k : Nat) {i : Nat} (h : i < s.length) : (s.take (i + 1)).contains k = ((s.take i).contains k || (((nth s i : Nat) : Int) == (k : Int))) := by
  rw [take_nthZ h, List.contains_eq_any_beq, List.contains_eq_any_beq, List.any_append]
  congr 1
  simp only [List.any_cons, List.any_nil, Bool.or_false]
  rw [Bool.eq_iff_iff]
  simp only [beq_iff_eq]
  omega
set_option maxRecDepth 20000 in
set_option maxHeartbeats 8000000 in
theorem r32deals_any (C : Nat) (hC : C ≤ 4) : ∀ (n : Nat) (s : List Nat) (a : Option Addr) (c P : Nat) (w : World), P = s.length + n → 1 ≤ P → P ≤ 4 → RI w a (natI s) → 1 ≤ s.length →
    Calls Tryz.prog 70 #[.slice a s.length c, .int .i64 (P : Int), .int .i64 (C : Int)] w fun e w' => RetDk (dealL C n s) e w w'
  | 0, s, a, c, P, w, hP, h1, h4, hr, _ => by
    obtain rfl : P = s.length := by omega
    exact r32deals_zero s a c C w (by omega) h1 hr
  | n + 1, s, a, c, P, w, hP, h1, h4, hr, hs1 => by
    have IH := Lib.hid (r32deals_any C hC n)
    have HR := Lib.hid hr
    have HP := Lib.hid hP
    have HS1 := Lib.hid hs1
    have hq : ((s.length : Int) == (P : Int)) = false := by rw [beq_eq_false_iff_ne]; omega
    have hsl : s.length ≤ 4 := by omega
    clear hr hP hs1
    go_enter Tryz.func70, Tryz.ntmps70
    go_wp2_with fail
    go_loopw [7, 8] (fun v i wr => ∃ k : Nat, k ≤ C ∧ i = .int .i64 (k : Int) ∧ Hid (∃ svs, DK w (dealK C n s k) svs v wr)) (fun _ i _ => C + 1 - (RowKit.intOf i).toNat)
    case atStart => exact ⟨0, Nat.zero_le _, rfl, Lib.hid ⟨[], DK.nil w w (Ext.refl _)⟩⟩
    case round =>
      obtain ⟨k, hk, rfl, HD⟩ := hrel
      obtain ⟨svs, hd⟩ := HD.out
      have HDK := Lib.hid hd
      clear hd HD
      by_cases hkC : k < C
      · have HSK := Lib.hid (dealK_step C n s k)
        have HDL : Hid (svs.length ≤ 256) := Lib.hid (by
          have hn : n ≤ 3 := by have := HP.out; omega
          have h1 : C ^ n ≤ 4 ^ n := Nat.pow_le_pow_left hC n
          have h2 : 4 ^ n ≤ 4 ^ 3 := Nat.pow_le_pow_right (by omega) hn
          have h3 := dealK_le C n s k
          have h6 : k * C ^ n ≤ 4 * 64 := Nat.mul_le_mul (by omega) (by omega)
          rw [HDK.out.len]
          omega)
        go_wp2_with fail
        go_loop [9, 10] (fun t i => ∃ (j : Nat) (tb : Bool), j ≤ s.length ∧ i = .int .i64 (j : Int) ∧ t = .bool tb ∧ Hid (tb = (s.take j).contains k)) (fun _ i => s.length - (RowKit.intOf i).toNat)
        case atStart => exact ⟨0, false, Nat.zero_le _, rfl, rfl, Lib.hid rfl⟩
        case round =>
          obtain ⟨j, tb, hj, rfl, rfl, HTB⟩ := hrel
          by_cases hjs : j < s.length
          · have HCT := Lib.hid (contains_take s k hjs)
            cases tb
            · obtain ⟨b1, o1, rfl, hb1, hc1⟩ := (HR.out.ext HDK.out.e).get (k := j) (by rw [natI_len]; exact hjs)
              rw [nth_natI hjs] at hc1
              generalize nth s j = x at *
              obtain ⟨bb, hbb⟩ : ∃ bb, ((x : Int) == (k : Int)) = bb := ⟨_, rfl⟩
              have HQ : Hid ((s.take (j + 1)).contains k = bb) := Lib.hid (by rw [HCT.out, ← HTB.out, hbb]; rfl)
              go_wp2_with fail
              go_round
              case rel => exact ⟨j + 1, bb, hjs, by go_num, rfl, Lib.hid HQ.out.symm⟩
              case measure => simp [RowKit.intOf]; omega
            · have HQ : Hid ((s.take (j + 1)).contains k = true) := Lib.hid (by rw [HCT.out, ← HTB.out]; rfl)
              go_wp2_with fail
              go_round
              case rel => exact ⟨j + 1, true, hjs, by go_num, rfl, Lib.hid HQ.out.symm⟩
              case measure => simp [RowKit.intOf]; omega
          · obtain rfl : j = s.length := by omega
            have htb := HTB.out
            rw [List.take_length] at htb
            have HTE := Lib.hid htb
            clear htb HTB
            cases tb
            · have HN : Hid (dealK C n s (k + 1) = dealK C n s k ++ dealL C n (s ++ [k])) := Lib.hid (by rw [HSK.out, ← HTE.out]; rfl)
              obtain ⟨i0, hi1, hz0, hz1, hz2⟩ := info_parts int_info
              have HONE : Hid (∀ u ∈ [Value.int .i64 (k : Int)], u.oneCell' = true) := Lib.hid (by simp [Value.oneCell'])
              have HFIN : Hid (∀ (v4 : Value) (W4 : World), Ext wr W4 → W4.ownsRow wr.heap.size 3 1 v4 (s.length + 1) ((natI s).map iv ++ [.int .i64 (k : Int)]) → ∃ a4 c4, v4 = .slice a4 (s.length + 1) c4 ∧ Calls Tryz.prog 70 #[.slice a4 (s.length + 1) c4, .int .i64 (P : Int), .int .i64 (C : Int)] W4 fun e w' => RetDk (dealL C n (s ++ [k])) e W4 w') := Lib.hid fun v4 W4 hX ho => by
                have e : natI (s ++ [k]) = natI s ++ [((k : Nat) : Int)] := by simp [natI]
                have e2 : (natI (s ++ [k])).length = s.length + 1 := by simp [natI]
                obtain ⟨a3, c3, h3, h4'⟩ := RI_of_own (wr := W4) (B := wr.heap.size) (l := natI (s ++ [k])) (v := v4) (by rw [e2, e, List.map_append]; exact ho) (by rw [e2]; omega)
                rw [e2] at h3
                refine ⟨a3, c3, h3, ?_⟩
                have hih := IH.out (s ++ [k]) a3 c3 P W4 (by rw [HP.out]; simp; omega) h1 h4 h4' (by simp)
                rw [show (s ++ [k]).length = s.length + 1 by simp] at hih
                exact hih
              have HML : Hid ((dealL C n (s ++ [k])).length ≤ 64) := Lib.hid (by
                have hn : n ≤ 3 := by have := HP.out; omega
                have h1 : C ^ n ≤ 4 ^ n := Nat.pow_le_pow_left hC n
                have h2 : 4 ^ n ≤ 4 ^ 3 := Nat.pow_le_pow_right (by omega) hn
                have h5 := dealL_le C n (s ++ [k])
                omega)
              clear HSK HTE
              generalize dealL C n (s ++ [k]) = M at *
              have hs1 := HS1.out
              obtain ⟨ad, rfl⟩ := (HR.out.ext HDK.out.e).someY hs1
              have HNS := Lib.hid ((HR.out.ext HDK.out.e).newsZ)
              have HOS := Lib.hid (iv_oneZ (natI s))
              go_wp2_with (first | (at_builtin; refine wpList_append_lies _ rfl _ _ 22 rfl wr.heap.size 3 i0 _ 1 8 Tryz.underlying22 hi1 hz0 hz1 hz2 rfl (by decide) (.slice a3 s.length c3) s.length ((natI s).map iv) rfl (HO3.out _) ⟨W3.heap.size, 0, none⟩ 1 1 [.int .i64 (k : Int)] rfl rfl (cell_one_new _ _ _) HONE.out (by decide) (by unfold maxLen; omega) (by omega) (by have := HX3.out.size; simp; omega) (W3.heap.size + 1) (by simp) ?_; intro gx cap W4 hown hgrow hat hlt2; have hX4 : Ext wr W4 := ext_of_grown (HX3.out.alloc _) hgrow fun b hb => ((HO3.out (.cells #[.int .i64 (k : Int)] 3)).lt b hb).1; obtain ⟨a4, c4, hv4, hcall⟩ := HFIN.out _ W4 hX4 hown; injection hv4 with e1 e2 e3; subst e1; subst e3; have HCA := Lib.hid hcall; have HX4 := Lib.hid hX4; clear hcall hX4 hown hgrow hat hlt2) | (at_builtin; refine wpList_append_own_at _ rfl _ _ 22 rfl wr.heap.size 3 i0 _ 1 8 Tryz.underlying22 hi1 hz0 hz1 hz2 rfl (by decide) (.slice (some ⟨wr.heap.size, 0, none⟩) 0 0) 0 [] rfl (World.ownsRow_made wr #[] 0 (Nat.le_refl _) (by unfold maxLen; omega) rfl) ad s.length c ((natI s).map iv) rfl (by simp [natI]) (fun j u h => ((Ext.refl wr).alloc _).cell (HNS.out j u h)) HOS.out (by unfold maxLen; omega) (by omega) (by simp) ?_; intro v3 W3 hown hgr _ _; have hX3 : Ext wr W3 := Below.grown ((Ext.refl wr).alloc _) hgr (Ext.size ((Ext.refl wr).alloc _)) (fun k hk => by simp [Value.ownBlock] at hk; omega); simp only [Nat.zero_add, List.nil_append] at hown; obtain ⟨a3, c3, hv3, -⟩ := RI_own_all hown (by omega); subst hv3; have HO3 : Hid (∀ o, (W3.alloc o).ownsRow wr.heap.size 3 1 (.slice a3 s.length c3) s.length ((natI s).map iv)) := Lib.hid (fun o => own_ext2 hown ((Ext.refl _).alloc o)); have HX3 := Lib.hid hX3; clear hown hgr hX3) | fail)
              refine HCA.out.mono ?_
              rintro _ w2 ⟨tvs, v2, rfl, hd2⟩
              have HD2 := Lib.hid hd2
              have HDW := Lib.hid (HDK.out.ext' (HX4.out.trans hd2.e))
              have HBB : Hid (w.heap.size ≤ W4.heap.size) := Lib.hid (Nat.le_trans HDK.out.e.size HX4.out.size)
              rcases hd2.cases with ⟨rfl, rfl, rfl⟩ | ⟨g2, cap2, rfl, -, hnews⟩
              · clear hd2
                dsimp only
                have HNE : Hid (dealK C n s (k + 1) = dealK C n s k) := Lib.hid (by rw [HN.out, List.append_nil])
                rcases HDW.out.cases with ⟨rfl, -, -⟩ | ⟨g7, cap7, rfl, hcap, -⟩
                · go_wp2_with fail
                  go_roundw
                  case rel => exact ⟨k + 1, hkC, by go_num, Lib.hid ⟨svs, by rw [HNE.out]; exact HDW.out⟩⟩
                  case measure => simp [RowKit.intOf]; omega
                · go_wp2_with fail
                  go_roundw
                  case rel => exact ⟨k + 1, hkC, by go_num, Lib.hid ⟨svs, by rw [HNE.out]; exact HDW.out⟩⟩
                  case measure => simp [RowKit.intOf]; omega
              · have HNW := Lib.hid hnews
                clear hd2 hnews
                obtain ⟨i2, hj1, hy0, hy1, hy2⟩ := info_parts rowi_info
                have hml := HML.out
                have hdl := HDL.out
                dsimp only
                go_wp2_with (at_builtin; refine wpList_append_own_at _ rfl _ _ 37 rfl w.heap.size 22 i2 _ 1 24 Tryz.underlying37 hj1 hy0 hy1 hy2 rfl (by decide) u7 svs.length svs rfl HDW.out.own ⟨g2, 0, none⟩ tvs.length cap2 tvs rfl (by simp) HNW.out HD2.out.one (by have := HD2.out.len; unfold maxLen; omega) (by have := HD2.out.len; omega) HDW.out.e.size ?_; intro v' W3 hown hgr _ _; have HAP := Lib.hid (HDW.out.append (M := M) HD2.out.len (fun j hj => own_base (HD2.out.rw j hj) HBB.out) hown hgr); clear hown hgr)
                go_roundw
                case rel => exact ⟨k + 1, hkC, by go_num, Lib.hid ⟨svs ++ tvs, by rw [HN.out]; exact HAP.out⟩⟩
                case measure => simp [RowKit.intOf]; omega
            · have HN : Hid (dealK C n s (k + 1) = dealK C n s k) := Lib.hid (by rw [HSK.out, ← HTE.out]; simp)
              go_wp2_with fail
              go_roundw
              case rel => exact ⟨k + 1, hkC, by go_num, Lib.hid ⟨svs, by rw [HN.out]; exact HDK.out⟩⟩
              case measure => simp [RowKit.intOf]; omega
      · obtain rfl : k = C := by omega
        go_wp2_with fail
        go_ret
        exact ⟨svs, _, rfl, HDK.out⟩
set_option maxRecDepth 20000 in
set_option maxHeartbeats 8000000 in
theorem r32deals_top (C : Nat) (hC : C ≤ 4) (n P : Nat) (w : World) (hP : P = n + 1) (h1 : 1 ≤ P) (h4 : P ≤ 4) :
    Calls Tryz.prog 70 #[.slice none 0 0, .int .i64 (P : Int), .int .i64 (C : Int)] w fun e w' => RetDk (dealL C (n + 1) []) e w w' := by
    have HP := Lib.hid hP
    have hq : ((0 : Int) == (P : Int)) = false := by rw [beq_eq_false_iff_ne]; omega
    clear hP
    go_enter Tryz.func70, Tryz.ntmps70
    go_wp2_with fail
    go_loopw [7, 8] (fun v i wr => ∃ k : Nat, k ≤ C ∧ i = .int .i64 (k : Int) ∧ Hid (∃ svs, DK w (dealK C n [] k) svs v wr)) (fun _ i _ => C + 1 - (RowKit.intOf i).toNat)
    case atStart => exact ⟨0, Nat.zero_le _, rfl, Lib.hid ⟨[], DK.nil w w (Ext.refl _)⟩⟩
    case round =>
      obtain ⟨k, hk, rfl, HD⟩ := hrel
      obtain ⟨svs, hd⟩ := HD.out
      have HDK := Lib.hid hd
      clear hd HD
      by_cases hkC : k < C
      · have HSK := Lib.hid (dealK_step C n [] k)
        have hn : n ≤ 3 := by have := HP.out; omega
        have HCN : Hid (C ^ n ≤ 64) := Lib.hid (by
          have h1 : C ^ n ≤ 4 ^ n := Nat.pow_le_pow_left hC n
          have h2 : 4 ^ n ≤ 4 ^ 3 := Nat.pow_le_pow_right (by omega) hn
          omega)
        have HDL : Hid (svs.length ≤ 256) := Lib.hid (by
          have h3 := dealK_le C n [] k
          have h6 : k * C ^ n ≤ 4 * 64 := Nat.mul_le_mul (by omega) HCN.out
          rw [HDK.out.len]
          omega)
        go_wp2_with fail
        go_loop [9, 10] (fun t i => i = .int .i64 0 ∧ t = .bool false) (fun _ i => 1 - (RowKit.intOf i).toNat)
        case atStart => exact ⟨rfl, rfl⟩
        case round =>
          obtain ⟨rfl, rfl⟩ := hrel
          have HN : Hid (dealK C n [] (k + 1) = dealK C n [] k ++ dealL C n ([] ++ [k])) := Lib.hid (by rw [HSK.out]; rfl)
          obtain ⟨i0, hi1, hz0, hz1, hz2⟩ := info_parts int_info
          have HONE : Hid (∀ u ∈ [Value.int .i64 (k : Int)], u.oneCell' = true) := Lib.hid (by simp [Value.oneCell'])
          have HFIN : Hid (∀ (v4 : Value) (W4 : World), Ext wr W4 → W4.ownsRow wr.heap.size 3 1 v4 1 ([.int .i64 (k : Int)]) → ∃ a4 c4, v4 = .slice a4 1 c4 ∧ Calls Tryz.prog 70 #[.slice a4 1 c4, .int .i64 (P : Int), .int .i64 (C : Int)] W4 fun e w' => RetDk (dealL C n ([] ++ [k])) e W4 w') := Lib.hid fun v4 W4 hX ho => by
            have e : natI ([] ++ [k]) = [((k : Nat) : Int)] := by simp [natI]
            have e2 : (natI ([] ++ [k])).length = 1 := by simp [natI]
            obtain ⟨a3, c3, h3, h4'⟩ := RI_of_own (wr := W4) (B := wr.heap.size) (l := natI ([] ++ [k])) (v := v4) (by rw [e2, e]; exact ho) (by rw [e2]; omega)
            rw [e2] at h3
            refine ⟨a3, c3, h3, ?_⟩
            have hih := r32deals_any C hC n ([] ++ [k]) a3 c3 P W4 (by rw [HP.out]; simp; omega) h1 h4 h4' (by simp)
            rw [show (([] : List Nat) ++ [k]).length = 1 from rfl] at hih
            exact hih
          have HML : Hid ((dealL C n ([] ++ [k])).length ≤ 64) := Lib.hid (Nat.le_trans (dealL_le C n ([] ++ [k])) HCN.out)
          clear HSK
          generalize dealL C n ([] ++ [k]) = M at *
          have hown0 : ∀ o, ((wr.alloc (.cells #[] 3)).alloc o).ownsRow wr.heap.size 3 1 (.slice (some ⟨wr.heap.size, 0, none⟩) 0 0) 0 [] := fun o => own_ext2 (own_empty wr wr.heap.size _ (Nat.le_refl _)) ((Ext.refl _).alloc _)
          have HOZ := Lib.hid hown0
          clear hown0
          go_wp2_with (at_builtin; refine wpList_append_lies _ rfl _ _ 22 rfl wr.heap.size 3 i0 _ 1 8 Tryz.underlying22 hi1 hz0 hz1 hz2 rfl (by decide) (.slice (some ⟨wr.heap.size, 0, none⟩) 0 0) 0 [] rfl (HOZ.out _) ⟨wr.heap.size + 1, 0, none⟩ 1 1 [.int .i64 (k : Int)] rfl rfl (cell_one_newY _ _ _ _) HONE.out (by decide) (by unfold maxLen; omega) (by omega) (by simp; omega) _ rfl ?_; intro gx cap W4 hown hgrow hat hlt2; have hX4 : Ext wr W4 := ext_of_grown (((Ext.refl wr).alloc _).alloc _) hgrow (fun b hb => (by simp [Value.ownBlock] at hb; omega)); simp only [Nat.zero_add, List.nil_append] at hown; obtain ⟨a4, c4, hv4, hcall⟩ := HFIN.out _ W4 hX4 hown; cases hv4; have HCA := Lib.hid hcall; have HX4 := Lib.hid hX4; clear hcall hX4 hown hgrow hat hlt2)
          refine HCA.out.mono ?_
          rintro _ w2 ⟨tvs, v2, rfl, hd2⟩
          have HD2 := Lib.hid hd2
          have HDW := Lib.hid (HDK.out.ext' (HX4.out.trans hd2.e))
          have HBB : Hid (w.heap.size ≤ W4.heap.size) := Lib.hid (Nat.le_trans HDK.out.e.size HX4.out.size)
          rcases hd2.cases with ⟨rfl, rfl, rfl⟩ | ⟨g2, cap2, rfl, -, hnews⟩
          · clear hd2
            dsimp only
            have HNE : Hid (dealK C n [] (k + 1) = dealK C n [] k) := Lib.hid (by rw [HN.out, List.append_nil])
            rcases HDW.out.cases with ⟨rfl, -, -⟩ | ⟨g7, cap7, rfl, hcap, -⟩
            · go_wp2_with fail
              go_roundw
              case rel => exact ⟨k + 1, hkC, by go_num, Lib.hid ⟨svs, by rw [HNE.out]; exact HDW.out⟩⟩
              case measure => simp [RowKit.intOf]; omega
            · go_wp2_with fail
              go_roundw
              case rel => exact ⟨k + 1, hkC, by go_num, Lib.hid ⟨svs, by rw [HNE.out]; exact HDW.out⟩⟩
              case measure => simp [RowKit.intOf]; omega
          · have HNW := Lib.hid hnews
            clear hd2 hnews
            obtain ⟨i2, hj1, hy0, hy1, hy2⟩ := info_parts rowi_info
            have hml := HML.out
            have hdl := HDL.out
            dsimp only
            go_wp2_with (at_builtin; refine wpList_append_own_at _ rfl _ _ 37 rfl w.heap.size 22 i2 _ 1 24 Tryz.underlying37 hj1 hy0 hy1 hy2 rfl (by decide) u7 svs.length svs rfl HDW.out.own ⟨g2, 0, none⟩ tvs.length cap2 tvs rfl (by simp) HNW.out HD2.out.one (by have := HD2.out.len; unfold maxLen; omega) (by have := HD2.out.len; omega) HDW.out.e.size ?_; intro v' W3 hown hgr _ _; have HAP := Lib.hid (HDW.out.append (M := M) HD2.out.len (fun j hj => own_base (HD2.out.rw j hj) HBB.out) hown hgr); clear hown hgr)
            go_roundw
            case rel => exact ⟨k + 1, hkC, by go_num, Lib.hid ⟨svs ++ tvs, by rw [HN.out]; exact HAP.out⟩⟩
            case measure => simp [RowKit.intOf]; omega
      · obtain rfl : k = C := by omega
        go_wp2_with fail
        go_ret
        exact ⟨svs, _, rfl, HDK.out⟩
end Wt
