/- Walk: wittingref23.base. -/
import Derived.Test.YtbeaagnahldefaaGreatDoorM9Bl
namespace Wt
open Go Go.RowKit Go.Maps Go.Proofs Fm

theorem fact_raw (fx : Nat) {k : Nat} (h : k < 64) : (bits .and .i64 ((fx : Int) / 2 ^ min (IntKind.u64.wrap (k : Int)).toNat 64) 1 == 1) = fx.testBit k := by
  have e : IntKind.u64.wrap (k : Int) = (k : Int) := by
    have hb : IntKind.u64.bits = 64 := rfl
    simp [IntKind.wrap, hb]
    omega
  rw [e, Int.toNat_natCast, Nat.min_eq_left (by omega), and_div]
  unfold b01
  cases fx.testBit k <;> rfl
set_option maxRecDepth 20000 in
set_option maxHeartbeats 16000000 in
theorem r23base_any (M : Mo) (va ra : Option Addr) (vc rc : Nat) (fa : Option Addr) (fc : Nat) (f : List Nd) (w : World) (hm : RM w va ra M) (hf : RN w fa f) (hl : lookErr M f = 0) :
    Calls Tryz.prog 36 #[.agg #[.int .i64 M.worlds, .slice va M.val.length vc, .slice ra M.rel.length rc], .slice fa f.length fc] w fun e w' => RetBa (filV M (fFacts f) (repL (subL M (rt f)) M.worlds.toNat)) (filN M f) (repL (subL M (rt f)) M.worlds.toNat) e w w' := by
  obtain ⟨i0, hi1, hz0, hz1, hz2⟩ := info_parts int_info
  obtain ⟨i2, hj1, hy0, hy1, hy2⟩ := info_parts u64_info
  obtain ⟨N, vk⟩ := vok_of hl
  rw [vk.nn]
  have h64 := vk.vw.ok.most
  have hwN : M.worlds = (N : Int) := vk.vw.ok.worlds
  have HWN := Lib.hid hwN
  have hv8 : M.val.length ≤ 8 := vk.vw.ok.val
  have HFN : Hid (filN M f = (List.range N).map (clsOf (subL M (rt f)) N)) := Lib.hid (by unfold filN; rw [if_pos hl, vk.nn])
  have HCL : Hid (∀ W, RM W va ra M → RN W fa f → Calls Tryz.prog 10 #[.agg #[.int .i64 M.worlds, .slice va M.val.length vc, .slice ra M.rel.length rc], .slice fa f.length fc] W fun e w' => RetLi (lowL (subL M (rt f)) N) 0 e W w') := Lib.hid fun W h1 h2 => by
    have h3 := r23Classes_any M va ra vc rc fa fc f W h1 h2
    rw [hl, show filC M f = lowL (subL M (rt f)) N by unfold filC; rw [if_pos hl, vk.nn]] at h3
    exact h3
  have HFA : Hid (∀ W, RN W fa f → Calls Tryz.prog 71 #[.slice fa f.length fc] W fun e w' => e = .returned (.int .i64 (fFacts f : Int)) ∧ Ext W w') := Lib.hid fun W h => r5Facts_any fa fc f W h
  have hE0 := ((Ext.refl w).alloc (.cells #[.int .i64 M.worlds, .slice va M.val.length vc, .slice ra M.rel.length rc] 25)).alloc (.cells #[.int .i64 0, .slice none 0 0, .slice none 0 0] 25)
  have hbx := (MoBox.new w M.worlds M.val M.rel va vc ra rc 25).ext ((Ext.refl _).alloc (.cells #[.int .i64 0, .slice none 0 0, .slice none 0 0] 25))
  have hr0 := OutAt.new1 w (.cells #[.int .i64 M.worlds, .slice va M.val.length vc, .slice ra M.rel.length rc] 25) (.int .i64 0) (.slice none 0 0) (.slice none 0 0) 25
  have HE := Lib.hid hE0
  have HM := Lib.hid (hm.ext hE0)
  have HF := Lib.hid (hf.ext hE0)
  have HB := Lib.hid hbx
  have HR := Lib.hid hr0
  have hs0 : ((w.alloc (.cells #[.int .i64 M.worlds, .slice va M.val.length vc, .slice ra M.rel.length rc] 25)).alloc (.cells #[.int .i64 0, .slice none 0 0, .slice none 0 0] 25)).heap.size = w.heap.size + 2 := by simp
  have HSZ := Lib.hid hs0
  obtain ⟨m0, m1, m2⟩ := hbx
  dsimp only at m0 m1 m2
  clear hE0 hf hm hr0 hs0 hwN vk
  rw [HFN.out]
  clear HFN
  generalize subL M (rt f) = L at *
  have HPL : Hid (∀ k, k < N → nth (lowL L N) k = lowOf L k) := Lib.hid fun k hk => lowL_nth L hk
  go_enter Tryz.func36, Tryz.ntmps36
  go_wp2_with fail
  generalize (w.alloc (.cells #[.int .i64 M.worlds, .slice va M.val.length vc, .slice ra M.rel.length rc] 25)).alloc (.cells #[.int .i64 0, .slice none 0 0, .slice none 0 0] 25) = w0 at *
  refine (HCL.out _ HM.out HF.out).mono ?_
  rintro _ w1 ⟨pa, pc, rfl, hp, hE1⟩
  rw [lowL_len]
  have HP := Lib.hid hp
  have HE1 := Lib.hid (HE.out.trans hE1)
  have HM1 := Lib.hid (HM.out.ext hE1)
  have HF1 := Lib.hid (HF.out.ext hE1)
  have HB1 := Lib.hid (HB.out.ext hE1)
  have HR1 := Lib.hid (HR.out.ext hE1)
  have hw1 : w.heap.size + 2 ≤ w1.heap.size := by rw [← HSZ.out]; exact hE1.size
  have HW1 := Lib.hid hw1
  clear hp hE1 m0 m1 m2 hw1 HB HM HF HR HE
  dsimp only
  go_wp2_with fail
  go_loopw [9, 10, 11] (fun v1 v2 i wr => ∃ k : Nat, k ≤ N ∧ i = .int .i64 (k : Int) ∧ Hid (LoC w1 L N k v1 v2 wr)) (fun _ _ i _ => N - (RowKit.intOf i).toNat)
  case atStart => exact ⟨0, Nat.zero_le _, rfl, Lib.hid ⟨⟨Ext.refl _, World.ownsRow_nil _ _ _ _⟩, ⟨Ext.refl _, World.ownsRow_nil _ _ _ _⟩, .inl rfl⟩⟩
  case round =>
    obtain ⟨k, hk, rfl, HLA⟩ := hrel
    obtain ⟨c0, -, -⟩ := HB1.out.ext HLA.out.a.e
    dsimp only at c0
    rw [HWN.out] at c0
    have clt := World.block_lt_of_cell? _ _ c0
    dsimp only at clt
    have hrl : (repL L k).length ≤ k := repL_len L k
    obtain ⟨a9, c9, hv9, hri⟩ := RI_of_own HLA.out.a.own (by rw [natI_ln]; omega)
    rw [natI_ln] at hv9
    subst hv9
    have HRI := Lib.hid hri
    clear hri
    by_cases hkN : k < N
    · go_wp2_with fail
      clear c0 clt
      go_loopw [12, 13] (fun t i wz => ∃ j : Nat, j ≤ (repL L k).length ∧ t = .int .i64 (fndJ (repL L k) (lowOf L k) j) ∧ i = .int .i64 (j : Int) ∧ Hid (Ext wr wz)) (fun _ i _ => (repL L k).length - (RowKit.intOf i).toNat)
      case atStart => exact ⟨0, Nat.zero_le _, rfl, rfl, Lib.hid (Ext.refl _)⟩
      case round =>
        rename World => wz
        obtain ⟨j, hj, rfl, rfl, HEZ⟩ := hrel
        by_cases hjl : j < (repL L k).length
        · obtain ⟨b1, o1, rfl, hb1, hc1⟩ := (HRI.out.ext HEZ.out).get (k := j) (by rw [natI_ln]; exact hjl)
          obtain ⟨b2, o2, rfl, hb2, hc2⟩ := (HP.out.ext (HLA.out.a.e.trans HEZ.out)).get (k := k) (by rw [natI_ln, lowL_len]; exact hkN)
          rw [nth_natI hjl] at hc1
          rw [nth_natI (by rw [lowL_len]; exact hkN), HPL.out k hkN] at hc2
          have HST : Hid (fndJ (repL L k) (lowOf L k) (j + 1) = if nth (repL L k) j = lowOf L k then (j : Int) else fndJ (repL L k) (lowOf L k) j) := Lib.hid rfl
          by_cases he : nth (repL L k) j = lowOf L k
          · have hq : (((nth (repL L k) j : Nat) : Int) == ((lowOf L k : Nat) : Int)) = true := by rw [he]; simp
            have HQ := Lib.hid he
            clear he
            go_wp2_with fail
            go_quiet (fail)
            go_wp2_with fail
            go_roundw
            case rel => exact ⟨j + 1, hjl, by rw [HST.out, if_pos HQ.out], by go_num, Lib.hid (HEZ.out.drewN _)⟩
            case measure => simp [RowKit.intOf]; omega
          · have hq : (((nth (repL L k) j : Nat) : Int) == ((lowOf L k : Nat) : Int)) = false := by
              rw [beq_eq_false_iff_ne]; omega
            have HQ := Lib.hid he
            clear he
            go_wp2_with fail
            go_quiet (fail)
            go_wp2_with fail
            go_roundw
            case rel => exact ⟨j + 1, hjl, by rw [HST.out, if_neg HQ.out], by go_num, Lib.hid (HEZ.out.drewN _)⟩
            case measure => simp [RowKit.intOf]; omega
        · obtain rfl : j = (repL L k).length := by omega
          have HLZ := Lib.hid (HLA.out.ext' HEZ.out)
          have hsz : w1.heap.size ≤ wz.heap.size := (HLA.out.a.e.trans HEZ.out).size
          have HPA : Hid (∀ o, LoC w1 L N k (.slice a9 (repL L k).length c9) u10 (wz.alloc o)) := Lib.hid fun o => HLZ.out.ext' ((Ext.refl wz).alloc o)
          by_cases hlo : lowOf L k = k
          · rw [fnd_new hlo]
            have HLO := Lib.hid hlo
            have HCK := Lib.hid ((cls_next hkN).1 hlo)
            clear hlo
            have HONE : ∀ x : Nat, Hid (∀ u ∈ [Value.int .i64 (x : Int)], u.oneCell' = true) := fun x u hu => by
              rcases List.mem_singleton.1 hu with rfl
              rfl
            go_wp2_with (first | (at_builtin; refine wpList_append_lies _ rfl _ _ 29 rfl w1.heap.size 3 i0 _ 1 8 Tryz.underlying29 hi1 hz0 hz1 hz2 rfl (by decide) (.slice a9 (repL L k).length c9) (repL L k).length _ rfl (HPA.out _).own1 ⟨wz.heap.size, 0, none⟩ 1 1 [.int .i64 (k : Int)] rfl rfl (cell_one_new _ _ _) (HONE k).out (by decide) (by unfold maxLen; omega) (by omega) (by simp; omega) (wz.heap.size + 1) (by simp) ?_; intro gx cap W1 hown hgrow hat hlt2; have hmid := (HPA.out _).new HLO.out hown hgrow hat (by simp); have HMID := Lib.hid hmid; have hszW : w1.heap.size ≤ W1.heap.size := hmid.a.e.size; have HPB : Hid (∀ o, LoM w1 L N k (.slice (some ⟨gx, 0, none⟩) ((repL L k).length + 1) cap) u10 (W1.alloc o)) := Lib.hid fun o => HMID.out.ext' ((Ext.refl W1).alloc o); clear hmid hown hgrow hat) | (at_builtin; refine wpList_append_lies _ rfl _ _ 29 rfl w1.heap.size 3 i0 _ 1 8 Tryz.underlying29 hi1 hz0 hz1 hz2 rfl (by decide) u10 k _ rfl (HPB.out _).own2 ⟨W1.heap.size, 0, none⟩ 1 1 [.int .i64 ((repL L k).length : Int)] rfl rfl (cell_one_new _ _ _) (HONE (repL L k).length).out (by decide) (by unfold maxLen; omega) (by omega) (by simp; omega) (W1.heap.size + 1) (by simp) ?_; intro gy capy W2 hown hgrow hat hlt3; have hend := (HPB.out _).done HCK.out hown hgrow hat (by simp); have HEND := Lib.hid hend; clear hend hown hgrow hat))
            go_roundw
            case rel => exact ⟨k + 1, hkN, by go_num, HEND⟩
            case measure => simp [RowKit.intOf]; omega
          · rw [fnd_old hkN hlo]
            have HLO := Lib.hid hlo
            clear hlo
            have hneg : decide (((clsOf L N k : Nat) : Int) < 0) = false := decide_eq_false (by omega)
            have HONE : Hid (∀ u ∈ [Value.int .i64 ((clsOf L N k : Nat) : Int)], u.oneCell' = true) := fun u hu => by
              rcases List.mem_singleton.1 hu with rfl
              rfl
            go_wp2_with (at_builtin; refine wpList_append_lies _ rfl _ _ 29 rfl w1.heap.size 3 i0 _ 1 8 Tryz.underlying29 hi1 hz0 hz1 hz2 rfl (by decide) u10 k _ rfl (HPA.out _).own2 ⟨wz.heap.size, 0, none⟩ 1 1 [.int .i64 ((clsOf L N k : Nat) : Int)] rfl rfl (cell_one_new _ _ _) HONE.out (by decide) (by unfold maxLen; omega) (by omega) (by simp; omega) (wz.heap.size + 1) (by simp) ?_; intro gy capy W2 hown hgrow hat hlt3; have hend := (HPA.out _).old HLO.out hown hgrow hat (by simp); have HEND := Lib.hid hend; clear hend hown hgrow hat)
            go_roundw
            case rel => exact ⟨k + 1, hkN, by go_num, HEND⟩
            case measure => simp [RowKit.intOf]; omega
    · obtain rfl : N = k := by omega
      obtain ⟨a10, c10, hv10, hric⟩ := RI_of_own HLA.out.b.own (by rw [natI_ln, cls_ln]; omega)
      rw [natI_ln, cls_ln] at hv10
      subst hv10
      have HRC := Lib.hid hric
      clear hric
      have hRN : (repL L N).length ≤ N := hrl
      have hsz := HLA.out.a.e.size
      obtain ⟨n, hn⟩ : ∃ n, wr.heap.size = n + 2 := ⟨wr.heap.size - 2, by have := HW1.out; omega⟩
      have hA0 : AR (wr.alloc (.cells #[.int .i64 ((repL L N).length : Int), .slice none 0 0, .slice none 0 0] 25)) n (repL L N).length [] [] [] (.slice none 0 0) (.slice none 0 0) (wr.alloc (.cells #[.int .i64 ((repL L N).length : Int), .slice none 0 0, .slice none 0 0] 25)) :=
        ⟨Below.refl _ _, by simp; omega, by rw [← hn]; exact OutAt.new wr _ _ _ _, World.ownsRow_nil _ _ _ _, World.ownsRow_nil _ _ _ _, rfl, fun j hj => absurd hj (by simp), fun i j _ hj => absurd hj (by simp), fun j hj => absurd hj (by simp)⟩
      have hEW : Ext wr (wr.alloc (.cells #[.int .i64 ((repL L N).length : Int), .slice none 0 0, .slice none 0 0] 25)) := (Ext.refl wr).alloc _
      have HA0 := Lib.hid hA0
      have HN4 := Lib.hid hn
      clear hn
      have HEW := Lib.hid hEW
      clear hA0 hEW
      go_wp2_with fail
      clear c0 clt
      generalize wr.alloc (.cells #[.int .i64 ((repL L N).length : Int), .slice none 0 0, .slice none 0 0] 25) = W0 at *
      rw [HN4.out]
      have hwn : w.heap.size + 2 ≤ n + 2 := by rw [← HN4.out]; exact Nat.le_trans HW1.out hsz
      have HX4 : Hid (∀ w', Below (n + 2) W0 w' → Ext wr w') := Lib.hid fun w' e => Below.trans HEW.out (Below.mono e (by have := HN4.out; omega))
      have HX1 : Hid (∀ w', Below (n + 2) W0 w' → Ext w1 w') := Lib.hid fun w' e => HLA.out.a.e.trans (HX4.out w' e)
      have hfl : fFacts f < 512 := unionL_lt factN factN_lt (fCompact f)
      have HFC : Hid (∀ W, Ext w1 W → Calls Tryz.prog 71 #[.slice fa f.length fc] W fun e w' => e = .returned (.int .i64 (fFacts f : Int)) ∧ Ext W w') := Lib.hid fun W e => HFA.out W (HF1.out.ext e)
      generalize hfx : fFacts f = fx at *
      have HFX := Lib.hid hfx
      clear hfx
      generalize hreps : repL L N = reps at *
      have HRE := Lib.hid hreps
      clear hreps
      generalize hL : filV M fx reps = Lv
      have hLl : Lv.length = M.val.length := by rw [← hL]; simp [filV]
      have HL : Hid (∀ k, k < M.val.length → nth Lv k = setTo (fun c => fx.testBit k && bt (nth M.val k) (nth reps c)) reps.length) := Lib.hid fun k hk => by rw [← hL]; unfold filV; exact nth_mapX _ hk
      have HRP : Hid (∀ i, i < reps.length → nth reps i < N) := Lib.hid fun i hi => by rw [← HRE.out] at hi ⊢; exact rep_lt hi
      have HLE := Lib.hid hL
      clear hL
      go_loopw [15] (fun i wz => ∃ k : Nat, k ≤ M.val.length ∧ i = .int .i64 (k : Int) ∧ Hid (ARV W0 n reps.length Lv k wz)) (fun i _ => M.val.length - (RowKit.intOf i).toNat)
      case atStart => exact ⟨0, Nat.zero_le _, rfl, Lib.hid ⟨_, HA0.out⟩⟩
      case round =>
        rename World => wa
        obtain ⟨k, hk, rfl, HAV⟩ := hrel
        obtain ⟨vv, hAR⟩ := HAV.out
        have HAR := Lib.hid hAR
        clear HAV hAR
        obtain ⟨-, d1, -⟩ := HB1.out.ext (HX1.out _ HAR.out.e)
        have dlt := World.block_lt_of_cell? _ _ d1
        dsimp only at d1 dlt
        by_cases hkl : k < M.val.length
        · have htk : (Lv.take k).length = k := by rw [List.length_take]; omega
          go_wp2_with fail
          have HD1 := Lib.hid d1
          clear d1 dlt
          have hLk := HL.out k hkl
          obtain ⟨P, hP⟩ : ∃ P : Nat → Bool, P = fun c => fx.testBit k && bt (nth M.val k) (nth reps c) := ⟨_, rfl⟩
          rw [← hP] at hLk
          have HPJ : Hid (∀ j, P j = (fx.testBit k && bt (nth M.val k) (nth reps j))) := Lib.hid fun j => by rw [hP]
          have HLk := Lib.hid hLk
          clear hP hLk
          go_loopw [16, 17] (fun t i wz => ∃ j : Nat, j ≤ reps.length ∧ i = .int .i64 (j : Int) ∧ t = .int .u64 (un (setTo P j)) ∧ Hid (Ext wa wz)) (fun _ i _ => reps.length - (RowKit.intOf i).toNat)
          case atStart => exact ⟨0, Nat.zero_le _, rfl, rfl, Lib.hid (Ext.refl _)⟩
          case round =>
            rename World => wz
            obtain ⟨j, hj, rfl, rfl, HEZ⟩ := hrel
            by_cases hjl : j < reps.length
            · have hj64 : j < 64 := by omega
              have HST : Hid (setTo P (j + 1) = if P j = true then setTo P j ||| 1#64 <<< j else setTo P j) := Lib.hid rfl
              have HPj := Lib.hid (HPJ.out j)
              have hr64 : nth reps j < 64 := by have := HRP.out j hjl; omega
              have HFW := Lib.hid (HFC.out _ (((HX1.out _ HAR.out.e).trans HEZ.out).drew))
              have hk64 : k < 64 := by omega
              have HRW := Lib.hid (fact_raw fx hk64)
              cases hq1 : fx.testBit k
              · have HQ1 := Lib.hid hq1
                clear hq1
                go_wp2_with fail
                refine wp_region_E 18 (fun _ => True) (by kernel_rfl) ?_
                refine wpAnyE_take (i := 0) (v := ?_) (.here) (by kernel_rfl) (fun _ _ _ h => h) (trivial) (by rfl) ?_ ?_
                rotate_left
                focus (intro w hSw; (try dsimp only at hSw); go_simp; try with_reducible rfl)
                try simp only [Act.put, List.setIfInBounds_toArray, List.set_cons_zero, List.set_cons_succ]
                refine wpAnyE_take (i := 2) (v := ?_) (.next (.next (.here))) (by kernel_rfl) (fun _ _ _ h => h) (trivial) (by rfl) ?_ ?_
                rotate_left
                focus (intro w hSw; (try dsimp only at hSw); go_simp; try with_reducible rfl)
                try simp only [Act.put, List.setIfInBounds_toArray, List.set_cons_zero, List.set_cons_succ]
                refine wpAnyE_take (i := 3) (v := ?_) (.next (.next (.next (.here)))) (by kernel_rfl) (fun _ _ _ h => h) (trivial) (by rfl) ?_ ?_
                rotate_left
                focus (intro w hSw; (try dsimp only at hSw); go_simp; try with_reducible rfl)
                try simp only [Act.put, List.setIfInBounds_toArray, List.set_cons_zero, List.set_cons_succ]
                refine wpAnyE_one (k := 1) (.next (.here)) (by kernel_rfl) (fun K hK => ?_)
                go_simp
                refine HFW.out.mono ?_; rintro _ w3 ⟨rfl, hE3⟩; dsimp only
                refine hK.out _ _ (fun _ => trivial) ?_
                clear hK
                try simp only [Act.put, List.setIfInBounds_toArray, List.set_cons_zero, List.set_cons_succ]
                refine wpAnyE_take (i := 4) (v := ?_) (.next (.next (.next (.next (.here))))) (by kernel_rfl) (fun _ _ _ h => h) (trivial) (by rfl) ?_ ?_
                rotate_left
                focus (intro w hSw; (try dsimp only at hSw); go_simp; try with_reducible rfl)
                try simp only [Act.put, List.setIfInBounds_toArray, List.set_cons_zero, List.set_cons_succ]
                refine wpAnyE_take (i := 5) (v := ?_) (.next (.next (.next (.next (.next (.here)))))) (by kernel_rfl) (fun _ _ _ h => h) (trivial) (by rfl) ?_ ?_
                rotate_left
                focus (intro w hSw; (try dsimp only at hSw); go_simp; try with_reducible rfl)
                try simp only [Act.put, List.setIfInBounds_toArray, List.set_cons_zero, List.set_cons_succ]
                refine wpAnyE_take (i := 6) (v := ?_) (.next (.next (.next (.next (.next (.next (.here))))))) (by kernel_rfl) (fun _ _ _ h => h) (trivial) (by rfl) ?_ ?_
                rotate_left
                focus (intro w hSw; (try dsimp only at hSw); go_simp; try with_reducible rfl)
                try simp only [Act.put, List.setIfInBounds_toArray, List.set_cons_zero, List.set_cons_succ]
                rw [HRW.out, HQ1.out]
                refine wpAnyE_take (i := 7) (v := ?_) (.next (.next (.next (.next (.next (.next (.next (.here)))))))) (by kernel_rfl) (fun _ _ _ h => h) (trivial) (by rfl) ?_ ?_
                rotate_left
                focus (intro w hSw; (try dsimp only at hSw); go_simp; try with_reducible rfl)
                try simp only [Act.put, List.setIfInBounds_toArray, List.set_cons_zero, List.set_cons_succ]
                refine wpAnyE_skip (i := 8) (.next (.next (.next (.next (.next (.next (.next (.next (.here))))))))) (by kernel_rfl) (fun _ _ _ h => h) (trivial) (by rfl) ?_
                try simp only [Act.put, List.setIfInBounds_toArray, List.set_cons_zero, List.set_cons_succ]
                refine wpAnyE_skip (i := 9) (.next (.next (.next (.next (.next (.next (.next (.next (.next (.here)))))))))) (by kernel_rfl) (fun _ _ _ h => h) (trivial) (by rfl) ?_
                try simp only [Act.put, List.setIfInBounds_toArray, List.set_cons_zero, List.set_cons_succ]
                refine wpAnyE_skip (i := 10) (.next (.next (.next (.next (.next (.next (.next (.next (.next (.next (.here))))))))))) (by kernel_rfl) (fun _ _ _ h => h) (trivial) (by rfl) ?_
                try simp only [Act.put, List.setIfInBounds_toArray, List.set_cons_zero, List.set_cons_succ]
                refine wpAnyE_skip (i := 11) (.next (.next (.next (.next (.next (.next (.next (.next (.next (.next (.next (.here)))))))))))) (by kernel_rfl) (fun _ _ _ h => h) (trivial) (by rfl) ?_
                try simp only [Act.put, List.setIfInBounds_toArray, List.set_cons_zero, List.set_cons_succ]
                refine wpAnyE_skip (i := 12) (.next (.next (.next (.next (.next (.next (.next (.next (.next (.next (.next (.next (.here))))))))))))) (by kernel_rfl) (fun _ _ _ h => h) (trivial) (by rfl) ?_
                try simp only [Act.put, List.setIfInBounds_toArray, List.set_cons_zero, List.set_cons_succ]
                refine wpAnyE_skip (i := 13) (.next (.next (.next (.next (.next (.next (.next (.next (.next (.next (.next (.next (.next (.here)))))))))))))) (by kernel_rfl) (fun _ _ _ h => h) (trivial) (by rfl) ?_
                try simp only [Act.put, List.setIfInBounds_toArray, List.set_cons_zero, List.set_cons_succ]
                refine wpAnyE_skip (i := 14) (.next (.next (.next (.next (.next (.next (.next (.next (.next (.next (.next (.next (.next (.next (.here))))))))))))))) (by kernel_rfl) (fun _ _ _ h => h) (trivial) (by rfl) ?_
                try simp only [Act.put, List.setIfInBounds_toArray, List.set_cons_zero, List.set_cons_succ]
                refine wpAnyE_skip (i := 15) (.next (.next (.next (.next (.next (.next (.next (.next (.next (.next (.next (.next (.next (.next (.next (.here)))))))))))))))) (by kernel_rfl) (fun _ _ _ h => h) (trivial) (by rfl) ?_
                try simp only [Act.put, List.setIfInBounds_toArray, List.set_cons_zero, List.set_cons_succ]
                refine wpAnyE_skip (i := 16) (.next (.next (.next (.next (.next (.next (.next (.next (.next (.next (.next (.next (.next (.next (.next (.next (.here))))))))))))))))) (by kernel_rfl) (fun _ _ _ h => h) (trivial) (by rfl) ?_
                try simp only [Act.put, List.setIfInBounds_toArray, List.set_cons_zero, List.set_cons_succ]
                refine wpAnyE_skip (i := 17) (.next (.next (.next (.next (.next (.next (.next (.next (.next (.next (.next (.next (.next (.next (.next (.next (.next (.here)))))))))))))))))) (by kernel_rfl) (fun _ _ _ h => h) (trivial) (by rfl) ?_
                try simp only [Act.put, List.setIfInBounds_toArray, List.set_cons_zero, List.set_cons_succ]
                refine wpAnyE_seq [18] (.cons (.next (.next (.next (.next (.next (.next (.next (.next (.next (.next (.next (.next (.next (.next (.next (.next (.next (.next (.here))))))))))))))))))) (.nil)) (by kernel_rfl) (by kernel_rfl) ?_
                have HE3 := Lib.hid (HEZ.out.trans ((Ext.refl _).drew.trans hE3))
                clear hE3
                go_wp2_with fail
                go_roundw
                case rel => exact ⟨j + 1, hjl, by go_num, by rw [HST.out, HPj.out, HQ1.out]; rfl, HE3⟩
                case measure => simp [RowKit.intOf]; omega
              · have HQ1 := Lib.hid hq1
                clear hq1
                obtain ⟨b1, o1, hva, hb1, hc1⟩ := (HM1.out.val.ext (HX1.out _ HAR.out.e)).get hkl
                obtain ⟨b2, o2, hva2, hb2, hc2⟩ := (HRI.out.ext (HX4.out _ HAR.out.e)).get (k := j) (by rw [natI_ln]; exact hjl)
                subst hva
                subst hva2
                rw [nth_natI hjl] at hc2
                cases hq2 : bt (nth M.val k) (nth reps j)
                all_goals
                  have HQ2 := Lib.hid hq2
                  have hd1 := HD1.out
                  have HSS : Hid (∀ w', Ext wz w' → w'.cell? ⟨w.heap.size, 1, none⟩ = some (.slice (some ⟨b1, o1, none⟩) M.val.length vc) ∧ w'.cell? ⟨b1, o1 + k, none⟩ = some (.int .u64 (un (nth M.val k))) ∧ w'.cell? ⟨b2, o2 + j, none⟩ = some (.int .i64 ((nth reps j : Nat) : Int))) := Lib.hid fun w' e => ⟨(HEZ.out.trans e).cell hd1, (HEZ.out.trans e).cell hc1, (HEZ.out.trans e).cell hc2⟩
                  have HIN : Hid (∀ W, Calls Tryz.prog 33 #[.int .u64 (un (nth M.val k)), .int .i64 ((nth reps j : Nat) : Int)] W fun e w' => e = .returned (.bool (bt (nth M.val k) (nth reps j))) ∧ W = w') := Lib.hid fun W => r2In_any _ _ W hr64
                  clear hc1 hc2 hd1 hb1 hb2 hq2
                  go_wp2_with fail
                  refine wp_region_E 18 (fun w' => w'.cell? ⟨w.heap.size, 1, none⟩ = some (.slice (some ⟨b1, o1, none⟩) M.val.length vc) ∧ w'.cell? ⟨b1, o1 + k, none⟩ = some (.int .u64 (un (nth M.val k))) ∧ w'.cell? ⟨b2, o2 + j, none⟩ = some (.int .i64 ((nth reps j : Nat) : Int))) (by kernel_rfl) ?_
                  refine wpAnyE_take (i := 0) (v := ?_) (.here) (by kernel_rfl) (fun _ _ _ h => h) (HSS.out _ (Ext.refl _).drew) (by rfl) ?_ ?_
                  rotate_left
                  focus (intro w hSw; (try dsimp only at hSw); go_simp; try with_reducible rfl)
                  try simp only [Act.put, List.setIfInBounds_toArray, List.set_cons_zero, List.set_cons_succ]
                  refine wpAnyE_take (i := 2) (v := ?_) (.next (.next (.here))) (by kernel_rfl) (fun _ _ _ h => h) (HSS.out _ (Ext.refl _).drew) (by rfl) ?_ ?_
                  rotate_left
                  focus (intro w hSw; (try dsimp only at hSw); go_simp; try with_reducible rfl)
                  try simp only [Act.put, List.setIfInBounds_toArray, List.set_cons_zero, List.set_cons_succ]
                  refine wpAnyE_take (i := 3) (v := ?_) (.next (.next (.next (.here)))) (by kernel_rfl) (fun _ _ _ h => h) (HSS.out _ (Ext.refl _).drew) (by rfl) ?_ ?_
                  rotate_left
                  focus (intro w hSw; (try dsimp only at hSw); go_simp; try with_reducible rfl)
                  try simp only [Act.put, List.setIfInBounds_toArray, List.set_cons_zero, List.set_cons_succ]
                  refine wpAnyE_one (k := 1) (.next (.here)) (by kernel_rfl) (fun K hK => ?_)
                  go_simp
                  refine HFW.out.mono ?_; rintro _ w3 ⟨rfl, hE3⟩; dsimp only
                  refine hK.out _ _ (fun _ => HSS.out _ ((Ext.refl _).drew.trans hE3)) ?_
                  clear hK
                  try simp only [Act.put, List.setIfInBounds_toArray, List.set_cons_zero, List.set_cons_succ]
                  refine wpAnyE_take (i := 4) (v := ?_) (.next (.next (.next (.next (.here))))) (by kernel_rfl) (fun _ _ _ h => h) (HSS.out _ ((Ext.refl _).drew.trans hE3)) (by rfl) ?_ ?_
                  rotate_left
                  focus (intro w hSw; (try dsimp only at hSw); go_simp; try with_reducible rfl)
                  try simp only [Act.put, List.setIfInBounds_toArray, List.set_cons_zero, List.set_cons_succ]
                  refine wpAnyE_take (i := 5) (v := ?_) (.next (.next (.next (.next (.next (.here)))))) (by kernel_rfl) (fun _ _ _ h => h) (HSS.out _ ((Ext.refl _).drew.trans hE3)) (by rfl) ?_ ?_
                  rotate_left
                  focus (intro w hSw; (try dsimp only at hSw); go_simp; try with_reducible rfl)
                  try simp only [Act.put, List.setIfInBounds_toArray, List.set_cons_zero, List.set_cons_succ]
                  refine wpAnyE_take (i := 6) (v := ?_) (.next (.next (.next (.next (.next (.next (.here))))))) (by kernel_rfl) (fun _ _ _ h => h) (HSS.out _ ((Ext.refl _).drew.trans hE3)) (by rfl) ?_ ?_
                  rotate_left
                  focus (intro w hSw; (try dsimp only at hSw); go_simp; try with_reducible rfl)
                  try simp only [Act.put, List.setIfInBounds_toArray, List.set_cons_zero, List.set_cons_succ]
                  rw [HRW.out, HQ1.out]
                  refine wpAnyE_take (i := 7) (v := ?_) (.next (.next (.next (.next (.next (.next (.next (.here)))))))) (by kernel_rfl) (fun _ _ _ h => h) (HSS.out _ ((Ext.refl _).drew.trans hE3)) (by rfl) ?_ ?_
                  rotate_left
                  focus (intro w hSw; (try dsimp only at hSw); go_simp; try with_reducible rfl)
                  try simp only [Act.put, List.setIfInBounds_toArray, List.set_cons_zero, List.set_cons_succ]
                  refine wpAnyE_take (i := 8) (v := ?_) (.next (.next (.next (.next (.next (.next (.next (.next (.here))))))))) (by kernel_rfl) (fun _ _ _ h => h) (HSS.out _ ((Ext.refl _).drew.trans hE3)) (by rfl) ?_ ?_
                  rotate_left
                  focus (intro w hSw; (try dsimp only at hSw); go_simp; try with_reducible rfl)
                  try simp only [Act.put, List.setIfInBounds_toArray, List.set_cons_zero, List.set_cons_succ]
                  refine wpAnyE_take (i := 9) (v := ?_) (.next (.next (.next (.next (.next (.next (.next (.next (.next (.here)))))))))) (by kernel_rfl) (fun _ _ _ h => h) (HSS.out _ ((Ext.refl _).drew.trans hE3)) (by rfl) ?_ ?_
                  rotate_left
                  focus (intro w hSw; (try dsimp only at hSw); go_simp; try with_reducible rfl)
                  try simp only [Act.put, List.setIfInBounds_toArray, List.set_cons_zero, List.set_cons_succ]
                  refine wpAnyE_take (i := 10) (v := ?_) (.next (.next (.next (.next (.next (.next (.next (.next (.next (.next (.here))))))))))) (by kernel_rfl) (fun _ _ _ h => h) (HSS.out _ ((Ext.refl _).drew.trans hE3)) (by rfl) ?_ ?_
                  rotate_left
                  focus (intro w hSw; (try dsimp only at hSw); go_simp; try with_reducible rfl)
                  try simp only [Act.put, List.setIfInBounds_toArray, List.set_cons_zero, List.set_cons_succ]
                  refine wpAnyE_take (i := 11) (v := ?_) (.next (.next (.next (.next (.next (.next (.next (.next (.next (.next (.next (.here)))))))))))) (by kernel_rfl) (fun _ _ _ h => h) (HSS.out _ ((Ext.refl _).drew.trans hE3)) (by rfl) ?_ ?_
                  rotate_left
                  focus (intro w hSw; (try dsimp only at hSw); go_simp; try with_reducible rfl)
                  try simp only [Act.put, List.setIfInBounds_toArray, List.set_cons_zero, List.set_cons_succ]
                  refine wpAnyE_take (i := 12) (v := ?_) (.next (.next (.next (.next (.next (.next (.next (.next (.next (.next (.next (.next (.here))))))))))))) (by kernel_rfl) (fun _ _ _ h => h) (HSS.out _ ((Ext.refl _).drew.trans hE3)) (by rfl) ?_ ?_
                  rotate_left
                  focus (intro w hSw; (try dsimp only at hSw); go_simp; try with_reducible rfl)
                  try simp only [Act.put, List.setIfInBounds_toArray, List.set_cons_zero, List.set_cons_succ]
                  refine wpAnyE_take (i := 13) (v := ?_) (.next (.next (.next (.next (.next (.next (.next (.next (.next (.next (.next (.next (.next (.here)))))))))))))) (by kernel_rfl) (fun _ _ _ h => h) (HSS.out _ ((Ext.refl _).drew.trans hE3)) (by rfl) ?_ ?_
                  rotate_left
                  focus (intro w hSw; (try dsimp only at hSw); go_simp; try with_reducible rfl)
                  try simp only [Act.put, List.setIfInBounds_toArray, List.set_cons_zero, List.set_cons_succ]
                  refine wpAnyE_take (i := 14) (v := ?_) (.next (.next (.next (.next (.next (.next (.next (.next (.next (.next (.next (.next (.next (.next (.here))))))))))))))) (by kernel_rfl) (fun _ _ _ h => h) (HSS.out _ ((Ext.refl _).drew.trans hE3)) (by rfl) ?_ ?_
                  rotate_left
                  focus (intro w hSw; (try dsimp only at hSw); go_simp; try with_reducible rfl)
                  try simp only [Act.put, List.setIfInBounds_toArray, List.set_cons_zero, List.set_cons_succ]
                  refine wpAnyE_take (i := 15) (v := ?_) (.next (.next (.next (.next (.next (.next (.next (.next (.next (.next (.next (.next (.next (.next (.next (.here)))))))))))))))) (by kernel_rfl) (fun _ _ _ h => h) (HSS.out _ ((Ext.refl _).drew.trans hE3)) (by rfl) ?_ ?_
                  rotate_left
                  focus (intro w hSw; (try dsimp only at hSw); go_simp; try with_reducible rfl)
                  try simp only [Act.put, List.setIfInBounds_toArray, List.set_cons_zero, List.set_cons_succ]
                  refine wpAnyE_take (i := 16) (v := ?_) (.next (.next (.next (.next (.next (.next (.next (.next (.next (.next (.next (.next (.next (.next (.next (.next (.here))))))))))))))))) (by kernel_rfl) (fun _ _ _ h => h) (HSS.out _ ((Ext.refl _).drew.trans hE3)) (by rfl) ?_ ?_
                  rotate_left
                  focus (intro w hSw; (try dsimp only at hSw); go_simp; try with_reducible rfl)
                  try simp only [Act.put, List.setIfInBounds_toArray, List.set_cons_zero, List.set_cons_succ]
                  refine wpAnyE_one (k := 17) (.next (.next (.next (.next (.next (.next (.next (.next (.next (.next (.next (.next (.next (.next (.next (.next (.next (.here)))))))))))))))))) (by kernel_rfl) (fun K hK => ?_)
                  go_simp
                  refine (HIN.out _).mono ?_; rintro _ _ ⟨rfl, rfl⟩; dsimp only
                  refine hK.out _ _ (fun _ => HSS.out _ ((Ext.refl _).drew.trans hE3)) ?_
                  clear hK
                  try simp only [Act.put, List.setIfInBounds_toArray, List.set_cons_zero, List.set_cons_succ]
                  refine wpAnyE_seq [18] (.cons (.next (.next (.next (.next (.next (.next (.next (.next (.next (.next (.next (.next (.next (.next (.next (.next (.next (.next (.here))))))))))))))))))) (.nil)) (by kernel_rfl) (by kernel_rfl) ?_
                  have HE3 := Lib.hid (HEZ.out.trans ((Ext.refl _).drew.trans hE3))
                  clear hE3
                  rw [HQ2.out]
                  go_wp2_with fail
                  go_roundw
                  case rel => exact ⟨j + 1, hjl, by go_num, by rw [HST.out, HPj.out, HQ1.out, HQ2.out]; rfl, HE3⟩
                  case measure => simp [RowKit.intOf]; omega
            · obtain rfl : j = reps.length := by omega
              rw [show setTo P reps.length = nth Lv k from HLk.out.symm]
              have HAZ := Lib.hid (HAR.out.ext' HEZ.out)
              obtain ⟨o0, o1, o2, ofz⟩ := HAZ.out.out
              have hsz2 := HAZ.out.out.lt
              have hfz := ofz 1
              clear ofz
              have hone : Lv.take (k + 1) = Lv.take k ++ [nth Lv k] := by
                rw [nth_eq _ _ (by omega), List.take_add_one, List.getElem?_eq_getElem (by omega)]; rfl
              have HONE1 := Lib.hid hone
              have HPA : Hid (∀ o, AR W0 n reps.length (Lv.take k) [] [] vv (.slice none 0 0) (wz.alloc o)) := Lib.hid fun o => HAZ.out.ext' ((Ext.refl wz).alloc o)
              clear hone
              generalize nth Lv k = x at *
              have HONE : Hid (∀ u ∈ [Value.int .u64 (un x)], u.oneCell' = true) := fun u hu => by
                rcases List.mem_singleton.1 hu with rfl
                rfl
              go_wp2_with (at_builtin; refine wpList_append_lies _ rfl _ _ 22 rfl (n + 3) 39 i2 _ 1 8 Tryz.underlying22 hj1 hy0 hy1 hy2 rfl (by decide) vv (Lv.take k).length _ rfl (HPA.out _).ov ⟨wz.heap.size, 0, none⟩ 1 1 [.int .u64 (un x)] rfl rfl (cell_one_new _ _ _) HONE.out (by decide) (by unfold maxLen; omega) (by omega) (by simp; omega) (wz.heap.size + 1) (by simp) ?_; intro gx cap W1 hown hgrow hat hlt2; obtain ⟨p0, p1, p2, pfz⟩ := (HPA.out _).outV hgrow; have pf := pfz 1; clear pfz; have hnew := (HPA.out _).pushV hown hgrow; have HNEW := Lib.hid hnew; clear hnew hown hgrow hat)
              go_roundw
              case rel => exact ⟨k + 1, hkl, by go_num, Lib.hid ⟨_, by rw [HONE1.out]; rw [htk] at HNEW; exact HNEW.out⟩⟩
              case measure => simp [RowKit.intOf]; omega
        · obtain rfl : k = M.val.length := by omega
          have hfull : Lv.take M.val.length = Lv := List.take_of_length_le (by omega)
          rw [hfull] at HAR
          clear hfull
          obtain ⟨v1, vc1, hvv, -⟩ := RU_of_OU (show OU wa (n + 3) vv Lv from HAR.out.ov) (by omega)
          subst hvv
          rw [hLl] at HAR
          obtain ⟨o0, o1, o2, ofz⟩ := HAR.out.out
          have hol := HAR.out.out.lt
          have HX := Lib.hid (HX1.out _ HAR.out.e)
          have HH := Lib.hid (HR1.out.ext HX.out)
          obtain ⟨r0, rr1, rr2, rfz⟩ := HH.out
          have f0 := rfz 0
          have f1 := rfz 1
          have f2 := rfz 2
          have hrl9 := HH.out.lt
          clear ofz rfz
          go_wp2_with fail
          have hLC := HLA.out.ext' (HX4.out _ HAR.out.e)
          have hk2 : ∀ {B T sz m : Nat} {v : Value} {xs : List Value}, w.heap.size + 2 ≤ B → wa.ownsRow B T sz v m xs → (((wa.setCell ⟨w.heap.size + 1, 0, none⟩ (.int .i64 (reps.length : Int))).setCell ⟨w.heap.size + 1, 1, none⟩ (.slice v1 M.val.length vc1)).setCell ⟨w.heap.size + 1, 2, none⟩ (.slice none 0 0)).ownsRow B T sz v m xs := by
            intro B T sz m v xs hB ho
            exact setOther (setOther (setOther ho (by omega)) (by omega)) (by omega)
          have hw1 := HW1.out
          have hl1 := hk2 hw1 hLC.own1
          have hl2 := hk2 hw1 hLC.own2
          rw [HRE.out] at hl1
          have hl3 := hk2 (by omega) HAR.out.ov
          obtain ⟨d0, d1, d2, -⟩ := ((HH.out.set0 (.int .i64 (reps.length : Int))).set1 (.slice v1 M.val.length vc1)).set2 (.slice none 0 0)
          have hEx : Ext w (((wa.setCell ⟨w.heap.size + 1, 0, none⟩ (.int .i64 (reps.length : Int))).setCell ⟨w.heap.size + 1, 1, none⟩ (.slice v1 M.val.length vc1)).setCell ⟨w.heap.size + 1, 2, none⟩ (.slice none 0 0)) := (((HE1.out.trans HX.out).setCell (by simp) _).setCell (by simp) _).setCell (by simp) _
          generalize ((wa.setCell ⟨w.heap.size + 1, 0, none⟩ (.int .i64 (reps.length : Int))).setCell ⟨w.heap.size + 1, 1, none⟩ (.slice v1 M.val.length vc1)).setCell ⟨w.heap.size + 1, 2, none⟩ (.slice none 0 0) = W2 at *
          refine bodyPost_ret (v := .tuple #[.agg #[.int .i64 (reps.length : Int), .slice v1 M.val.length vc1, .slice none 0 0], .slice a10 N c10, .slice a9 reps.length c9]) ?_ rfl ?_
          · rw [results_cell_two rfl]
            go_simp
          · have hv : filV M (fFacts f) (repL L N) = Lv := by rw [HFX.out, HRE.out]; exact HLE.out
            rw [hv, HRE.out]
            refine ⟨v1, vc1, a9, c9, a10, c10, by rw [hLl, cls_ln], fun w'' hag => ⟨?_, ?_, ?_⟩, hEx⟩
            · exact OU.mono (b' := w.heap.size) (show OU w'' (n + 3) (.slice v1 Lv.length vc1) Lv by rw [hLl]; exact own_agree hl3 (hag.mono (by omega))) (by omega)
            · obtain ⟨a', c', e', hr⟩ := RI_of_own (l := natI ((List.range N).map (clsOf L N))) (by rw [natI_ln, cls_ln]; exact own_agree hl2 (hag.mono (by omega))) (by rw [natI_ln, cls_ln]; omega)
              rw [natI_ln, cls_ln] at e'
              simp only [Value.slice.injEq] at e'
              rw [e'.1]; exact hr
            · obtain ⟨a', c', e', hr⟩ := RI_of_own (l := natI reps) (by rw [natI_ln]; exact own_agree hl1 (hag.mono (by omega))) (by rw [natI_ln]; omega)
              rw [natI_ln] at e'
              simp only [Value.slice.injEq] at e'
              rw [e'.1]; exact hr
end Wt
