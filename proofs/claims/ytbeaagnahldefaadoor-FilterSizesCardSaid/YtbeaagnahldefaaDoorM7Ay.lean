/- Walk: (*filter.view).build. -/
import Derived.Test.YtbeaagnahldefaaDoorM7Ax
namespace Wt
open Go Go.RowKit Go.Maps Go.Proofs Fm

/-- The row that is built in a round. -/
def RowAt (W0 : World) (reps : List Nat) (R : Nat → Nat → Nat → Bool) (a c d : Nat) (w : World) : Prop := Ext W0 w ∧ OG w W0.heap.size 40 uv W0.heap.size reps.length reps.length (rwP reps R a c d)
theorem RowAt.ext {W0 w w' : World} {reps : List Nat} {R : Nat → Nat → Nat → Bool} {a c d : Nat} (h : RowAt W0 reps R a c d w) (e : Ext w w') : RowAt W0 reps R a c d w' := ⟨h.1.trans e, h.2.ext e⟩
theorem RowAt.put {W0 w : World} {reps : List Nat} {R : Nat → Nat → Nat → Bool} {a c d : Nat} (h : RowAt W0 reps R a c d w) (hc : c < reps.length) (hR : R a (nth reps c) (nth reps d) = true) : RowAt W0 reps R a c (d + 1) (w.setCell ⟨W0.heap.size, c, none⟩ (.int .u64 (un (nth (rwP reps R a c d) c ||| 1#64 <<< d)))) := by
  refine ⟨h.1.setCell (Nat.le_refl _) _, ?_⟩
  have h2 := h.2.set c (nth (rwP reps R a c d) c ||| 1#64 <<< d)
  rw [rwP_yes _ _ _ hc hR] at h2
  exact h2
/-- The list of classes as it is built. -/
def ToAt (W0 : World) (L : List (BitVec 64)) (N k : Nat) (w : World) : Prop := Ext W0 w ∧ OG w W0.heap.size 3 iv W0.heap.size N N (doneL N k (fun j => ((clsOf L N j : Nat) : Int)) 0)
theorem or_powX (x : BitVec 64) {k : Nat} (h : k < 64) : bits .or .u64 (un x) (IntKind.u64.wrap (2 ^ k)) = un (x ||| 1#64 <<< k) := by
  have e := bv_shl_eq (s := 1#64) k
  rw [un_one, Nat.min_eq_left (by omega), Int.one_mul] at e
  rw [e, bv_or]
theorem natI_ln (l : List Nat) : (natI l).length = l.length := by simp [natI]
theorem ToAt.put {W0 w : World} {L : List (BitVec 64)} {N k : Nat} (h : ToAt W0 L N k w) (hk : k < N) : ToAt W0 L N (k + 1) (w.setCell ⟨W0.heap.size, k, none⟩ (.int .i64 ((clsOf L N k : Nat) : Int))) := by
  refine ⟨h.1.setCell (Nat.le_refl _) _, ?_⟩
  rw [← doneL_set _ _ _ _ hk]
  exact h.2.set k _
theorem doneL_cls (L : List (BitVec 64)) (N : Nat) : doneL N N (fun j => ((clsOf L N j : Nat) : Int)) 0 = natI ((List.range N).map (clsOf L N)) := by
  rw [doneL_full]; simp [natI]
set_option maxRecDepth 20000 in
set_option maxHeartbeats 16000000 in
theorem fbuild_any (M : Mo) (N b : Nat) (c : List Nd) (L : List (BitVec 64)) (R : Nat → Nat → Nat → Bool) (F : Nat) (caps : List Value) (va ra ca sa : Option Addr) (vc rc cc sc : Nat) (w : World)
    (hv : VwAt w b (N : Int) va ra ca sa M.val.length vc M.rel.length rc c.length cc L.length sc) (hm : RM w va ra M) (hc : RN w ca c) (hs : RU w sa L) (h64 : N ≤ 64) (hL : L.length ≤ 200) (hv8 : M.val.length ≤ 8) (hr4 : M.rel.length ≤ 4)
    (hF : ∀ args W, (callFunc F args).run Tryd.prog W = .ok (.enter F args) W)
    (hp : ∀ W a x y, Ext w W → a < M.rel.length → x < N → y < N → Calls Tryd.prog F (.int .i64 ((a : Nat) : Int) :: .int .i64 ((x : Nat) : Int) :: .int .i64 ((y : Nat) : Int) :: caps).toArray W fun e w' => e = .returned (.bool (R a x y)) ∧ Ext W w') :
    Calls Tryd.prog 32 #[.pointer (some ⟨b, 0, none⟩), .func (.func F) #[] caps.toArray] w fun e w' => RetFil (filM M (fFacts c) (repL L N) R) ((List.range N).map (clsOf L N)) e w w' := by
  obtain ⟨i0, hi1, hz0, hz1, hz2⟩ := info_parts u64_info
  obtain ⟨i2, hj1, hy0, hy1, hy2⟩ := info_parts sl_info
  have HV := Lib.hid hv
  have HM := Lib.hid hm
  have HC := Lib.hid hc
  have HS := Lib.hid hs
  have HP := Lib.hid hp
  have HIX : Hid (∀ k a c w, k < N → RI w a (natI (repL L N)) → Calls Tryd.prog 75 #[.slice a (repL L N).length c, .int .i64 ((lowOf L k : Nat) : Int)] w fun e w' => e = .returned (.int .i64 ((clsOf L N k : Nat) : Int)) ∧ w = w') := Lib.hid fun k a c w hk hr => index_cls L N k a c w (by omega) hk hr
  have HRP : Hid (∀ i, i < (repL L N).length → nth (repL L N) i < N) := Lib.hid fun i hi => rep_lt hi
  have HLO : Hid (∀ k, k < N → nth (lowL L N) k = lowOf L k) := Lib.hid fun k hk => lowL_nth L hk
  have HLL : Hid ((lowL L N).length = N) := Lib.hid (lowL_len L N)
  have hKN := repL_len L N
  have hE0 : Ext w (w.alloc (.cells #[.int .i64 0, .slice none 0 0, .slice none 0 0] 25)) := (Ext.refl w).alloc _
  have HE0 := Lib.hid hE0
  have HR0 := Lib.hid (OutAt.new w (.int .i64 0) (.slice none 0 0) (.slice none 0 0) 25)
  have hs0 : (w.alloc (.cells #[.int .i64 0, .slice none 0 0, .slice none 0 0] 25)).heap.size = w.heap.size + 1 := by simp
  have HS0 := Lib.hid hs0
  clear hv hm hc hs hp hs0 hE0
  go_enter Tryd.func32, Tryd.ntmps32
  go_wp2_with fail
  generalize w.alloc (.cells #[.int .i64 0, .slice none 0 0, .slice none 0 0] 25) = w0 at *
  refine (classes_any N b L va ra ca sa M.val.length vc M.rel.length rc c.length cc sc w0 (HV.out.ext HE0.out) (HS.out.ext HE0.out) h64 hL).mono ?_
  rintro _ w1 ⟨gp, rfl, ho1, hE1⟩
  have HO1 := Lib.hid ho1
  have HE1 := Lib.hid hE1
  clear ho1 hE1
  dsimp only
  go_wp2_with fail
  refine (cloneI_any HO1.out (by omega)).mono ?_
  rintro _ w2 ⟨gl, cl, rfl, ho2, hE2⟩
  have HO2 := Lib.hid ho2
  have HE2 := Lib.hid hE2
  clear ho2 hE2
  dsimp only
  go_wp2_with fail
  refine (sortI_any HO2.out (by omega)).mono ?_
  rintro _ w3 ⟨rfl, ho3, hg3⟩
  have HO3 := Lib.hid ho3
  have HG3 := Lib.hid hg3
  clear ho3 hg3
  dsimp only
  go_wp2_with fail
  refine (compactI_any HO3.out (by omega)).mono ?_
  rintro _ w4 ⟨rfl, ho4, hg4⟩
  rw [compact_low] at ho4 ⊢
  rw [natI_ln] at ho4 ⊢
  have hgl : w1.heap.size ≤ gl := ho4.base_le
  have hgp : gp < w1.heap.size := HO1.out.lt
  have hE4 : Ext w1 w4 := Below.grown (Below.grown HE2.out HG3.out HE2.out.size (fun r e => by cases e; exact hgl)) hg4 (Nat.le_trans HE2.out.size HG3.out.size) (fun r e => by cases e; exact hgl)
  have HO4 := Lib.hid ho4
  have HP4 := Lib.hid (HO1.out.ext hE4)
  have HE4 := Lib.hid ((HE0.out.trans HE1.out).trans hE4)
  have HR4 := Lib.hid (HR0.out.ext (HE1.out.trans hE4))
  clear HO1 HO2 HO3 HG3 HE2 HE1 HR0 ho4 hg4 hE4 HE0
  have hn4 : 2 ≤ w4.heap.size := by have h1 := HO4.out.lt; have h2 := HP4.out.lt; omega
  obtain ⟨n, hn⟩ : ∃ n, w4.heap.size = n + 2 := ⟨w4.heap.size - 2, by omega⟩
  have hA0 : AR (w4.alloc (.cells #[.int .i64 ((repL L N).length : Int), .slice none 0 0, .slice none 0 0] 25)) n (repL L N).length [] [] [] (.slice none 0 0) (.slice none 0 0) (w4.alloc (.cells #[.int .i64 ((repL L N).length : Int), .slice none 0 0, .slice none 0 0] 25)) :=
    ⟨Below.refl _ _, by simp; omega, by rw [← hn]; exact OutAt.new w4 _ _ _ _, World.ownsRow_nil _ _ _ _, World.ownsRow_nil _ _ _ _, rfl, fun j hj => absurd hj (by simp), fun i j _ hj => absurd hj (by simp), fun j hj => absurd hj (by simp)⟩
  have hEW : Ext w4 (w4.alloc (.cells #[.int .i64 ((repL L N).length : Int), .slice none 0 0, .slice none 0 0] 25)) := (Ext.refl w4).alloc _
  have HA0 := Lib.hid hA0
  have HN4 := Lib.hid hn
  clear hn
  have HEW := Lib.hid hEW
  obtain ⟨v0, v1, v2, v3, v4⟩ := HV.out.ext HE4.out
  have vlt := World.block_lt_of_cell? _ _ v0
  dsimp only at vlt
  clear hA0 hEW
  dsimp only
  go_wp2_with fail
  clear v0 v1 v2 v3 v4 vlt
  generalize w4.alloc (.cells #[.int .i64 ((repL L N).length : Int), .slice none 0 0, .slice none 0 0] 25) = W0 at *
  rw [HN4.out]
  have hwn : w.heap.size ≤ n + 2 := by rw [← HN4.out]; exact HE4.out.size
  have HX4 : Hid (∀ w', Below (n + 2) W0 w' → Ext w4 w') := Lib.hid fun w' e => Below.trans HEW.out (Below.mono e (by have := HN4.out; omega))
  have HX : Hid (∀ w', Below (n + 2) W0 w' → Ext w w') := Lib.hid fun w' e => HE4.out.trans (HX4.out w' e)
  refine (facts_any ca cc c _ (HC.out.ext (HX.out _ (Below.refl _ _)))).mono ?_
  rintro _ w5 ⟨rfl, hE5⟩
  have HA5 := Lib.hid (HA0.out.ext' hE5)
  have hfl : fFacts c < 512 := unionL_lt factN factN_lt (fCompact c)
  generalize hfx : fFacts c = fx at *
  have HFX := Lib.hid hfx
  clear hfx hE5 HA0
  generalize hreps : repL L N = reps at *
  have HRE := Lib.hid hreps
  clear hreps
  have HLn : Hid (∀ w', Ext w4 w' → OG w' w1.heap.size 3 iv gl reps.length cl (natI reps)) := Lib.hid fun w' e => HO4.out.ext e
  obtain ⟨v0, v1, v2, v3, v4⟩ := HV.out.ext (HX.out w5 HA5.out.e)
  have vlt := World.block_lt_of_cell? _ _ v0
  dsimp only at vlt
  generalize hL : filV M fx reps = Lv
  have hLl : Lv.length = M.val.length := by rw [← hL]; simp [filV]
  have HL : Hid (∀ k, k < M.val.length → nth Lv k = setTo (fun c => fx.testBit k && bt (nth M.val k) (nth reps c)) reps.length) := Lib.hid fun k hk => by rw [← hL]; unfold filV; exact nth_mapX _ hk
  have HLE := Lib.hid hL
  clear hL
  dsimp only
  go_wp2_with fail
  clear v0 v1 v2 v3 v4 vlt
  go_loopw [46] (fun i wr => ∃ k : Nat, k ≤ M.val.length ∧ i = .int .i64 (k : Int) ∧ Hid (ARV W0 n reps.length Lv k wr)) (fun i _ => M.val.length - (RowKit.intOf i).toNat)
  case atStart => exact ⟨0, Nat.zero_le _, rfl, Lib.hid ⟨_, HA5.out⟩⟩
  case round =>
    obtain ⟨k, hk, rfl, HAV⟩ := hrel
    obtain ⟨vv, hAR⟩ := HAV.out
    have HAR := Lib.hid hAR
    clear HAV hAR
    by_cases hkl : k < M.val.length
    · obtain ⟨b1, off, rfl, hb, hc⟩ := (HM.out.val.ext (HX.out wr HAR.out.e)).get hkl
      have htk : (Lv.take k).length = k := by rw [List.length_take]; omega
      go_wp2_with fail
      clear hb hc
      have hLk := HL.out k hkl
      obtain ⟨P, hP⟩ : ∃ P : Nat → Bool, P = fun c => fx.testBit k && bt (nth M.val k) (nth reps c) := ⟨_, rfl⟩
      rw [← hP] at hLk
      have HPJ : Hid (∀ j, P j = (fx.testBit k && bt (nth M.val k) (nth reps j))) := Lib.hid fun j => by rw [hP]
      have HLk := Lib.hid hLk
      clear hP hLk
      generalize nth M.val k = s at *
      go_loopw [12, 53] (fun t i wz => ∃ j : Nat, j ≤ reps.length ∧ i = .int .i64 (j : Int) ∧ t = .int .u64 (un (setTo P j)) ∧ wz = wr) (fun _ i _ => reps.length - (RowKit.intOf i).toNat)
      case atStart => exact ⟨0, Nat.zero_le _, rfl, rfl, rfl⟩
      case round =>
        rename World => wz
        obtain ⟨j, hj, rfl, rfl, rfl⟩ := hrel
        by_cases hjl : j < reps.length
        · have hgl2 := (HLn.out _ (HX4.out _ HAR.out.e)).lt
          have hgc := (HLn.out _ (HX4.out _ HAR.out.e)).cell hjl
          rw [nth_natI hjl] at hgc
          change wz.cell? ⟨gl, j, none⟩ = some (.int .i64 ((nth reps j : Nat) : Int)) at hgc
          have h63 : nth reps j < 64 := by have := HRP.out j hjl; omega
          have hs0 := and_div fx k
          have hbu := bit_un s (nth reps j)
          have hj64 : j < 64 := by omega
          have hst : setTo P (j + 1) = if P j = true then setTo P j ||| 1#64 <<< j else setTo P j := rfl
          rw [HPJ.out j] at hst
          have HST := Lib.hid hst
          have HOP := Lib.hid (or_powX (setTo P j) hj64)
          clear hst
          generalize setTo P j = x at *
          cases hq1 : fx.testBit k <;> cases hq2 : bt s (nth reps j)
          all_goals
            rw [hq2] at hbu
            have hb1 : b01 fx k = b01I (fx.testBit k) := rfl
            rw [hq1] at hb1
            rw [hb1] at hs0
            have HQ1 := Lib.hid hq1
            have HQ2 := Lib.hid hq2
            simp only [b01I, if_true, if_false, Bool.false_eq_true] at hbu hs0
            clear hb1 hq1 hq2
            go_wp2_with fail
            go_roundw
            case rel =>
              refine ⟨j + 1, hjl, by go_num, ?_, trivial⟩
              rw [HST.out, HQ1.out, HQ2.out]
              first | rfl | (rw [← HOP.out]; rfl)
            case measure => simp [RowKit.intOf]; omega
        · obtain rfl : j = reps.length := by omega
          rw [show setTo P reps.length = nth Lv k from HLk.out.symm]
          obtain ⟨o0, o1, o2, ofz⟩ := HAR.out.out
          have hsz := HAR.out.out.lt
          have hfz := ofz 1
          clear ofz
          have hone : Lv.take (k + 1) = Lv.take k ++ [nth Lv k] := by
            rw [nth_eq _ _ (by omega), List.take_add_one, List.getElem?_eq_getElem (by omega)]; rfl
          have HONE1 := Lib.hid hone
          have HPA : Hid (∀ o, AR W0 n reps.length (Lv.take k) [] [] vv (.slice none 0 0) (wz.alloc o)) := Lib.hid fun o => HAR.out.ext' ((Ext.refl wz).alloc o)
          clear hone
          generalize nth Lv k = x at *
          have HONE : Hid (∀ u ∈ [Value.int .u64 (un x)], u.oneCell' = true) := fun u hu => by
            rcases List.mem_singleton.1 hu with rfl
            rfl
          go_wp2_with (at_builtin; refine wpList_append_lies _ rfl _ _ 22 rfl (n + 3) 40 i0 _ 1 8 Tryd.underlying22 hi1 hz0 hz1 hz2 rfl (by decide) vv (Lv.take k).length _ rfl (HPA.out _).ov ⟨wz.heap.size, 0, none⟩ 1 1 [.int .u64 (un x)] rfl rfl (cell_one_new _ _ _) HONE.out (by decide) (by unfold maxLen; omega) (by omega) (by simp; omega) (wz.heap.size + 1) (by simp) ?_; intro gx cap W1 hown hgrow hat hlt2; obtain ⟨p0, p1, p2, pfz⟩ := (HPA.out _).outV hgrow; have pf := pfz 1; clear pfz; have hnew := (HPA.out _).pushV hown hgrow; have HNEW := Lib.hid hnew; clear hnew hown hgrow hat)
          go_roundw
          case rel => exact ⟨k + 1, hkl, by go_num, Lib.hid ⟨_, by rw [HONE1.out]; rw [htk] at HNEW; exact HNEW.out⟩⟩
          case measure => simp [RowKit.intOf]; omega
    · obtain rfl : k = M.val.length := by omega
      have hfull : Lv.take M.val.length = Lv := List.take_of_length_le (by omega)
      rw [hfull] at HAR
      clear hfull
      obtain ⟨v0, v1, v2, v3, v4⟩ := HV.out.ext (HX.out wr HAR.out.e)
      have vlt := World.block_lt_of_cell? _ _ v0
      dsimp only at vlt
      go_wp2_with fail
      clear v0 v1 v2 v3 v4 vlt
      generalize hRows : filR M.rel.length reps R = Rows
      have hRl : Rows.length = M.rel.length := by rw [← hRows]; simp [filR]
      have HRow : Hid (∀ a, a < M.rel.length → nth Rows a = rwP reps R a reps.length 0) := Lib.hid fun a ha => by rw [← hRows, rwP_all]; unfold filR; exact nth_mapX _ ha
      have HRE2 := Lib.hid hRows
      clear hRows
      go_loopw [88] (fun i wz => ∃ a : Nat, a ≤ M.rel.length ∧ i = .int .i64 (a : Int) ∧ Hid (ARR W0 n reps.length Lv Rows a wz)) (fun i _ => M.rel.length - (RowKit.intOf i).toNat)
      case atStart => exact ⟨0, Nat.zero_le _, rfl, Lib.hid ⟨_, _, _, HAR.out⟩⟩
      case round =>
        clear HAR
        rename World => wa
        obtain ⟨a, ha, rfl, HAR2⟩ := hrel
        obtain ⟨vv2, svs, vr, hAR⟩ := HAR2.out
        have HAR := Lib.hid hAR
        clear HAR2 hAR
        by_cases hal : a < M.rel.length
        · have mk1 := fun (w : World) => run_make_row' (P := Tryd.prog) 22 40 (.int .u64 0) 8 Tryd.underlying22 u64_info rfl .i64 .i64 reps.length (by omega) (by omega) w
          go_wp2_with fail
          clear mk1
          have hK0 : RowAt wa reps R a 0 0 (wa.alloc (.cells (madeCells #[.int .u64 0] reps.length) 40)) := ⟨(Ext.refl wa).alloc _, by rw [rwP_zero]; exact OG.made (enc := uv) wa reps.length 0#64 (Nat.le_refl _) (by omega)⟩
          have HK0 := Lib.hid hK0
          clear hK0
          generalize wa.alloc (.cells (madeCells #[.int .u64 0] reps.length) 40) = wb at *
          have HLw : Hid (∀ w', Ext wa w' → OG w' w1.heap.size 3 iv gl reps.length cl (natI reps)) := Lib.hid fun w' e => HLn.out _ ((HX4.out _ HAR.out.e).trans e)
          go_loopw [96] (fun i wz => ∃ ci : Nat, ci ≤ reps.length ∧ i = .int .i64 (ci : Int) ∧ Hid (RowAt wa reps R a ci 0 wz)) (fun i _ => reps.length - (RowKit.intOf i).toNat)
          case atStart => exact ⟨0, Nat.zero_le _, rfl, HK0⟩
          case round =>
            clear HK0
            rename World => wz
            obtain ⟨ci, hci, rfl, HRA⟩ := hrel
            by_cases hcl : ci < reps.length
            · have hgl2 := (HLw.out _ HRA.out.1).lt
              have hgc := (HLw.out _ HRA.out.1).cell hcl
              rw [nth_natI hcl] at hgc
              change wz.cell? ⟨gl, ci, none⟩ = some (.int .i64 ((nth reps ci : Nat) : Int)) at hgc
              go_wp2_with fail
              clear hgl2 hgc
              go_loopw [103] (fun i wy => ∃ di : Nat, di ≤ reps.length ∧ i = .int .i64 (di : Int) ∧ Hid (RowAt wa reps R a ci di wy)) (fun i _ => reps.length - (RowKit.intOf i).toNat)
              case atStart => exact ⟨0, Nat.zero_le _, rfl, HRA⟩
              case round =>
                clear HRA
                rename World => wy
                obtain ⟨di, hdi, rfl, HRA⟩ := hrel
                by_cases hdl : di < reps.length
                · have hgl2 := (HLw.out _ HRA.out.1).lt
                  have hgc := (HLw.out _ HRA.out.1).cell hdl
                  rw [nth_natI hdl] at hgc
                  change wy.cell? ⟨gl, di, none⟩ = some (.int .i64 ((nth reps di : Nat) : Int)) at hgc
                  have HCC := Lib.hid (HP.out wy a (nth reps ci) (nth reps di) ((HX.out _ HAR.out.e).trans HRA.out.1) hal (HRP.out _ hcl) (HRP.out _ hdl))
                  have hdi64 : di < 64 := by omega
                  cases hR : R a (nth reps ci) (nth reps di)
                  · rw [hR] at HCC
                    have HRR := Lib.hid hR
                    clear hR
                    go_wp2_with fail
                    refine HCC.out.mono ?_
                    rintro _ w9 ⟨rfl, hE9⟩
                    have HR9 : Hid (RowAt wa reps R a ci (di + 1) w9) := Lib.hid (by have h := HRA.out.ext hE9; unfold RowAt at h ⊢; rw [rwP_no _ _ _ HRR.out]; exact h)
                    clear hE9 hgc hgl2
                    dsimp only
                    go_wp2_with fail
                    go_roundw
                    case rel => exact ⟨di + 1, hdl, by go_num, HR9⟩
                    case measure => simp [RowKit.intOf]; omega
                  · rw [hR] at HCC
                    have HRR := Lib.hid hR
                    clear hR
                    go_wp2_with fail
                    refine HCC.out.mono ?_
                    rintro _ w9 ⟨rfl, hE9⟩
                    have HR8 := Lib.hid (HRA.out.ext hE9)
                    have HR9 := Lib.hid (HR8.out.put hcl HRR.out)
                    have kf := HR8.out.2.frozen ci
                    have kl := HR8.out.2.lt
                    have kc := HR8.out.2.cell hcl
                    generalize nth (rwP reps R a ci di) ci = x at *
                    change w9.cell? ⟨wa.heap.size, ci, none⟩ = some (.int .u64 (un x)) at kc
                    have HOP := Lib.hid (or_powX x hdi64)
                    clear hE9 hgc hgl2
                    dsimp only
                    go_wp2_with fail
                    refine wp_region_still_tail 8 (by kernel_rfl) (by kernel_rfl) ?_
                    simp only [List.take_succ_cons, List.take_zero, List.drop_succ_cons, List.drop_zero]
                    repeat still_step
                    refine wpStill_nil ?_
                    have kf' : w9.drew.frozen? ⟨wa.heap.size, ci, none⟩ = false := kf
                    have kc' : w9.drew.cell? ⟨wa.heap.size, ci, none⟩ = some (.int .u64 (un x)) := kc
                    change wpList _ _ _ _ _ w9.drew
                    go_wp2
                    go_roundw
                    case rel => exact ⟨di + 1, hdl, by go_num, Lib.hid (by have h := HR9.out; first | exact h.ext (Ext.refl _).drew | (rw [← HOP.out] at h; exact h.ext (Ext.refl _).drew))⟩
                    case measure => simp [RowKit.intOf]; omega
                · obtain rfl : di = reps.length := by omega
                  have HRB : Hid (RowAt wa reps R a (ci + 1) 0 wy) := Lib.hid (by have h := HRA.out; unfold RowAt at h ⊢; rw [rwP_next] at h; exact h)
                  clear HRA
                  go_wp2_with fail
                  go_roundw
                  case rel => exact ⟨ci + 1, hcl, by go_num, HRB⟩
                  case measure => simp [RowKit.intOf]; omega
            · obtain rfl : ci = reps.length := by omega
              have hOU : OU wz wa.heap.size (.slice (some ⟨wa.heap.size, 0, none⟩) reps.length reps.length) (nth Rows a) := by
                rw [HRow.out a hal]; unfold OU; rw [rwP_len]; exact HRA.out.2.row
              have HAP := Lib.hid (HAR.out.apart hOU)
              have HA3 := Lib.hid (HAR.out.ext' HRA.out.1)
              obtain ⟨o0, o1, o2, ofz⟩ := HA3.out.out
              have hsz3 := HA3.out.out.lt
              have hsz2 := HAR.out.out.lt
              have hfz := ofz 2
              have hrl2 : svs.length = a := by rw [HA3.out.rl, List.length_take]; omega
              have HPA : Hid (∀ o, AR W0 n reps.length Lv svs (Rows.take a) vv2 vr (wz.alloc o)) := Lib.hid fun o => HA3.out.ext' ((Ext.refl wz).alloc o)
              have hrow3 : OU wz (n + 3) (.slice (some ⟨wa.heap.size, 0, none⟩) reps.length reps.length) (nth Rows a) := OU.mono (b' := n + 3) hOU (by omega)
              have HR3 : Hid (∀ o, OU (wz.alloc o) (n + 3) (.slice (some ⟨wa.heap.size, 0, none⟩) reps.length reps.length) (nth Rows a)) := Lib.hid fun o => hrow3.ext ((Ext.refl wz).alloc o)
              have HONE : Hid (∀ u ∈ [Value.slice (some ⟨wa.heap.size, 0, none⟩) reps.length reps.length], u.oneCell' = true) := fun u hu => by
                rcases List.mem_singleton.1 hu with rfl
                rfl
              have hone : Rows.take (a + 1) = Rows.take a ++ [nth Rows a] := by
                rw [nth_eq _ _ (by omega), List.take_add_one, List.getElem?_eq_getElem (by omega)]; rfl
              have HONE1 := Lib.hid hone
              clear hrow3 hone hOU ofz HRA
              go_wp2_with (at_builtin; refine wpList_append_lies _ rfl _ _ 23 rfl (n + 3) 22 i2 _ 1 24 Tryd.underlying23 hj1 hy0 hy1 hy2 rfl (by decide) vr svs.length svs rfl (HPA.out _).orr ⟨wz.heap.size, 0, none⟩ 1 1 [.slice (some ⟨wa.heap.size, 0, none⟩) reps.length reps.length] rfl rfl (cell_one_new _ _ _) HONE.out (by decide) (by unfold maxLen; omega) (by omega) (by simp; omega) (wz.heap.size + 1) (by simp) ?_; intro gx cap W1 hown hgrow hat hlt2; obtain ⟨p0, p1, p2, pfz⟩ := (HPA.out _).outR hgrow; have pf := pfz 2; clear pfz; have hnew := (HPA.out _).pushR (HR3.out _) HAP.out hown hgrow; have HNEW := Lib.hid hnew; clear hnew hown hgrow hat)
              go_roundw
              case rel => exact ⟨a + 1, hal, by go_num, Lib.hid ⟨vv2, _, _, by rw [HONE1.out]; rw [hrl2] at HNEW; exact HNEW.out⟩⟩
              case measure => simp [RowKit.intOf]; omega
        · obtain rfl : a = M.rel.length := by omega
          have hfull2 : Rows.take M.rel.length = Rows := List.take_of_length_le (by omega)
          rw [hfull2] at HAR
          clear hfull2
          have mk2 := fun (w : World) => run_make_row' (P := Tryd.prog) 29 3 (.int .i64 0) 8 Tryd.underlying29 int_info rfl .i64 .i64 N (by omega) (by omega) w
          go_wp2_with fail
          clear mk2
          have hT0 : ToAt wa L N 0 (wa.alloc (.cells (madeCells #[.int .i64 0] N) 3)) := ⟨(Ext.refl wa).alloc _, by rw [doneL_zero]; exact OG.made (enc := iv) wa N (0 : Int) (Nat.le_refl _) (by omega)⟩
          have HT0 := Lib.hid hT0
          clear hT0
          generalize wa.alloc (.cells (madeCells #[.int .i64 0] N) 3) = wb at *
          have HLw : Hid (∀ w', Ext wa w' → OG w' w1.heap.size 3 iv gl reps.length cl (natI reps)) := Lib.hid fun w' e => HLn.out _ ((HX4.out _ HAR.out.e).trans e)
          have HPw : Hid (∀ w', Ext wa w' → OG w' w0.heap.size 3 iv gp N N (natI (lowL L N))) := Lib.hid fun w' e => HP4.out.ext ((HX4.out _ HAR.out.e).trans e)
          go_loopw [135] (fun i wz => ∃ k : Nat, k ≤ N ∧ i = .int .i64 (k : Int) ∧ Hid (ToAt wa L N k wz)) (fun i _ => N - (RowKit.intOf i).toNat)
          case atStart => exact ⟨0, Nat.zero_le _, rfl, HT0⟩
          case round =>
            clear HT0
            rename World => wz
            obtain ⟨k, hk, rfl, HTA⟩ := hrel
            by_cases hkN : k < N
            · have hp2 := (HPw.out _ HTA.out.1).lt
              have hpc := (HPw.out _ HTA.out.1).cell hkN
              rw [nth_natI (by rw [HLL.out]; exact hkN), HLO.out k hkN] at hpc
              change wz.cell? ⟨gp, k, none⟩ = some (.int .i64 ((lowOf L k : Nat) : Int)) at hpc
              have kf := HTA.out.2.frozen k
              have kl := HTA.out.2.lt
              have kc := HTA.out.2.cell hkN
              have HCC := Lib.hid (HIX.out k (some ⟨gl, 0, none⟩) cl wz hkN (RI_of_OG (HLw.out _ HTA.out.1) (by omega)))
              have HTB := Lib.hid (HTA.out.put hkN)
              go_wp2_with fail
              refine HCC.out.mono ?_
              rintro _ _ ⟨rfl, rfl⟩
              dsimp only
              go_wp2_with fail
              go_roundw
              case rel => exact ⟨k + 1, hkN, by go_num, HTB⟩
              case measure => simp [RowKit.intOf]; omega
            · obtain rfl : N = k := by omega
              have hto := HTA.out.2
              rw [doneL_cls] at hto
              have HTO := Lib.hid hto
              have HA4 := Lib.hid (HAR.out.ext' HTA.out.1)
              obtain ⟨o0, o1, o2, ofz⟩ := HA4.out.out
              have hol := HA4.out.out.lt
              have hh := HR4.out.ext ((HX4.out _ HAR.out.e).trans HTA.out.1)
              have hew : Ext w wz := (HX.out _ HAR.out.e).trans HTA.out.1
              obtain ⟨v1, vc1, rfl, -⟩ := RU_of_OU (show OU wz (n + 3) vv2 Lv from HA4.out.ov) (by omega)
              have hsl : svs.length = M.rel.length := by rw [HA4.out.rl]; exact hRl
              obtain ⟨r1, rc1, rfl⟩ : ∃ a c, vr = .slice a M.rel.length c := by
                rcases HA4.out.orr.2 with ⟨rfl, h0⟩ | ⟨g, cap, cur, rfl, _⟩
                · exact ⟨none, 0, by rw [← hsl, h0]⟩
                · exact ⟨some ⟨g, 0, none⟩, cap, by rw [hsl]⟩
              rw [hLl] at o1 HA4
              have HH := Lib.hid hh
              obtain ⟨r0, rr1, rr2, rfz⟩ := hh
              have f0 := rfz 0
              have f1 := rfz 1
              have f2 := rfz 2
              have hrl9 := HH.out.lt
              have hwa := (HX.out _ HAR.out.e).size
              have hwne : wa.heap.size ≠ w.heap.size := by have h1 := HR4.out.lt; have h2 := (HX4.out _ HAR.out.e).size; omega
              have HEW2 := Lib.hid hew
              have HWA := Lib.hid hwa
              have HWNE := Lib.hid hwne
              clear hto ofz hew rfz hwa hwne HTA
              go_wp2_with fail
              have hk2 : ∀ {T sz m : Nat} {v : Value} {xs : List Value}, wz.ownsRow (n + 3) T sz v m xs → (((wz.setCell ⟨w.heap.size, 0, none⟩ (.int .i64 (reps.length : Int))).setCell ⟨w.heap.size, 1, none⟩ (.slice v1 M.val.length vc1)).setCell ⟨w.heap.size, 2, none⟩ (.slice r1 M.rel.length rc1)).ownsRow (n + 3) T sz v m xs := by
                intro T sz m v xs ho
                exact setOther (setOther (setOther ho (by omega)) (by omega)) (by omega)
              obtain ⟨d0, d1, d2, -⟩ := ((HH.out.set0 (.int .i64 (reps.length : Int))).set1 (.slice v1 M.val.length vc1)).set2 (.slice r1 M.rel.length rc1)
              have hEx : Ext w (((wz.setCell ⟨w.heap.size, 0, none⟩ (.int .i64 (reps.length : Int))).setCell ⟨w.heap.size, 1, none⟩ (.slice v1 M.val.length vc1)).setCell ⟨w.heap.size, 2, none⟩ (.slice r1 M.rel.length rc1)) := ((HEW2.out.setCell (Nat.le_refl _) _).setCell (Nat.le_refl _) _).setCell (Nat.le_refl _) _
              have hovF := hk2 HA4.out.ov
              have horF := hk2 HA4.out.orr
              have hrwF := fun j hj => hk2 (HA4.out.rw j hj)
              have htoF := ((HTO.out.other 0 (.int .i64 (reps.length : Int)) HWNE.out).other 1 (.slice v1 M.val.length vc1) HWNE.out).other 2 (.slice r1 M.rel.length rc1) HWNE.out
              generalize ((wz.setCell ⟨w.heap.size, 0, none⟩ (.int .i64 (reps.length : Int))).setCell ⟨w.heap.size, 1, none⟩ (.slice v1 M.val.length vc1)).setCell ⟨w.heap.size, 2, none⟩ (.slice r1 M.rel.length rc1) = W2 at *
              refine bodyPost_ret (v := .tuple #[.agg #[.int .i64 (reps.length : Int), .slice v1 M.val.length vc1, .slice r1 M.rel.length rc1], .slice (some ⟨wa.heap.size, 0, none⟩) N N]) ?_ rfl ?_
              · rw [results_cell_tmp rfl]
                go_simp
              · have hF : FrM w.heap.size W2 v1 r1 vc1 rc1 (filM M fx reps R) svs := by
                  have e1 : (filM M fx reps R).val = Lv := HLE.out
                  have e2 : (filM M fx reps R).rel = Rows := HRE2.out
                  refine ⟨?_, ?_, ?_, ?_, HA4.out.dj, ?_, ?_⟩
                  · rw [e1]; exact OU.mono (b' := w.heap.size) (show OU W2 (n + 3) (.slice v1 Lv.length vc1) Lv by rw [hLl]; exact hovF) (by omega)
                  · rw [e2, hRl]; exact own_mono horF (by omega)
                  · rw [e2]; exact HA4.out.rl
                  · rw [e2]; exact fun j hj => OU.mono (b' := w.heap.size) (show OU W2 (n + 3) _ _ from hrwF j hj) (by omega)
                  · rw [e1, hLl]; exact HA4.out.dv
                  · rw [e1, e2]; exact ⟨by omega, by omega, fun j hj => by rw [HRow.out j (by omega), rwP_len]; omega⟩
                rw [HFX.out, HRE.out]
                refine ⟨v1, r1, some ⟨wa.heap.size, 0, none⟩, vc1, rc1, N, ?_, fun w'' hag => ⟨(hF.agree hag).rm, ?_⟩, hEx⟩
                · have e1 : (filM M fx reps R).val.length = M.val.length := by rw [show (filM M fx reps R).val = Lv from HLE.out]; exact hLl
                  have e2 : (filM M fx reps R).rel.length = M.rel.length := by rw [show (filM M fx reps R).rel = Rows from HRE2.out]; exact hRl
                  rw [e1, e2, List.length_map, List.length_range]
                  rfl
                · exact RI_of_OG ⟨htoF.len, own_agree htoF.row (hag.mono HWA.out)⟩ (by omega)
end Wt
