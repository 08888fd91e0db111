/- Walk: wittingref23.largest (printed by gen_frd.py). -/
import Derived.Test.YtbeaagnahldefaaGreatDoorM9Bn
import Derived.Test.YtbeaagnahldefaaGreatDoorM9Bj
import Derived.Test.YtbeaagnahldefaaGreatDoorM9Bk
import Derived.Test.YtbeaagnahldefaaGreatDoorM9Bi
namespace Wt
open Go Go.RowKit Go.Maps Go.Proofs Fm

set_option maxRecDepth 20000 in
set_option maxHeartbeats 16000000 in
theorem r23largest_any (M : Mo) (va ra : Option Addr) (vc rc : Nat) (fa : Option Addr) (fc : Nat) (f : List Nd) (keep : Bool) (w : World) (hm : RM w va ra M) (hf : RN w fa f) (hl : lookErr M f = 0) :
    Calls Tryz.prog 40 #[.agg #[.int .i64 M.worlds, .slice va M.val.length vc, .slice ra M.rel.length rc], .slice fa f.length fc, .bool keep] w fun e w' => RetR (filLa M f keep) (natI (filN M f)) 0 e w w' := by
  obtain ⟨i0, hi1, hz0, hz1, hz2⟩ := info_parts u64_info
  obtain ⟨i3, hk1, hx0, hx1, hx2⟩ := info_parts sl_info
  have hE0 := ((Ext.refl w).alloc (.cells #[.int .i64 M.worlds, .slice va M.val.length vc, .slice ra M.rel.length rc] 25)).alloc (.cells #[.int .i64 0, .slice none 0 0, .slice none 0 0] 25)
  have hbx := (MoBox.new w M.worlds M.val M.rel va vc ra rc 25).ext ((Ext.refl _).alloc (.cells #[.int .i64 0, .slice none 0 0, .slice none 0 0] 25))
  have hr0 := OutAt.new1 w (.cells #[.int .i64 M.worlds, .slice va M.val.length vc, .slice ra M.rel.length rc] 25) (.int .i64 0) (.slice none 0 0) (.slice none 0 0) 25
  have HE := Lib.hid hE0
  have HM := Lib.hid (hm.ext hE0)
  have HF := Lib.hid (hf.ext hE0)
  have HB := Lib.hid hbx
  have HR := Lib.hid hr0
  have hs0 : ((w.alloc (.cells #[.int .i64 M.worlds, .slice va M.val.length vc, .slice ra M.rel.length rc] 25)).alloc (.cells #[.int .i64 0, .slice none 0 0, .slice none 0 0] 25)).heap.size = w.heap.size + 2 := by simp
  have HSZ := Lib.hid hs0
  obtain ⟨m0, m1, m2⟩ := hbx
  dsimp only at m0 m1 m2
  clear hE0 hf hm hr0 hs0
  obtain ⟨N, vk⟩ := vok_of hl
  have h64 := vk.vw.ok.most
  have hwN : M.worlds = (N : Int) := vk.vw.ok.worlds
  have hv8 : M.val.length ≤ 8 := vk.vw.ok.val
  have hr4 : M.rel.length ≤ 4 := vk.vw.ok.rel
  have HWN := Lib.hid hwN
  have HC : Hid (filN M f = (List.range N).map (clsOf (subL M (rt f)) N)) := Lib.hid (by unfold filN; rw [if_pos hl, vk.nn])
  have HA : Hid (filLa M f keep = filM M (fFacts f) (repL (subL M (rt f)) N) (permL (subL M (rt f)) (fCompact f) keep)) := Lib.hid (by unfold filLa; rw [if_pos hl, vk.nn, vk.cc])
  have HBA : Hid (∀ W, RM W va ra M → RN W fa f → Calls Tryz.prog 36 #[.agg #[.int .i64 M.worlds, .slice va M.val.length vc, .slice ra M.rel.length rc], .slice fa f.length fc] W fun e w' => RetBa (filV M (fFacts f) (repL (subL M (rt f)) N)) ((List.range N).map (clsOf (subL M (rt f)) N)) (repL (subL M (rt f)) N) e W w') := Lib.hid fun W h1 h2 => by
    have h3 := r23base_any M va ra vc rc fa fc f W h1 h2 hl
    rw [vk.nn, show filN M f = (List.range N).map (clsOf (subL M (rt f)) N) by unfold filN; rw [if_pos hl, vk.nn]] at h3
    exact h3
  have HSE : Hid (∀ W a c, RM W va ra M → RN W a (fCompact f) → Calls Tryz.prog 31 #[.agg #[.int .i64 M.worlds, .slice va M.val.length vc, .slice ra M.rel.length rc], .slice a (fCompact f).length c] W fun e w' => RetS M (fCompact f) e W w') := Lib.hid fun W a c h1 h2 => r17Sets_any M va ra vc rc a c (fCompact f) W h1 h2
  have HCO : Hid (∀ W, RN W fa f → Calls Tryz.prog 32 #[.slice fa f.length fc] W fun e w' => RetN (fCompact f) e W w') := Lib.hid fun W h => r5Compact_any fa fc f W h
  have HSS := Lib.hid (look_sets hl).1
  have hrq : reqErr M (fCompact f) = 0 := by
    obtain ⟨a1, a2, a3, -⟩ := lookErr_ok hl
    rw [← look_req a1 a2 a3]; exact hl
  have HRE := Lib.hid hrq
  have HSM := Lib.hid vk.same
  have HBX := Lib.hid vk.box
  clear vk hwN hl hrq
  generalize hLg : subL M (rt f) = L at *
  clear hLg
  generalize hCg : fCompact f = C at *
  clear hCg
  have HPM : Hid (∀ W ca cc sa sc, RN W ca C → RU W sa L → ∀ a x y : Nat, x < 64 → y < 64 → Calls Tryz.prog 73 #[.slice ca C.length cc, .slice sa L.length sc, .int .i64 (a : Int), .int .i64 (x : Int), .int .i64 (y : Int), .bool keep] W fun e w' => e = .returned (.bool (permL L C keep a x y)) ∧ Ext W w') := Lib.hid fun W ca cc sa sc h1 h2 a x y hx hy => permitted_any L C ca sa cc sc W h1 h2 HSM.out HBX.out a x y hx hy keep
  go_enter Tryz.func40, Tryz.ntmps40
  go_wp2_with fail
  generalize (w.alloc (.cells #[.int .i64 M.worlds, .slice va M.val.length vc, .slice ra M.rel.length rc] 25)).alloc (.cells #[.int .i64 0, .slice none 0 0, .slice none 0 0] 25) = wb at *
  refine (HBA.out _ HM.out HF.out).mono ?_
  rintro _ w1 ⟨v1, vc1, la1, lc1, ca1, cc1, rfl, hk1b, hE1⟩
  clear m0 m1 m2
  have HK1 := Lib.hid hk1b
  have HE1 := Lib.hid hE1
  have hvl : (filV M (fFacts f) (repL L N)).length = M.val.length := by simp [filV]
  rw [hvl, cls_ln]
  generalize hV : filV M (fFacts f) (repL L N) = V at *
  have HVe : Hid ((filM M (fFacts f) (repL L N) (permL L C keep)).val = V) := Lib.hid hV
  have HVl := Lib.hid hvl
  have hri := (hk1b w1 (fun _ _ _ => rfl)).2
  have HRL := Lib.hid hri.2
  have hrep : (repL L N).length ≤ N := repL_len L N
  have HRP : Hid (∀ i, i < (repL L N).length → nth (repL L N) i < 64) := Lib.hid fun i hi => by have := rep_lt hi; omega
  have hRl : (filM M (fFacts f) (repL L N) (permL L C keep)).rel.length = M.rel.length := by simp [filM, filR]
  generalize hRows : (filM M (fFacts f) (repL L N) (permL L C keep)).rel = Rows at *
  have HRw : Hid (∀ a, a < M.rel.length → nth Rows a = (repL L N).map fun x => setTo (fun d => permL L C keep a x (nth (repL L N) d)) (repL L N).length) := Lib.hid fun a ha => by rw [← hRows]; exact nth_mapX _ ha
  have HRln : Hid (∀ a, a < M.rel.length → (nth Rows a).length = (repL L N).length) := Lib.hid fun a ha => by rw [HRw.out a ha, List.length_map]
  have HRow : Hid (∀ a, a < M.rel.length → nth Rows a = nth Rows a) := Lib.hid fun a ha => rfl
  have HRe := Lib.hid hRows
  clear hV hvl hri hk1b hE1 hRows
  have hN0 : w.heap.size + 2 ≤ wb.heap.size := by rw [← HSZ.out]; exact Nat.le_refl _
  have HN0 := Lib.hid hN0
  have HN1 := Lib.hid HE1.out.size
  have HEW1 := Lib.hid (HE.out.trans HE1.out)
  have HB1 := Lib.hid (HB.out.ext HE1.out)
  have HM1 := Lib.hid (HM.out.ext HE1.out)
  have HF1 := Lib.hid (HF.out.ext HE1.out)
  have HR1 := Lib.hid (HR.out.ext HE1.out)
  have HA0 := Lib.hid (ARq.start (wr := w1) (vv := .slice v1 M.val.length vc1) (len := (repL L N).length) rfl)
  have HBN := Lib.hid (heap_newX w1 (.cells #[.int .i64 ((repL L N).length : Int), .slice v1 M.val.length vc1, .slice none 0 0] 25))
  have HEW := Lib.hid ((Ext.refl w1).alloc (.cells #[.int .i64 ((repL L N).length : Int), .slice v1 M.val.length vc1, .slice none 0 0] 25))
  clear hN0
  generalize repL L N = reps at *
  dsimp only
  go_wp2_with fail
  generalize w1.alloc (.cells #[.int .i64 (reps.length : Int), .slice v1 M.val.length vc1, .slice none 0 0] 25) = W0 at *
  have HX : Hid (∀ w', Below w1.heap.size W0 w' → Ext w1 w') := Lib.hid fun w' e => Below.trans HEW.out e
  have HRz : Hid (∀ w', Ext w1 w' → OutAt w' (w.heap.size + 1) (.int .i64 0) (.slice none 0 0) (.slice none 0 0)) := Lib.hid fun w' e => HR1.out.ext e
  refine (HCO.out _ (HF1.out.ext HEW.out)).mono ?_
  rintro _ w2 ⟨ca, cc, rfl, hcn, hE2⟩
  have HCN := Lib.hid hcn
  have HE2 := Lib.hid hE2
  obtain ⟨p0, p1, p2⟩ := HB1.out.ext (HEW.out.trans hE2)
  clear hcn hE2
  dsimp only at p0 p1 p2 ⊢
  go_wp2_with fail
  refine (HSE.out _ ca cc (HM1.out.ext (HEW.out.trans HE2.out)) HCN.out).mono ?_
  rintro _ w3 ⟨sa, sc, rfl, hsu, hE3⟩
  rw [HSS.out] at hsu
  rw [HSS.out, HRE.out]
  clear p0 p1 p2
  have HSU := Lib.hid hsu
  have HE3 := Lib.hid (HE2.out.trans hE3)
  have HCN3 := Lib.hid (HCN.out.ext hE3)
  have HA3 := Lib.hid (HA0.out.ext' HE3.out)
  have HEX3 := Lib.hid (HEW.out.trans HE3.out)
  clear hsu hE3
  dsimp only
  go_wp2_with fail
  have hbx3 : w3.heap[w1.heap.size]? = some (.cells #[.int .i64 (reps.length : Int), .slice v1 M.val.length vc1, .slice none 0 0] 25 (0, 0)) := by
    rw [HE3.out.block _ HA0.out.lo]; exact HBN.out
  have HBN3 := Lib.hid hbx3
  clear hbx3
  go_loopw [14] (fun i wr => ∃ a : Nat, a ≤ M.rel.length ∧ i = .int .i64 (a : Int) ∧ Hid (LaE w3 W0 w1.heap.size reps.length (.slice v1 M.val.length vc1) Rows a wr)) (fun i _ => M.rel.length - (RowKit.intOf i).toNat)
  case atStart => exact ⟨0, Nat.zero_le _, rfl, Lib.hid ⟨_, _, HA3.out, KeepB.refl _ _, fun b hb => by cases hb⟩⟩
  case round =>
    rename World => wa
    obtain ⟨a, ha, rfl, HAE⟩ := hrel
    obtain ⟨svs, vr, hAR, hKB, hVB⟩ := HAE.out
    have HAR := Lib.hid hAR
    have HKB := Lib.hid hKB
    have HVB := Lib.hid hVB
    clear HAE hAR hKB hVB
    obtain ⟨d0, d1, d2⟩ := HB1.out.ext (HX.out _ HAR.out.e)
    dsimp only at d0 d1 d2
    have dlt := World.block_lt_of_cell? _ _ d2
    dsimp only at dlt
    by_cases hal : a < M.rel.length
    · go_wp2_with fail
      clear d0 d1 d2 dlt
      have hRa := HRw.out a hal
      have HRL1 : Hid (RI wa la1 (natI reps)) := Lib.hid (HRL.out.ext (HX.out _ HAR.out.e))
      have HCNa := Lib.hid (HKB.out.rn HBN3.out HCN3.out)
      have HSUa := Lib.hid (HKB.out.ru HBN3.out HSU.out)
      have hrl0 := HRln.out a hal
      generalize hrow : nth Rows a = row at *
      have HRW := Lib.hid hRa
      have HRX := Lib.hid hrow
      clear hRa hrow
      go_loopw [15, 16] (fun v i wz => ∃ c : Nat, c ≤ reps.length ∧ i = .int .i64 (c : Int) ∧ Hid (GLE wa row c v wz)) (fun _ i _ => reps.length - (RowKit.intOf i).toNat)
      case atStart => exact ⟨0, Nat.zero_le _, rfl, Lib.hid ⟨Ext.refl _, World.ownsRow_nil _ _ _ _⟩⟩
      case round =>
        rename World => wz
        obtain ⟨c, hc, rfl, HG⟩ := hrel
        by_cases hcl : c < reps.length
        · go_wp2_with fail
          obtain ⟨P, hP⟩ : ∃ P : Nat → Bool, P = fun d => permL L C keep a (nth reps c) (nth reps d) := ⟨_, rfl⟩
          have HPJ : Hid (∀ d, P d = permL L C keep a (nth reps c) (nth reps d)) := Lib.hid fun d => by rw [hP]
          have HPR : Hid (nth row c = setTo P reps.length) := Lib.hid (by rw [HRW.out, nth_mapN _ _ hcl, hP])
          clear hP
          go_loopw [17, 18] (fun t i wy => ∃ d : Nat, d ≤ reps.length ∧ i = .int .i64 (d : Int) ∧ t = .int .u64 (un (setTo P d)) ∧ Hid (Ext wz wy)) (fun _ i _ => reps.length - (RowKit.intOf i).toNat)
          case atStart => exact ⟨0, Nat.zero_le _, rfl, rfl, Lib.hid (Ext.refl _)⟩
          case round =>
            rename World => wy
            obtain ⟨d, hd, rfl, rfl, HEY⟩ := hrel
            by_cases hdl : d < reps.length
            · have HEYa := Lib.hid (HG.out.e.trans HEY.out)
              obtain ⟨b1, o1, hla, hb1, hc1⟩ := (HRL1.out.ext HEYa.out).get (k := c) (by rw [natI_ln]; exact hcl)
              obtain ⟨b2, o2, hla2, hb2, hc2⟩ := (HRL1.out.ext HEYa.out).get (k := d) (by rw [natI_ln]; exact hdl)
              rw [hla] at hla2
              simp only [Option.some.injEq, Addr.mk.injEq] at hla2
              obtain ⟨rfl, rfl, -⟩ := hla2
              subst hla
              rw [nth_natI hcl] at hc1
              rw [nth_natI hdl] at hc2
              have hd64 : d < 64 := by omega
              have HST : Hid (setTo P (d + 1) = if P d = true then setTo P d ||| 1#64 <<< d else setTo P d) := Lib.hid rfl
              have HPd := Lib.hid (HPJ.out d)
              have HOPX := Lib.hid (or_powX (setTo P d) hd64)
              have HKP : Hid (∀ w', Ext wy.drew w' → w'.cell? ⟨b1, o1 + c, none⟩ = some (.int .i64 ((nth reps c : Nat) : Int)) ∧ w'.cell? ⟨b1, o1 + d, none⟩ = some (.int .i64 ((nth reps d : Nat) : Int))) := Lib.hid fun w' e => ⟨e.cell hc1, e.cell hc2⟩
              have HPC := Lib.hid (HPM.out _ ca cc sa sc ((HCNa.out.ext HEYa.out).ext (Ext.refl _).drew) ((HSUa.out.ext HEYa.out).ext (Ext.refl _).drew) a (nth reps c) (nth reps d) (HRP.out c hcl) (HRP.out d hdl))
              generalize setTo P d = X at *
              go_wp2_with fail
              go_region_held3 (fun w' => w'.cell? ⟨b1, o1 + c, none⟩ = some (.int .i64 ((nth reps c : Nat) : Int)) ∧ w'.cell? ⟨b1, o1 + d, none⟩ = some (.int .i64 ((nth reps d : Nat) : Int))) (first | go_keep | exact HKP.out _ (by assumption)) (first | (go_at_call 73; refine HPC.out.mono ?_; rintro _ w5 ⟨rfl, hE5⟩) | fail)
              all_goals
                have HE5 := Lib.hid (HEY.out.trans ((Ext.refl _).drew.trans hE5))
                clear hE5
                rw [← HPd.out]
                cases hpd : P d
                all_goals
                  have HPX := Lib.hid hpd
                  clear hpd
                  go_wp2_with fail
                  go_roundw
                  case rel => exact ⟨d + 1, hdl, by go_num, by rw [HST.out, HPX.out]; first | rfl | (rw [← HOPX.out]; rfl), HE5⟩
                  case measure => simp [RowKit.intOf]; omega
            · obtain rfl : d = reps.length := by omega
              rw [← HPR.out]
              have hone : row.take (c + 1) = row.take c ++ [nth row c] := by
                rw [nth_eq _ _ (by omega), List.take_add_one, List.getElem?_eq_getElem (by omega)]; rfl
              have HONE1 := Lib.hid hone
              have htk : (row.take c).length = c := by rw [List.length_take]; omega
              have HG2 : Hid (∀ o, GL wa 39 uv (row.take c) u15 (wy.alloc o)) := Lib.hid fun o => (GL.ext' HG.out HEY.out).ext' ((Ext.refl wy).alloc o)
              have hszy : wa.heap.size ≤ wy.heap.size := (HG.out.e.trans HEY.out).size
              clear hone
              generalize nth row c = X at *
              have HONE : Hid (∀ u ∈ [Value.int .u64 (un X)], u.oneCell' = true) := fun u hu => by
                rcases List.mem_singleton.1 hu with rfl
                rfl
              go_wp2_with (at_builtin; refine wpList_append_lies _ rfl _ _ 22 rfl wa.heap.size 39 i0 _ 1 8 Tryz.underlying22 hi1 hz0 hz1 hz2 rfl (by decide) u15 (row.take c).length _ rfl (HG2.out _).own ⟨wy.heap.size, 0, none⟩ 1 1 [.int .u64 (un X)] rfl rfl (cell_one_new _ _ _) HONE.out (by decide) (by unfold maxLen; omega) (by omega) (by simp; omega) (wy.heap.size + 1) (by simp) ?_; intro gx cap W1 hown hgrow hat hlt2; have hpush := (HG2.out _).push (x := X) hown hgrow; have HPU := Lib.hid hpush; clear hpush hown hgrow hat)
              go_roundw
              case rel => exact ⟨c + 1, hcl, by go_num, Lib.hid (by unfold GLE; rw [HONE1.out]; rw [htk] at HPU; exact HPU.out)⟩
              case measure => simp [RowKit.intOf]; omega
        · obtain rfl : c = reps.length := by omega
          have htk : row.take reps.length = row := List.take_of_length_le (by omega)
          have hG : GL wa 39 uv row u15 wz := by have h := HG.out; unfold GLE at h; rw [htk] at h; exact h
          obtain ⟨ar, cr, hvr, -⟩ := RU_of_OU (show OU wz wa.heap.size u15 row from hG.own) (by omega)
          subst hvr
          have hOU : OU wz wa.heap.size (.slice ar reps.length cr) row := by have h := hG.own; rw [hrl0] at h; unfold OU; rw [hrl0]; exact h
          rw [hrl0]
          have HAP := Lib.hid (HAR.out.apart hOU)
          have HA3b := Lib.hid (HAR.out.ext' hG.e)
          obtain ⟨o0, o1, o2, ofz⟩ := HA3b.out.out
          have hsz3 := HA3b.out.out.lt
          have hsz2 := HAR.out.out.lt
          have hfz := ofz 2
          have hrl2 : svs.length = a := by rw [HA3b.out.rl, List.length_take]; omega
          have HPA : Hid (∀ o, ARq W0 w1.heap.size reps.length (.slice v1 M.val.length vc1) svs (Rows.take a) vr (wz.alloc o)) := Lib.hid fun o => HA3b.out.ext' ((Ext.refl wz).alloc o)
          have HKA : Hid (∀ o, KeepB w1.heap.size w3 (wz.alloc o)) := Lib.hid fun o => HKB.out.ext (hG.e.alloc o)
          have hsw : w3.heap.size ≤ wz.heap.size := (HKB.out.ext hG.e).size
          have hrow3 : OU wz (w1.heap.size + 1) (.slice ar reps.length cr) row := OU.mono (b' := w1.heap.size + 1) hOU (by omega)
          have HR3 : Hid (∀ o, OU (wz.alloc o) (w1.heap.size + 1) (.slice ar reps.length cr) row) := Lib.hid fun o => hrow3.ext ((Ext.refl wz).alloc o)
          have HONE : Hid (∀ u ∈ [Value.slice ar reps.length cr], u.oneCell' = true) := fun u hu => by
            rcases List.mem_singleton.1 hu with rfl
            rfl
          have hone : Rows.take (a + 1) = Rows.take a ++ [row] := by
            rw [← HRX.out, nth_eq _ _ (by omega), List.take_add_one, List.getElem?_eq_getElem (by omega)]; rfl
          have HONE1 := Lib.hid hone
          clear hrow3 hone hOU ofz hG
          go_wp2_with (at_builtin; refine wpList_append_lies _ rfl _ _ 23 rfl (w1.heap.size + 1) 22 i3 _ 1 24 Tryz.underlying23 hk1 hx0 hx1 hx2 rfl (by decide) vr svs.length svs rfl (HPA.out _).orr ⟨wz.heap.size, 0, none⟩ 1 1 [.slice ar reps.length cr] rfl rfl (cell_one_new _ _ _) HONE.out (by decide) (by unfold maxLen; omega) (by omega) (by simp; omega) (wz.heap.size + 1) (by simp) ?_; intro gx cap W1 hown hgrow hat hlt2; obtain ⟨p0, p1, p2, pfz⟩ := (HPA.out _).outR hgrow; have pf := pfz 2; clear pfz; have hnew := (HPA.out _).push (HR3.out _) HAP.out hown hgrow; have HNEW := Lib.hid hnew; have HKN := Lib.hid (KeepB.put (j := 2) (v := .slice (some ⟨gx, 0, none⟩) (svs.length + 1) cap) (HKA.out _) hgrow HVB.out); have HGX : Hid (w3.heap.size ≤ gx) := Lib.hid (by rcases hat with h | h; exact HVB.out _ h; omega); clear hnew hown hgrow hat)
          rw [hrl2] at HNEW HKN
          have HGB : Hid (∀ b, (Value.slice (some ⟨gx, 0, none⟩) (a + 1) cap).ownBlock = some b → w3.heap.size ≤ b) := Lib.hid fun b hb => by
            have e : gx = b := by simpa [Value.ownBlock] using hb
            rw [← e]
            exact HGX.out
          go_roundw
          case rel => exact ⟨a + 1, hal, by go_num, Lib.hid ⟨_, _, by rw [HONE1.out]; exact HNEW.out, HKN.out, HGB.out⟩⟩
          case measure => simp [RowKit.intOf]; omega
    · obtain rfl : a = M.rel.length := by omega
      have hfull2 : Rows.take M.rel.length = Rows := List.take_of_length_le (by omega)
      rw [hfull2] at HAR
      have hsl : svs.length = M.rel.length := by rw [HAR.out.rl]; exact hRl
      clear hfull2
      obtain ⟨r1, rc1, rfl⟩ : ∃ a c, vr = .slice a M.rel.length c := by
        rcases HAR.out.orr.2 with ⟨rfl, h0⟩ | ⟨g, cap, cur, rfl, _⟩
        · exact ⟨none, 0, by rw [← hsl, h0]⟩
        · exact ⟨some ⟨g, 0, none⟩, cap, by rw [hsl]⟩
      obtain ⟨o0, o1, o2, ofz⟩ := HAR.out.out
      have hol := HAR.out.out.lt
      have HH := Lib.hid (HRz.out _ (HX.out _ HAR.out.e))
      obtain ⟨r0, rr1, rr2, rfz⟩ := HH.out
      have f0 := rfz 0
      have f1 := rfz 1
      have f2 := rfz 2
      have hrl9 := HH.out.lt
      clear ofz rfz
      go_wp2_with fail
      have hn0 := HN0.out
      have hn1 := HN1.out
      have hk2 : ∀ {B T sz m : Nat} {v : Value} {xs : List Value}, w.heap.size + 2 ≤ B → wa.ownsRow B T sz v m xs → (((wa.setCell ⟨w.heap.size + 1, 0, none⟩ (.int .i64 (reps.length : Int))).setCell ⟨w.heap.size + 1, 1, none⟩ (.slice v1 M.val.length vc1)).setCell ⟨w.heap.size + 1, 2, none⟩ (.slice r1 M.rel.length rc1)).ownsRow B T sz v m xs := by
        intro B T sz m v xs hB ho
        exact setOther (setOther (setOther ho (by omega)) (by omega)) (by omega)
      have hA1 : Agree wb.heap.size w1 (((wa.setCell ⟨w.heap.size + 1, 0, none⟩ (.int .i64 (reps.length : Int))).setCell ⟨w.heap.size + 1, 1, none⟩ (.slice v1 M.val.length vc1)).setCell ⟨w.heap.size + 1, 2, none⟩ (.slice r1 M.rel.length rc1)) := fun k hk1 hk2 => by
        rw [heap_setCell_other _ ⟨_, 2, none⟩ k _ (by simp; omega), heap_setCell_other _ ⟨_, 1, none⟩ k _ (by simp; omega), heap_setCell_other _ ⟨_, 0, none⟩ k _ (by simp; omega)]
        exact (HX.out _ HAR.out.e).block k hk2
      have hl3 := hk2 (B := w1.heap.size + 1) (by omega) HAR.out.orr
      have hl4 := fun j hj => hk2 (B := w1.heap.size + 1) (by omega) (HAR.out.rw j hj)
      obtain ⟨d0, d1, d2, -⟩ := ((HH.out.set0 (.int .i64 (reps.length : Int))).set1 (.slice v1 M.val.length vc1)).set2 (.slice r1 M.rel.length rc1)
      have hEx : Ext w (((wa.setCell ⟨w.heap.size + 1, 0, none⟩ (.int .i64 (reps.length : Int))).setCell ⟨w.heap.size + 1, 1, none⟩ (.slice v1 M.val.length vc1)).setCell ⟨w.heap.size + 1, 2, none⟩ (.slice r1 M.rel.length rc1)) := (((HEW1.out.trans (HX.out _ HAR.out.e)).setCell (by simp) _).setCell (by simp) _).setCell (by simp) _
      have hsz1 : w1.heap.size ≤ wa.heap.size := (HX.out _ HAR.out.e).size
      have hszW : (((wa.setCell ⟨w.heap.size + 1, 0, none⟩ (.int .i64 (reps.length : Int))).setCell ⟨w.heap.size + 1, 1, none⟩ (.slice v1 M.val.length vc1)).setCell ⟨w.heap.size + 1, 2, none⟩ (.slice r1 M.rel.length rc1)).heap.size = wa.heap.size := by simp
      generalize ((wa.setCell ⟨w.heap.size + 1, 0, none⟩ (.int .i64 (reps.length : Int))).setCell ⟨w.heap.size + 1, 1, none⟩ (.slice v1 M.val.length vc1)).setCell ⟨w.heap.size + 1, 2, none⟩ (.slice r1 M.rel.length rc1) = W2 at *
      refine bodyPost_ret (v := .tuple #[.agg #[.int .i64 (reps.length : Int), .slice v1 M.val.length vc1, .slice r1 M.rel.length rc1], .slice ca1 N cc1, .int .i64 0]) ?_ rfl ?_
      · rw [results_cell_two rfl]
        go_simp
      · have e1 : (filM M (fFacts f) reps (permL L C keep)).val = V := HVe.out
        have e2 : (filM M (fFacts f) reps (permL L C keep)).rel = Rows := HRe.out
        have e3 : (filM M (fFacts f) reps (permL L C keep)).worlds = (reps.length : Int) := rfl
        have hvl : V.length = M.val.length := HVl.out
        have hF : FrM w.heap.size W2 v1 r1 vc1 rc1 (filM M (fFacts f) reps (permL L C keep)) svs := by
          refine ⟨?_, ?_, ?_, ?_, HAR.out.dj, ?_, ?_⟩
          · rw [e1]; exact OU.mono (b' := w.heap.size) (HK1.out W2 hA1).1 (by omega)
          · rw [e2, hRl]; exact own_mono hl3 (by omega)
          · rw [e2]; exact HAR.out.rl
          · rw [e2]; exact fun j hj => OU.mono (b' := w.heap.size) (show OU W2 (w1.heap.size + 1) _ _ from hl4 j hj) (by omega)
          · rw [e1, hvl]
            intro j hj
            have hlo := HK1.out w1 (fun _ _ _ => rfl)
            rw [hvl] at hlo
            exact Apart.later (hl4 j (by rw [← HAR.out.rl]; exact hj)) fun b hb => by have := (hlo.1.lt b hb).2; omega
          · rw [e1, e2]; exact ⟨by omega, by omega, fun j hj => by rw [HRln.out j (by omega)]; omega⟩
        rw [HA.out, HC.out]
        refine ⟨v1, r1, ca1, vc1, rc1, cc1, ?_, fun w'' hag => ⟨(hF.agree hag).rm, ?_⟩, hEx⟩
        · rw [e1, e2, hvl, hRl, natI_ln, cls_ln]
          rfl
        · refine (HK1.out w'' fun k hk1 hk2 => ?_).2.1
          rw [hag k (by omega) (by omega)]
          exact hA1 k hk1 hk2
end Wt

/- Walk: wittingref23.Largest (printed by gen_frd.py). -/
namespace Wt
open Go Go.RowKit Go.Maps Go.Proofs Fm

theorem agree_end3 {B B' b : Nat} {w4 w'' : World} {x y z : Value} (hb : b < B') (hB : B ≤ B') (h : Agree B (((w4.setCell ⟨b, 0, none⟩ x).setCell ⟨b, 1, none⟩ y).setCell ⟨b, 2, none⟩ z) w'') : Agree B' w4 w'' := fun k hk hl => by
  rw [h k (by omega) (by simp; omega), heap_setCell_other _ ⟨b, 2, none⟩ k _ (by simp; omega), heap_setCell_other _ ⟨b, 1, none⟩ k _ (by simp; omega), heap_setCell_other _ ⟨b, 0, none⟩ k _ (by simp; omega)]
set_option maxRecDepth 20000 in
set_option maxHeartbeats 16000000 in
theorem r23Largest_any (M : Mo) (va ra : Option Addr) (vc rc : Nat) (fa : Option Addr) (fc : Nat) (f : List Nd) (w : World) (hm : RM w va ra M) (hf : RN w fa f) :
    Calls Tryz.prog 16 #[.agg #[.int .i64 M.worlds, .slice va M.val.length vc, .slice ra M.rel.length rc], .slice fa f.length fc] w fun e w' => RetR (filLa M f false) (natI (filN M f)) (lookErr M f) e w w' := by
  have hE0 := ((Ext.refl w).alloc (.cells #[.int .i64 M.worlds, .slice va M.val.length vc, .slice ra M.rel.length rc] 25)).alloc (.cells #[.int .i64 0, .slice none 0 0, .slice none 0 0] 25)
  have hbx := (MoBox.new w M.worlds M.val M.rel va vc ra rc 25).ext ((Ext.refl _).alloc (.cells #[.int .i64 0, .slice none 0 0, .slice none 0 0] 25))
  have hr0 := OutAt.new1 w (.cells #[.int .i64 M.worlds, .slice va M.val.length vc, .slice ra M.rel.length rc] 25) (.int .i64 0) (.slice none 0 0) (.slice none 0 0) 25
  have HE := Lib.hid hE0
  have HM := Lib.hid (hm.ext hE0)
  have HF := Lib.hid (hf.ext hE0)
  have HB := Lib.hid hbx
  have HR := Lib.hid hr0
  have hs0 : ((w.alloc (.cells #[.int .i64 M.worlds, .slice va M.val.length vc, .slice ra M.rel.length rc] 25)).alloc (.cells #[.int .i64 0, .slice none 0 0, .slice none 0 0] 25)).heap.size = w.heap.size + 2 := by simp
  have HSZ := Lib.hid hs0
  obtain ⟨m0, m1, m2⟩ := hbx
  dsimp only at m0 m1 m2
  clear hE0 hf hm hr0 hs0
  have HRQ : Hid (∀ W, RM W va ra M → RN W fa f → Calls Tryz.prog 30 #[.agg #[.int .i64 M.worlds, .slice va M.val.length vc, .slice ra M.rel.length rc], .slice fa f.length fc] W fun e w' => e = .returned (.int .i64 (lookErr M f)) ∧ Ext W w') := Lib.hid fun W h1 h2 => r23request_any M va ra vc rc fa fc f W h1 h2
  by_cases hl : lookErr M f = 0
  · have HL := Lib.hid hl
    have HLA : Hid (∀ W, RM W va ra M → RN W fa f → Calls Tryz.prog 40 #[.agg #[.int .i64 M.worlds, .slice va M.val.length vc, .slice ra M.rel.length rc], .slice fa f.length fc, .bool false] W fun e w' => RetR (filLa M f false) (natI (filN M f)) 0 e W w') := Lib.hid fun W h1 h2 => r23largest_any M va ra vc rc fa fc f false W h1 h2 HL.out
    clear hl
    rw [HL.out]
    go_enter Tryz.func16, Tryz.ntmps16
    go_wp2_with fail
    generalize (w.alloc (.cells #[.int .i64 M.worlds, .slice va M.val.length vc, .slice ra M.rel.length rc] 25)).alloc (.cells #[.int .i64 0, .slice none 0 0, .slice none 0 0] 25) = w0 at *
    refine (HRQ.out _ HM.out HF.out).mono ?_
    rintro _ wb ⟨rfl, hEb⟩
    rw [HL.out]
    have HEP := Lib.hid hEb
    obtain ⟨p0, p1, p2⟩ := HB.out.ext hEb
    clear m0 m1 m2 hEb
    dsimp only at p0 p1 p2 ⊢
    go_wp2_with fail
    refine (HLA.out _ (HM.out.ext HEP.out) (HF.out.ext HEP.out)).mono ?_
    rintro _ w4 ⟨v4, r4, l4, c4, d4, e4, rfl, hk4, hE4⟩
    rw [natI_ln]
    clear p0 p1 p2
    have hwb : w.heap.size + 1 < wb.heap.size := by have := HEP.out.size; have := HSZ.out; omega
    have HH := Lib.hid (HR.out.ext (HEP.out.trans hE4))
    have HK4 := Lib.hid hk4
    have HE4 := Lib.hid ((HE.out.trans HEP.out).trans hE4)
    have HWB := Lib.hid hwb
    clear hk4 hE4 hwb
    generalize hqm : filLa M f false = QM at *
    generalize hql : filN M f = QL at *
    have HQM := Lib.hid hqm
    have HQL := Lib.hid hql
    clear hqm hql
    obtain ⟨r0, rr1, rr2, rfz⟩ := HH.out
    have f0 := rfz 0
    have f1 := rfz 1
    have f2 := rfz 2
    have hrl9 := HH.out.lt
    clear rfz
    dsimp only
    go_wp2_with fail
    obtain ⟨d0, d1, d2, -⟩ := ((HH.out.set0 (.int .i64 QM.worlds)).set1 (.slice v4 QM.val.length c4)).set2 (.slice r4 QM.rel.length d4)
    have hEx : Ext w (((w4.setCell ⟨w.heap.size + 1, 0, none⟩ (.int .i64 QM.worlds)).setCell ⟨w.heap.size + 1, 1, none⟩ (.slice v4 QM.val.length c4)).setCell ⟨w.heap.size + 1, 2, none⟩ (.slice r4 QM.rel.length d4)) := ((HE4.out.setCell (by simp) _).setCell (by simp) _).setCell (by simp) _
    have hkF : ∀ w'', Agree w.heap.size (((w4.setCell ⟨w.heap.size + 1, 0, none⟩ (.int .i64 QM.worlds)).setCell ⟨w.heap.size + 1, 1, none⟩ (.slice v4 QM.val.length c4)).setCell ⟨w.heap.size + 1, 2, none⟩ (.slice r4 QM.rel.length d4)) w'' → RM w'' v4 r4 QM ∧ RI w'' l4 (natI QL) := fun w'' hg => HK4.out w'' (agree_end3 HWB.out (by have := HWB.out; omega) hg)
    generalize ((w4.setCell ⟨w.heap.size + 1, 0, none⟩ (.int .i64 QM.worlds)).setCell ⟨w.heap.size + 1, 1, none⟩ (.slice v4 QM.val.length c4)).setCell ⟨w.heap.size + 1, 2, none⟩ (.slice r4 QM.rel.length d4) = W2 at *
    refine bodyPost_ret (v := .tuple #[.agg #[.int .i64 QM.worlds, .slice v4 QM.val.length c4, .slice r4 QM.rel.length d4], .slice l4 QL.length e4, .int .i64 0]) ?_ rfl ?_
    · rw [results_cell_two rfl]
      go_simp
    · rw [HQM.out, HQL.out]
      exact ⟨v4, r4, l4, c4, d4, e4, by rw [natI_ln], hkF, hEx⟩
  · have HC : Hid (filN M f = []) := Lib.hid (if_neg hl)
    have HA : Hid (filLa M f false = ⟨0, [], []⟩) := Lib.hid (if_neg hl)
    have hq : (lookErr M f != 0) = true := by simpa using hl
    clear hl
    generalize hle : lookErr M f = er at *
    clear hle
    go_enter Tryz.func16, Tryz.ntmps16
    go_wp2_with fail
    generalize (w.alloc (.cells #[.int .i64 M.worlds, .slice va M.val.length vc, .slice ra M.rel.length rc] 25)).alloc (.cells #[.int .i64 0, .slice none 0 0, .slice none 0 0] 25) = w0 at *
    refine (HRQ.out _ HM.out HF.out).mono ?_
    rintro _ w1 ⟨rfl, hE1⟩
    have HH := Lib.hid (HR.out.ext hE1)
    have HE1 := Lib.hid (HE.out.trans hE1)
    clear hE1 m0 m1 m2
    obtain ⟨r0, rr1, rr2, rfz⟩ := HH.out
    have f0 := rfz 0
    have f1 := rfz 1
    have f2 := rfz 2
    have hrl9 := HH.out.lt
    clear rfz
    dsimp only
    go_wp2_with fail
    obtain ⟨d0, d1, d2, -⟩ := ((HH.out.set0 (.int .i64 0)).set1 (.slice none 0 0)).set2 (.slice none 0 0)
    have hEx : Ext w ((((w1.setCell ⟨w.heap.size + 1, 0, none⟩ (.int .i64 0)).setCell ⟨w.heap.size + 1, 1, none⟩ (.slice none 0 0)).setCell ⟨w.heap.size + 1, 2, none⟩ (.slice none 0 0))) := (((HE1.out.setCell (by simp) _).setCell (by simp) _).setCell (by simp) _)
    generalize (((w1.setCell ⟨w.heap.size + 1, 0, none⟩ (.int .i64 0)).setCell ⟨w.heap.size + 1, 1, none⟩ (.slice none 0 0)).setCell ⟨w.heap.size + 1, 2, none⟩ (.slice none 0 0)) = W2 at *
    refine bodyPost_ret (v := .tuple #[.agg #[.int .i64 0, .slice none 0 0, .slice none 0 0], .slice none 0 0, .int .i64 er]) ?_ rfl ?_
    · rw [results_cell_two rfl]
      go_simp
    · rw [HA.out, HC.out]
      exact ⟨none, none, none, 0, 0, 0, rfl, fun w'' _ => ⟨⟨RU.nil _ _, RR.nil _ _⟩, RI.nil _ _⟩, hEx⟩
end Wt

/- Walks: wittingref02.All, Check, Valid, Same, grow, Transitive, Has at transitivity. -/
namespace Wt
open Go Go.RowKit Go.Maps Go.Proofs Fm

theorem r2All_any (n : Nat) (w : World) :
    Calls Tryz.prog 147 #[.int .i64 (n : Int)] w fun e w' => e = .returned (.int .u64 (un (allW n))) ∧ w = w' := by
  by_cases h : 64 ≤ n
  · go_enter Tryz.func147, Tryz.ntmps147
    go_wp2
    go_ret
    exact ⟨by simp [allW, h, un_max], rfl⟩
  · go_enter Tryz.func147, Tryz.ntmps147
    go_wp2
    go_ret
    exact ⟨by simp [allW, h], rfl⟩
set_option maxRecDepth 20000 in
set_option maxHeartbeats 2000000 in
theorem r2Check_any (r : List (BitVec 64)) (a : Option Addr) (c : Nat) (w : World) (hr : RU w a r) (hck : relCheck r = 0) :
    Calls Tryz.prog 114 #[.int .i64 (r.length : Int), .slice a r.length c] w fun e w' => e = .returned (.int .i64 0) ∧ Ext w w' := by
  obtain ⟨h64, hin⟩ := relCheck_ok hck
  have HR := Lib.hid hr
  have HIN := Lib.hid hin
  clear hr hin hck
  have d1 : decide ((r.length : Int) < 0) = false := decide_eq_false (by omega)
  have d2 : decide ((64 : Int) < (r.length : Int)) = false := decide_eq_false (by omega)
  have hne : ((r.length : Int) != (r.length : Int)) = false := by simp
  go_enter Tryz.func114, Tryz.ntmps114
  go_wp2_with fail
  go_loopw [5] (fun i wr => ∃ k : Nat, k ≤ r.length ∧ i = .int .i64 (k : Int) ∧ Hid (Ext w wr)) (fun i _ => r.length - (RowKit.intOf i).toNat)
  case atStart => exact ⟨0, Nat.zero_le _, rfl, Lib.hid (Ext.refl _)⟩
  case round =>
    obtain ⟨k, hk, rfl, HX⟩ := hrel
    by_cases hkl : k < r.length
    · obtain ⟨g, q, rfl, hg, hc⟩ := (HR.out.ext HX.out).get hkl
      have hz : (un (nth r k &&& ~~~ allW r.length) != 0) = false := by
        rw [andNot_zero.2 (HIN.out k hkl), un_zero]; rfl
      go_wp2_with fail
      go_quiet ((go_at_call 147; exact Calls.quiet_of_same ((r2All_any _ _).mono fun _ _ h => ⟨h.1, h.2.symm⟩)))
      go_wp2_with fail
      go_roundw
      case rel => exact ⟨k + 1, hkl, by go_num, Lib.hid (HX.out.drewN _)⟩
      case measure => simp [RowKit.intOf]; omega
    · go_wp2_with fail
      go_ret
      exact ⟨rfl, HX.out⟩
theorem r2Valid_any (r : List (BitVec 64)) (a : Option Addr) (c : Nat) (w : World) (hr : RU w a r) (hck : relCheck r = 0) :
    Calls Tryz.prog 81 #[.slice a r.length c] w fun e w' => e = .returned (.bool true) ∧ Ext w w' := by
  have H := Lib.hid (r2Check_any r a c w hr hck)
  clear hr hck
  go_enter Tryz.func81, Tryz.ntmps81
  go_wp2_with (go_at_call 114; refine H.out.mono ?_; rintro _ w1 ⟨rfl, hE⟩)
  go_ret
  exact ⟨rfl, hE⟩
set_option maxRecDepth 20000 in
set_option maxHeartbeats 1000000 in
theorem r2SameL_any (l m : List (BitVec 64)) (a b : Option Addr) (c d : Nat) (w : World) (hlm : l.length = m.length) (h1 : RU w a l) (h2 : RU w b m) :
    Calls Tryz.prog 20 #[.slice a l.length c, .slice b m.length d] w fun e w' => e = .returned (.bool (decide (l = m))) ∧ Ext w w' := by
  have H1 := Lib.hid h1
  have H2 := Lib.hid h2
  have hl := h1.len
  rw [← hlm]
  have HLM := Lib.hid hlm
  clear h1 h2 hlm
  go_enter Tryz.func20, Tryz.ntmps20
  go_wp2
  go_loopw [5] (fun i wr => ∃ k : Nat, k ≤ l.length ∧ i = .int .i64 (k : Int) ∧ Hid (Ext w wr) ∧ Hid (∀ j, j < k → nth l j = nth m j)) (fun i _ => l.length - (RowKit.intOf i).toNat)
  case atStart => exact ⟨0, Nat.zero_le _, rfl, Lib.hid (Ext.refl _), Lib.hid fun _ h => absurd h (Nat.not_lt_zero _)⟩
  case round =>
    obtain ⟨k, hk, rfl, HX, HEQ⟩ := hrel
    by_cases hlt : k < l.length
    · obtain ⟨b1, o1, rfl, hb1, hc1⟩ := (H1.out.ext HX.out).get hlt
      obtain ⟨b2, o2, rfl, hb2, hc2⟩ := (H2.out.ext HX.out).get (k := k) (by rw [← HLM.out]; exact hlt)
      have hlI : (k : Int) < (l.length : Int) := by omega
      by_cases he : nth l k = nth m k
      · have hne : (un (nth l k) != un (nth m k)) = false := by rw [he]; simp
        have HE := Lib.hid he
        clear he
        go_wp2_with fail
        go_quiet (fail)
        go_wp2_with fail
        go_roundw
        case rel => exact ⟨k + 1, hlt, by go_num, Lib.hid (HX.out.drewN _), Lib.hid (lt_step HEQ.out HE.out)⟩
        case measure => simp [RowKit.intOf]; omega
      · have hne : (un (nth l k) != un (nth m k)) = true := by
          have h3 : un (nth l k) ≠ un (nth m k) := fun h => he (un_inj.1 h)
          simpa using h3
        have HD : Hid (decide (l = m) = false) := Lib.hid (decide_eq_false fun h => he (by rw [h]))
        clear he
        go_wp2_with fail
        go_quiet (fail)
        go_wp2_with fail
        go_ret
        exact ⟨by rw [HD.out]; rfl, HX.out.drewN _⟩
    · have HD : Hid (decide (l = m) = true) := Lib.hid (decide_eq_true (nth_ext HLM.out fun j hj => HEQ.out j (by omega)))
      go_wp2_with fail
      go_ret
      exact ⟨by rw [HD.out]; rfl, HX.out⟩
end Wt

/- Walks: wittingref02.grow (not euclidean), Transitive, Has at transitivity. -/
namespace Wt
open Go Go.RowKit Go.Maps Go.Proofs Fm

/-- What a row of memory reads as. -/
def muL (w : World) (g n : Nat) : List (BitVec 64) := (List.range n).map fun k => match w.cell? ⟨g, k, none⟩ with
  | some (.int _ x) => BitVec.ofInt 64 x
  | _ => 0#64
theorem muL_of {w : World} {B g n c : Nat} {l : List (BitVec 64)} (h : OG w B 39 uv g n c l) : muL w g n = l := by
  have hl := h.len
  refine nth_ext (by simp [muL, hl]) fun k hk => ?_
  have hkn : k < n := by simpa [muL] using hk
  unfold muL
  rw [nth_mapX _ hkn, h.cell hkn]
  show BitVec.ofInt 64 (un (nth l k)) = _
  exact ofInt_un _
/-- The copy that grows. -/
def GrW (w0 : World) (g c : Nat) (r l : List (BitVec 64)) (wr : World) : Prop := Ext w0 wr ∧ OG wr w0.heap.size 39 uv g r.length c l ∧ Gro false r l
theorem GrW.len {w0 wr : World} {g c : Nat} {r l : List (BitVec 64)} (h : GrW w0 g c r l wr) : l.length = r.length := h.2.1.len
theorem GrW.ext {w0 wr w' : World} {g c : Nat} {r l : List (BitVec 64)} (h : GrW w0 g c r l wr) (e : Ext wr w') : GrW w0 g c r l w' := ⟨h.1.trans e, h.2.1.ext e, h.2.2⟩
theorem GrW.put {w0 wr : World} {g c w u : Nat} {r l : List (BitVec 64)} (h : GrW w0 g c r l wr) (hw : w < r.length) (hu : u < r.length) (hb : bt (nth l w) u = true) (hne : nth l w ||| nth l u ≠ nth l w) :
    GrW w0 g c r (l.set w (nth l w ||| nth l u)) (wr.setCell ⟨g, w, none⟩ (.int .u64 (un (nth l w ||| nth l u)))) :=
  ⟨h.1.setCell h.2.1.base_le _, h.2.1.set w (nth l w ||| nth l u), h.2.2.step hw hu hb hne⟩
/-- A pass: what has been looked at is closed, or something was added. -/
structure Pass (l0 l : List (BitVec 64)) (b : Bool) (k j : Nat) : Prop where
  le : sumT l0 ≤ sumT l
  lt : b = true → sumT l0 < sumT l
  row : b = false → ∀ w u, w < k → u < l.length → CloP false l w u
  part : b = false → ∀ u, u < j → CloP false l k u
theorem Pass.start (l : List (BitVec 64)) : Pass l l false 0 0 := ⟨Nat.le_refl _, fun h => (by cases h), fun _ _ _ h => absurd h (Nat.not_lt_zero _), fun _ _ h => absurd h (Nat.not_lt_zero _)⟩
theorem Pass.next {l0 l : List (BitVec 64)} {b : Bool} {k : Nat} (h : Pass l0 l b k l.length) : Pass l0 l b (k + 1) 0 :=
  ⟨h.le, h.lt, fun hb w u hw hu => by
    by_cases hwk : w = k
    · subst hwk; exact h.part hb u hu
    · exact h.row hb w u (by omega) hu, fun _ _ h => absurd h (Nat.not_lt_zero _)⟩
theorem Pass.ok {l0 l : List (BitVec 64)} {b : Bool} {k j : Nat} (h : Pass l0 l b k j) (hc : CloP false l k j) : Pass l0 l b k (j + 1) :=
  ⟨h.le, h.lt, h.row, fun hb u hu => by
    by_cases huj : u = j
    · subst huj; exact hc
    · exact h.part hb u (by omega)⟩
theorem Pass.add {l0 l : List (BitVec 64)} {b : Bool} {k j : Nat} (h : Pass l0 l b k j) (hk : k < l.length) (hne : nth l k ||| nth l j ≠ nth l k) : Pass l0 (l.set k (nth l k ||| nth l j)) true k (j + 1) := by
  have h1 := or_lt_sum hk hne
  exact ⟨Nat.le_trans h.le (Nat.le_of_lt h1), fun _ => Nat.lt_of_le_of_lt h.le h1, fun h => (by cases h), fun h => (by cases h)⟩
theorem Pass.clo {l0 l : List (BitVec 64)} {k : Nat} (h : Pass l0 l false k 0) (hk : k = l.length) : Clo false l := fun w u hw hu => h.row rfl w u (by omega) hu
def isT : Value → Nat
  | .bool true => 1
  | _ => 0
/-- A closure: it is the relation itself where that is closed. -/
def RetGr (r : List (BitVec 64)) (e : Ending) (w w' : World) : Prop := ∃ g cp l, e = .returned (.slice (some ⟨g, 0, none⟩) r.length cp) ∧ RU w' (some ⟨g, 0, none⟩) l ∧ l.length = r.length ∧ (l = r ↔ traB r = true) ∧ Ext w w'
set_option maxRecDepth 20000 in
set_option maxHeartbeats 8000000 in
theorem grow_any (r : List (BitVec 64)) (a : Option Addr) (c : Nat) (w : World) (hr : RU w a r) (hck : relCheck r = 0) (h1 : 1 ≤ r.length) :
    Calls Tryz.prog 117 #[.slice a r.length c, .bool false] w fun e w' => RetGr r e w w' := by
  obtain ⟨i0, hi1, hz0, hz1, hz2⟩ := info_parts u64_info
  obtain ⟨h64, hin⟩ := relCheck_ok hck
  obtain ⟨b0, o0, rfl, hb0, hc0⟩ := hr.get (k := 0) (by omega)
  have HR := Lib.hid hr
  have HNW := Lib.hid hr.news
  have HNO : Hid (∀ u ∈ r.map uv, u.oneCell' = true) := Lib.hid fun u hu => by
    obtain ⟨x, _, rfl⟩ := List.mem_map.1 hu
    rfl
  clear hr hin hck hb0 hc0
  go_enter Tryz.func117, Tryz.ntmps117
  go_wp2_with (at_builtin; refine wpList_append_own_at _ rfl _ _ 22 rfl w.heap.size 39 i0 _ 1 8 Tryz.underlying22 hi1 hz0 hz1 hz2 rfl (by decide) (.slice (some ⟨w.heap.size, 0, none⟩) 0 0) 0 [] rfl (World.ownsRow_made w #[] 0 (Nat.le_refl _) (by unfold maxLen; omega) rfl) ⟨b0, o0, none⟩ r.length c (r.map uv) rfl (by simp) (fun j u h => ((Ext.refl w).alloc _).cell (HNW.out j u h)) HNO.out (by unfold maxLen; omega) (by omega) (by simp) ?_; intro v5 W5 hown5 hgr5 hat5 hlt5; rw [Nat.zero_add, List.nil_append] at hown5; have HOWN := Lib.hid hown5; have hE5 : Ext w W5 := Below.grown ((Ext.refl w).alloc _) hgr5 (Ext.size ((Ext.refl w).alloc _)) (fun k hk => by simp [Value.ownBlock] at hk; omega); have HE5 := Lib.hid hE5; clear hown5 hgr5 hat5 hlt5 hE5)
  obtain ⟨g, cp, rfl⟩ : ∃ g cp, v5 = .slice (some ⟨g, 0, none⟩) r.length cp := by
    rcases HOWN.out.2 with ⟨-, h0⟩ | ⟨g, cap, cur, e, _⟩
    · omega
    · exact ⟨g, cap, e⟩
  have HG0 : Hid (GrW w g cp r r W5) := Lib.hid ⟨HE5.out, ⟨rfl, HOWN.out⟩, Gro.start _ _⟩
  clear HOWN HNW HNO
  go_loopw [6] (fun b wr => ∃ (bb : Bool) (l : List (BitVec 64)), b = .bool bb ∧ Hid (GrW w g cp r l wr) ∧ Hid (bb = false → Clo false l)) (fun b wr => 2 * (r.length * 2 ^ 64 - sumT (muL wr g r.length)) + isT b)
  case atStart => exact ⟨true, r, rfl, HG0, Lib.hid fun h => (by cases h)⟩
  case round =>
    clear HG0
    obtain ⟨bb, l, rfl, HG, HCL⟩ := hrel
    have hll := HG.out.len
    have HMU := Lib.hid (muL_of HG.out.2.1)
    cases bb
    · go_wp2_with fail
      go_ret
      exact ⟨g, cp, l, rfl, RU_of_OG HG.out.2.1 (by omega), HG.out.len, (gro_end HG.out.2.2 (HCL.out (by trivial))).trans clo_tra, HG.out.1⟩
    · go_wp2_with fail
      go_loopw [6, 7] (fun b i wz => ∃ (bb : Bool) (k : Nat) (m : List (BitVec 64)), k ≤ r.length ∧ b = .bool bb ∧ i = .int .i64 (k : Int) ∧ Hid (GrW w g cp r m wz) ∧ Hid (Pass l m bb k 0)) (fun _ i _ => r.length - (RowKit.intOf i).toNat)
      case atStart => exact ⟨false, 0, l, Nat.zero_le _, rfl, rfl, HG, Lib.hid (Pass.start l)⟩
      case round =>
        rename World => wz
        obtain ⟨bb, k, m, hk, rfl, rfl, HGZ, HP⟩ := hrel
        have hml := HGZ.out.len
        by_cases hkl : k < r.length
        · go_wp2_with fail
          go_loopw [6, 8] (fun b i wy => ∃ (bb : Bool) (j : Nat) (m : List (BitVec 64)), j ≤ r.length ∧ b = .bool bb ∧ i = .int .i64 (j : Int) ∧ Hid (GrW w g cp r m wy) ∧ Hid (Pass l m bb k j)) (fun _ i _ => r.length - (RowKit.intOf i).toNat)
          case atStart => exact ⟨bb, 0, m, Nat.zero_le _, rfl, rfl, HGZ, HP⟩
          case round =>
            clear HGZ HP hml
            rename World => wy
            obtain ⟨bb, j, m, hj, rfl, rfl, HGY, HP⟩ := hrel
            have hml := HGY.out.len
            by_cases hjl : j < r.length
            · have hj64 : j < 64 := by omega
              have hg1 := HGY.out.2.1.lt
              have hck := HGY.out.2.1.cell hkl
              have hcj := HGY.out.2.1.cell hjl
              have hfz := HGY.out.2.1.frozen k
              change wy.cell? ⟨g, k, none⟩ = some (.int .u64 (un (nth m k))) at hck
              change wy.cell? ⟨g, j, none⟩ = some (.int .u64 (un (nth m j))) at hcj
              have HIN : Hid (∀ W, Calls Tryz.prog 33 #[.int .u64 (un (nth m k)), .int .i64 (j : Int)] W fun e w' => e = .returned (.bool (bt (nth m k) j)) ∧ W = w') := Lib.hid fun W => r2In_any _ _ W hj64
              cases hb : bt (nth m k) j
              · have HOK : Hid (Pass l m bb k (j + 1)) := Lib.hid (HP.out.ok fun h => (by rw [hb] at h; cases h))
                rw [hb] at HIN
                clear hb
                go_wp2_with (go_at_call 33; refine (HIN.out _).mono ?_; rintro _ _ ⟨rfl, rfl⟩)
                go_roundw
                case rel => exact ⟨bb, j + 1, m, hjl, rfl, by go_num, HGY, HOK⟩
                case measure => simp [RowKit.intOf]; omega
              · by_cases he : nth m k ||| nth m j = nth m k
                · have hne : (un (nth m k ||| nth m j) != un (nth m k)) = false := by rw [he]; simp
                  have HOK : Hid (Pass l m bb k (j + 1)) := Lib.hid (HP.out.ok fun _ => he)
                  rw [hb] at HIN
                  clear hb he
                  go_wp2_with (go_at_call 33; refine (HIN.out _).mono ?_; rintro _ _ ⟨rfl, rfl⟩)
                  go_quiet (fail)
                  go_wp2_with fail
                  go_quiet (fail)
                  go_wp2_with fail
                  go_roundw
                  case rel => exact ⟨bb, j + 1, m, hjl, rfl, by go_num, Lib.hid (HGY.out.ext ((Ext.refl _).drewN _)), HOK⟩
                  case measure => simp [RowKit.intOf]; omega
                · have hne : (un (nth m k ||| nth m j) != un (nth m k)) = true := by
                    have h3 : un (nth m k ||| nth m j) ≠ un (nth m k) := fun h => he (un_inj.1 h)
                    simpa using h3
                  have HOK := Lib.hid (HP.out.add (by omega) he)
                  have HPUT := Lib.hid fun (W : World) (e : Ext wy W) => (HGY.out.ext e).put hkl hjl hb he
                  rw [hb] at HIN
                  clear hb he
                  go_wp2_with (go_at_call 33; refine (HIN.out _).mono ?_; rintro _ _ ⟨rfl, rfl⟩)
                  go_quiet (fail)
                  go_wp2_with fail
                  go_quiet (fail)
                  go_wp2_with fail
                  go_roundw
                  case rel => exact ⟨true, j + 1, _, hjl, rfl, by go_num, Lib.hid (HPUT.out _ ((Ext.refl _).drewN _)), HOK⟩
                  case measure => simp [RowKit.intOf]; omega
            · obtain rfl : j = r.length := by omega
              have HP2 : Hid (Pass l m bb (k + 1) 0) := Lib.hid (by have h := HP.out; rw [← hml] at h; exact h.next)
              go_wp2_with fail
              go_roundw
              case rel => exact ⟨bb, k + 1, m, hkl, rfl, by go_num, HGY, HP2⟩
              case measure => simp [RowKit.intOf]; omega
        · obtain rfl : k = r.length := by omega
          have HMZ := Lib.hid (muL_of HGZ.out.2.1)
          have hsl := sumT_le m
          rw [hml] at hsl
          have HSL := Lib.hid hsl
          go_wp2_with fail
          go_roundw
          case rel => exact ⟨bb, m, rfl, HGZ, Lib.hid fun h => by subst h; exact HP.out.clo hml.symm⟩
          case measure =>
            rw [HMZ.out, HMU.out]
            have h1 := HP.out.le
            have h2 := HP.out.lt
            have h3 := HSL.out
            have h4 : isT (.bool true) = 1 := rfl
            cases bb
            · have h5 : isT (.bool false) = 0 := rfl
              omega
            · have := h2 rfl
              omega
set_option maxHeartbeats 1000000 in
theorem r2Transitive_any (r : List (BitVec 64)) (a : Option Addr) (c : Nat) (w : World) (hr : RU w a r) (hck : relCheck r = 0) (h1 : 1 ≤ r.length) :
    Calls Tryz.prog 84 #[.slice a r.length c] w fun e w' => ∃ g cp l, (e = .returned (.tuple #[.slice (some ⟨g, 0, none⟩) r.length cp, .int .i64 0]) ∧ RU w' (some ⟨g, 0, none⟩) l ∧ l.length = r.length ∧ (l = r ↔ traB r = true) ∧ Ext w w') := by
  have HC := Lib.hid (r2Check_any r a c w hr hck)
  have HG : Hid (∀ W, Ext w W → Calls Tryz.prog 117 #[.slice a r.length c, .bool false] W fun e w' => RetGr r e W w') := Lib.hid fun W e => grow_any r a c W (hr.ext e) hck h1
  clear hr hck
  go_enter Tryz.func84, Tryz.ntmps84
  go_wp2_with (first | (go_at_call 114; refine HC.out.mono ?_; rintro _ w1 ⟨rfl, hE1⟩) | (go_at_call 117; refine (HG.out _ hE1).mono ?_; rintro _ w2 ⟨g, cp, l, rfl, hu, hl, hi, hE2⟩; have HU := Lib.hid hu; have HLL := Lib.hid hl; have HI := Lib.hid hi; clear hu hl hi))
  go_ret2
  exact ⟨g, cp, l, rfl, HU.out, HLL.out, HI.out, hE1.trans hE2⟩
set_option maxRecDepth 20000 in
set_option maxHeartbeats 4000000 in
theorem r2Has4_any (r : List (BitVec 64)) (a : Option Addr) (c : Nat) (w : World) (hr : RU w a r) (hck : relCheck r = 0) (h1 : 1 ≤ r.length) :
    Calls Tryz.prog 45 #[.slice a r.length c, .int .i64 4] w fun e w' => e = .returned (.bool (traB r)) ∧ Ext w w' := by
  obtain ⟨i0, hi1, hz0, hz1, hz2⟩ := info_parts u64_info
  obtain ⟨h64, hin⟩ := relCheck_ok hck
  have HV := Lib.hid (r2Valid_any r a c w hr hck)
  have HT : Hid (∀ W, Ext w W → Calls Tryz.prog 84 #[.slice a r.length c] W fun e w' => ∃ g cp l, (e = .returned (.tuple #[.slice (some ⟨g, 0, none⟩) r.length cp, .int .i64 0]) ∧ RU w' (some ⟨g, 0, none⟩) l ∧ l.length = r.length ∧ (l = r ↔ traB r = true) ∧ Ext W w')) := Lib.hid fun W e => r2Transitive_any r a c W (hr.ext e) hck h1
  obtain ⟨b0, o0, rfl, hb0, hc0⟩ := hr.get (k := 0) (by omega)
  have HR := Lib.hid hr
  have HNW := Lib.hid hr.news
  have HNO : Hid (∀ u ∈ r.map uv, u.oneCell' = true) := Lib.hid fun u hu => by
    obtain ⟨x, _, rfl⟩ := List.mem_map.1 hu
    rfl
  clear hr hin hck hb0 hc0
  go_enter Tryz.func45, Tryz.ntmps45
  go_wp2_with fail
  refine HV.out.mono ?_
  rintro _ w1 ⟨rfl, hE1⟩
  have HE1 := Lib.hid hE1
  clear hE1
  dsimp only
  go_wp2_with (at_builtin; refine wpList_append_own_at _ rfl _ _ 22 rfl w1.heap.size 39 i0 _ 1 8 Tryz.underlying22 hi1 hz0 hz1 hz2 rfl (by decide) (.slice (some ⟨w1.heap.size, 0, none⟩) 0 0) 0 [] rfl (World.ownsRow_made w1 #[] 0 (Nat.le_refl _) (by unfold maxLen; omega) rfl) ⟨b0, o0, none⟩ r.length c (r.map uv) rfl (by simp) (fun j u h => ((Ext.refl w1).alloc _).cell (HE1.out.cell (HNW.out j u h))) HNO.out (by unfold maxLen; omega) (by omega) (by simp) ?_; intro v5 W5 hown5 hgr5 hat5 hlt5; have hE5 : Ext w1 W5 := Below.grown ((Ext.refl w1).alloc _) hgr5 (Ext.size ((Ext.refl w1).alloc _)) (fun k hk => by simp [Value.ownBlock] at hk; omega); have HE5 := Lib.hid (HE1.out.trans hE5); clear hown5 hgr5 hat5 hlt5 hE5)
  refine (HT.out _ HE5.out).mono ?_
  rintro _ w6 ⟨g, cp, l, rfl, hu, hl, hi, hE6⟩
  have HU := Lib.hid hu
  have HLL := Lib.hid hl
  have HI : Hid (decide (l = r) = traB r) := Lib.hid (by rw [Bool.eq_iff_iff, decide_eq_true_iff]; exact hi)
  have HE6 := Lib.hid (HE5.out.trans hE6)
  have HRr := Lib.hid (HR.out.ext HE6.out)
  have HSA := Lib.hid (r2SameL_any l r (some ⟨g, 0, none⟩) (some ⟨b0, o0, none⟩) cp c w6 hl hu HRr.out)
  rw [hl] at HSA
  clear hu hl hi hE6
  dsimp only
  go_wp2_with (go_at_call 20; refine HSA.out.mono ?_; rintro _ w7 ⟨rfl, hE7⟩)
  go_ret
  exact ⟨by rw [← HI.out]; rfl, HE6.out.trans hE7⟩
end Wt
