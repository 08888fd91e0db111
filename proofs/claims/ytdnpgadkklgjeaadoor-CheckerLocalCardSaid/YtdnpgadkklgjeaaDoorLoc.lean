/- The walk of CheckerLocal. -/
import Derived.Test.YtdnpgadkklgjeaaDoorRen
import Derived.Test.YtdnpgadkklgjeaaDoorGen
import Derived.Test.YtdnpgadkklgjeaaDoorLawE
import Derived.Deep.RegionHeld3
import Derived.Deep.QuietTactic
import Derived.BigQuiet
import Derived.Deep.CutRange
namespace Wt
open Go Go.RowKit Go.Maps Go.Proofs Fm

theorem bit_and (s : BitVec 64) (n : Nat) : s >>> n &&& 1#64 = if bt s n then 1#64 else 0#64 := by
  have h1 := bit_eq1 (s := s) n
  have h0 := bit_eq0 (s := s) n
  cases hb : bt s n
  · rw [hb] at h0
    simpa using h0
  · rw [hb] at h1
    simpa using h1
theorem bits_same {s t : BitVec 64} {i k : Nat} (h : bt s i = bt t k) : (s >>> i &&& 1#64 != t >>> k &&& 1#64) = false := by rw [bit_and, bit_and, h]; simp
theorem ren_inj {N : Nat} {tl : List Int} {ws : List Nat} (h : RenOk N tl ws) : ∀ a b, a < N → b < N → nth ws a = nth ws b → a = b := by
  obtain ⟨K, hK⟩ : ∃ K : Nat → Nat, ∀ i, i < N → K i < N ∧ nth ws (K i) = i := by
    refine ⟨fun i => if hi : i < N then Classical.choose (h.put i hi) else 0, fun i hi => ?_⟩
    have := Classical.choose_spec (h.put i hi)
    simp only [hi, dif_pos]
    exact ⟨this.1, this.2.2⟩
  have hnd : ((List.range N).map K).Nodup := by
    refine List.pairwise_iff_getElem.2 fun i j hi hj hij e => ?_
    simp only [List.length_map, List.length_range] at hi hj
    simp only [List.getElem_map, List.getElem_range] at e
    have h1 := (hK i hi).2
    have h2 := (hK j hj).2
    rw [e, h2] at h1
    omega
  have hall : ∀ a, a < N → ∃ i, i < N ∧ K i = a := by
    intro a ha
    apply Classical.byContradiction
    intro hno
    have hni : a ∉ (List.range N).map K := by
      rw [List.mem_map]
      rintro ⟨i, hi, e⟩
      exact hno ⟨i, List.mem_range.1 hi, e⟩
    have := nodup_sub_len (L := a :: (List.range N).map K) (M := List.range N) (List.nodup_cons.2 ⟨hni, hnd⟩) (fun x hx => by
      rcases List.mem_cons.1 hx with rfl | hx
      · exact List.mem_range.2 ha
      · obtain ⟨i, hi, rfl⟩ := List.mem_map.1 hx
        exact List.mem_range.2 (hK i (List.mem_range.1 hi)).1)
    simp at this
    omega
  intro a b ha hb e
  obtain ⟨i, hi, rfl⟩ := hall a ha
  obtain ⟨j, hj, rfl⟩ := hall b hb
  rw [(hK i hi).2, (hK j hj).2] at e
  rw [e]
theorem nodup_of_inj {ws : List Nat} (h : ∀ a b, a < ws.length → b < ws.length → nth ws a = nth ws b → a = b) : ws.Nodup := by
  refine List.pairwise_iff_getElem.2 fun i j hi hj hij e => ?_
  have := h i j hi hj (by rw [nth_eq _ _ hi, nth_eq _ _ hj]; exact e)
  omega
theorem ren_sub {M : Mo} {N : Nat} (ok : MoOk M N) {tl : List Int} {ws : List Nat} (h : RenOk N tl ws) : Subm M N ws where
  ok := ok
  one := by rw [h.len]; exact ok.one
  inj := nodup_of_inj fun a b ha hb => ren_inj h a b (by rw [← h.len]; exact ha) (by rw [← h.len]; exact hb)
  lt := fun i hi => h.small i (by rw [← h.len]; exact hi)
  cl := fun q hq i hi u hb => by
    have h1 := (row_in ok hq).2 (nth ws i) (h.small i (by rw [← h.len]; exact hi)) u (bt_lt64 hb) hb
    rw [bt_allW] at h1
    simp at h1
    obtain ⟨k, hk, _, hk2⟩ := h.put u h1.2
    exact ⟨k, by rw [h.len]; exact hk, hk2⟩
theorem gen_sub {M : Mo} {N : Nat} (ok : MoOk M N) {g : BitVec 64} {v : Nat} (hv : bt g v = true) (hg : Sub g (allW N)) (hcl : ∀ v, v < N → bt g v = true → ∀ q, q < M.rel.length → Sub (nth (nth M.rel q) v) g) : Subm M N (memL g) where
  ok := ok
  one := List.length_pos_of_mem (mem_memL.2 ⟨bt_lt64 hv, hv⟩)
  inj := List.nodup_range.filter _
  lt := fun i hi => by
    have h := mem_memL.1 (show nth (memL g) i ∈ memL g by rw [nth_eq _ _ hi]; exact List.getElem_mem _)
    have h2 := hg _ h.1 h.2
    rw [bt_allW] at h2; simp at h2; exact h2.2
  cl := fun q hq i hi u hb => by
    have h := mem_memL.1 (show nth (memL g) i ∈ memL g by rw [nth_eq _ _ hi]; exact List.getElem_mem _)
    have h2 := hg _ h.1 h.2
    rw [bt_allW] at h2; simp at h2
    have h3 := hcl _ h2.2 h.2 q hq u (bt_lt64 hb) hb
    obtain ⟨j, hj, e⟩ := List.getElem_of_mem (mem_memL.2 ⟨bt_lt64 hb, h3⟩)
    exact ⟨j, hj, by rw [nth_eq _ _ hj]; exact e⟩
theorem Agree.of_ext {B : Nat} {w' w'' : World} (e : Ext w' w'') : Agree B w' w'' := fun k _ hk => e.block k hk
/-- The set of a formula in a closed part of a model. -/
theorem sub_set {M : Mo} {N : Nat} {ws : List Nat} (h : Subm M N ws) {f : List Nd} (Sf : semT M (rt f) = (holdsOf M f, true)) : ∃ t, semT (arrM M ws) (rt f) = (t, true) ∧ ∀ i, i < ws.length → bt t i = bt (holdsOf M f) (nth ws i) := by
  obtain ⟨h1, h2⟩ := sem_arr h (rt f)
  rw [Sf] at h1 h2
  exact ⟨_, by rw [Prod.ext_iff]; exact ⟨rfl, h1⟩, h2⟩
set_option maxRecDepth 20000 in
set_option maxHeartbeats 8000000 in
theorem checkerLocal_any (M : Mo) (va ra : Option Addr) (vc rc : Nat) (fa : Option Addr) (fc : Nat) (f : List Nd) (ta : Option Addr) (tc : Nat) (tl : List Int) (w : World) (hm : RM w va ra M) (hf : RN w fa f) (hto : RI w ta tl) (hT : Tab w) :
    Calls Tryd.prog 3 #[.agg #[.int .i64 M.worlds, .slice va M.val.length vc, .slice ra M.rel.length rc], .slice fa f.length fc, .slice ta tl.length tc] w fun e w' => e = .returned (.bool true) ∧ Ext w w' := by
  have hE0 := (Ext.refl w).alloc (.cells #[.int .i64 M.worlds, .slice va M.val.length vc, .slice ra M.rel.length rc] 25)
  have hbx := MoBox.new w M.worlds M.val M.rel va vc ra rc 25
  have Hf := Lib.hid (hf.ext hE0)
  have HTo := Lib.hid (hto.ext hE0)
  have HT := Lib.hid (hT.ext hE0)
  have HM := Lib.hid (hm.ext hE0)
  have HE := Lib.hid hE0
  have HBX := Lib.hid hbx
  have hrl := hm.rel.len
  clear hm hf hto hT hE0 hbx
  go_enter Tryd.func3, Tryd.ntmps3
  go_wp2_with fail
  refine (awake_any _).mono ?_
  rintro _ w1 ⟨rfl, hX1⟩
  dsimp only
  obtain ⟨m0, m1, m2⟩ := HBX.out.ext hX1
  dsimp only at m0 m1 m2
  go_wp2_with fail
  refine (few_any M va ra vc rc _ 1 [f] _ (HM.out.ext (hX1.alloc _)) (RNN.one _ fa fc f 26 (Hf.out.ext hX1))).mono ?_
  rintro _ w2 ⟨b, rfl, hE2, hsm⟩
  dsimp only
  have hX2 := (hX1.alloc (.cells #[.slice fa f.length fc] 26)).trans hE2
  cases b
  · go_wp2_with fail
    refine (awake_any _).mono ?_
    rintro _ w3 ⟨rfl, hE3⟩
    dsimp only
    go_wp2_with fail
    go_ret
    exact ⟨rfl, HE.out.trans (hX2.trans hE3)⟩
  have hlf : f.length ≤ 60 := hsm rfl 0 (by simp)
  clear hsm m0 m1 m2
  obtain ⟨m0, m1, m2⟩ := HBX.out.ext hX2
  dsimp only at m0 m1 m2
  go_wp2_with fail
  refine (r13Check_any M va ra vc rc _ (HM.out.ext hX2)).mono ?_
  rintro _ w3 ⟨rfl, hE3⟩
  dsimp only
  have hX3 := hX2.trans hE3
  clear m0 m1 m2
  obtain ⟨m0, m1, m2⟩ := HBX.out.ext hX3
  dsimp only at m0 m1 m2
  by_cases hM : moCheck M = 0
  rotate_left
  · have hq : (moCheck M != 0) = true := by simpa using hM
    go_wp2_with fail
    refine (awake_any _).mono ?_
    rintro _ w4 ⟨rfl, hE4⟩
    dsimp only
    go_wp2_with fail
    go_ret
    exact ⟨rfl, HE.out.trans (hX3.trans hE4)⟩
  have hq : (moCheck M != 0) = false := by simp [hM]
  obtain ⟨N, ok⟩ := moCheck_ok hM
  go_wp2_with fail
  refine (set_any M va ra vc rc fa fc f _ (HM.out.ext hX3) (Hf.out.ext hX3)).mono ?_
  rintro _ w4 ⟨rfl, hE4⟩
  dsimp only
  have hX4 := hX3.trans hE4
  clear m0 m1 m2
  obtain ⟨m0, m1, m2⟩ := HBX.out.ext hX4
  dsimp only at m0 m1 m2
  by_cases hq3 : (reqErr M f == 0) = true
  rotate_left
  · have hq3' : (reqErr M f == 0) = false := by simpa using hq3
    go_wp2_with fail
    go_ret
    exact ⟨rfl, HE.out.trans hX4⟩
  obtain ⟨_, If, Sf⟩ := set_ok hq3
  have HOK := Lib.hid ok
  have HW := Lib.hid ok.worlds
  have hN64 := ok.most
  have HIf := Lib.hid If
  have HSf := Lib.hid Sf
  clear If Sf ok hlf
  go_wp2_with fail
  refine (rename_any M va ra vc rc ta tc tl N _ (HM.out.ext hX4) (HTo.out.ext hX4) HOK.out).mono ?_
  rintro _ w5 ⟨A, va5, ra5, vc5, rc5, c5, rfl, hA5, hE5, hren⟩
  dsimp only
  have HA5 := Lib.hid hA5
  have HREN := Lib.hid hren
  have hX5 := hX4.trans hE5
  clear m0 m1 m2 hA5 hren
  obtain ⟨m0, m1, m2⟩ := HBX.out.ext hX5
  dsimp only at m0 m1 m2
  go_upto_if 55 with fail
  have hE6 : Ext w5 (w5.alloc (.cells #[.int .i64 A.worlds, .slice va5 A.val.length vc5, .slice ra5 A.rel.length rc5] 25)) := (Ext.refl _).alloc _
  have HBX6 := Lib.hid (MoBox.new w5 A.worlds A.val A.rel va5 vc5 ra5 rc5 25)
  have hX6 := hX5.trans hE6
  generalize w5.alloc (.cells #[.int .i64 A.worlds, .slice va5 A.val.length vc5, .slice ra5 A.rel.length rc5] 25) = w6 at *
  clear m0 m1 m2
  obtain ⟨m0, m1, m2⟩ := HBX.out.ext hX6
  dsimp only at m0 m1 m2
  go_cut [11, 12, 13, 14] from 56 to 95 (fun s11 s12 s13 s14 wc => Hid (Ext w6 wc))
  case first =>
    by_cases hc0 : c5 = 0
    rotate_left
    · have hc : (c5 == 0) = false := by simpa using hc0
      go_wp2
      go_meet
      case rel => exact Lib.hid (Ext.refl _)
    · obtain ⟨ws, rfl, hR⟩ := HREN.out hc0
      have hsub := ren_sub HOK.out hR
      obtain ⟨s5, hs5, hbits⟩ := sub_set hsub HSf.out
      have HS5 := Lib.hid hs5
      have HBITS : Hid (∀ i, i < N → ∃ k : Nat, k < N ∧ nth tl i = (k : Int) ∧ bt (holdsOf M f) i = bt s5 k) := Lib.hid fun i hi => by
        obtain ⟨k, h1, h2, h3⟩ := hR.put i hi
        exact ⟨k, h1, h2, by rw [hbits k (by rw [hR.len]; exact h1), h3]⟩
      have HCK := Lib.hid (arr_ok hsub).check
      have hTl := hR.lenT
      have hTW : ((tl.length : Int) != M.worlds) = false := by rw [HW.out, hTl]; simp
      have hTW2 : ((N : Int) != M.worlds) = false := by rw [HW.out]; simp
      have hc : (c5 == 0) = true := by simpa using hc0
      obtain ⟨n0, n1, n2⟩ := HBX6.out
      dsimp only at n0 n1 n2
      clear hsub hs5 hbits hR
      go_wp2_with fail
      refine (setT HCK.out HIf.out HS5.out va5 ra5 vc5 rc5 fa fc _ (HA5.out _ (Agree.of_ext hE6)) (Hf.out.ext hX6)).mono ?_
      rintro _ w7 ⟨rfl, hE7⟩
      dsimp only
      have HE7 := Lib.hid hE7
      have hX7 := hX6.trans hE7
      clear m0 m1 m2 n0 n1 n2
      obtain ⟨m0, m1, m2⟩ := HBX.out.ext hX7
      dsimp only at m0 m1 m2
      go_wp2
      go_loopw [73] (fun i wr => ∃ k : Nat, k ≤ N ∧ i = .int .i64 (k : Int) ∧ Ext w7 wr) (fun i _ => N - (intOf i).toNat)
      case atStart => exact ⟨0, Nat.zero_le _, rfl, Ext.refl _⟩
      case round =>
        obtain ⟨i, hi, rfl, hEr⟩ := hrel
        by_cases hil : i < N
        · obtain ⟨k, hkN, hki, hbe⟩ := HBITS.out i hil
          obtain ⟨b, off, rfl, hb, hcell⟩ := ((HTo.out.ext hX7).ext hEr).get (k := i) (by omega)
          rw [hki] at hcell
          have hne := bits_same hbe
          have hk0 : decide ((k : Int) < 0) = false := by simp
          have hk63 : decide ((k : Int) > 63) = false := by simp; omega
          have hk63b : decide ((63 : Int) < (k : Int)) = false := by simp; omega
          clear hki hbe
          go_wp2_with fail
          go_quiet (fail)
          go_wp2
          go_roundw
          case rel => exact ⟨i + 1, hil, by go_num, by first | exact hEr | exact hEr.drew | exact hEr.drewN _⟩
          case measure => simp [intOf]; omega
        · obtain rfl : i = N := by omega
          go_wp2
          go_meet
          case rel => exact Lib.hid (HE7.out.trans hEr)
  case rest =>
    rename World => w8
    have hX8 := hX6.trans hcut.out
    clear m0 m1 m2
    obtain ⟨m0, m1, m2⟩ := HBX.out.ext hX8
    dsimp only at m0 m1 m2
    have hR4 := HOK.out.rel
    go_wp2
    try simp only [hq3, hM]
    go_loopw [98] (fun i wr => ∃ v : Nat, v ≤ N ∧ i = .int .i64 (v : Int) ∧ Ext w8 wr) (fun i _ => N - (intOf i).toNat)
    case atStart => exact ⟨0, Nat.zero_le _, rfl, Ext.refl _⟩
    case round =>
      obtain ⟨v, hv, rfl, hEr⟩ := hrel
      have hX9 := hX8.trans hEr
      clear m0 m1 m2
      obtain ⟨m0, m1, m2⟩ := HBX.out.ext hX9
      dsimp only at m0 m1 m2
      by_cases hvl : (v : Int) < M.worlds
      · have hvN : v < N := by have := HW.out; omega
        have hF : 1#64 <<< v &&& ~~~ allW N = 0#64 := andNot_zero.2 fun k hk hb => by
          rw [bt_shl1] at hb; rw [bt_allW]; simp at hb ⊢; omega
        have HF := Lib.hid hF
        have HK9 : Hid (∀ w', Ext wr w' → w'.cell? ⟨w.heap.size, 0, none⟩ = some (.int .i64 M.worlds) ∧ w'.cell? ⟨w.heap.size, 1, none⟩ = some (.slice va M.val.length vc) ∧ w'.cell? ⟨w.heap.size, 2, none⟩ = some (.slice ra M.rel.length rc)) := Lib.hid fun w' e => ⟨e.cell m0, e.cell m1, e.cell m2⟩
        have HX9 : Hid (∀ w', Ext wr w' → Ext (w.alloc (.cells #[.int .i64 M.worlds, .slice va M.val.length vc, .slice ra M.rel.length rc] 25)) w') := Lib.hid fun w' e => hX9.trans e
        clear hF m0 m1 m2
        go_wp2_with fail
        go_region_held3 (fun w' => w'.cell? ⟨w.heap.size, 0, none⟩ = some (.int .i64 M.worlds) ∧ w'.cell? ⟨w.heap.size, 1, none⟩ = some (.slice va M.val.length vc) ∧ w'.cell? ⟨w.heap.size, 2, none⟩ = some (.slice ra M.rel.length rc)) (first | exact HK9.out _ (Ext.refl _) | exact HK9.out _ ((Ext.refl _).drew) | exact HK9.out _ (by assumption) | go_keep) (first | (go_at_call 9; refine (generated_any M va ra vc rc (1#64 <<< v) N _ (HM.out.ext (HX9.out _ (by first | exact Ext.refl _ | exact (Ext.refl _).drew | assumption))) HOK.out HF.out (HT.out.ext (HX9.out _ (by first | exact Ext.refl _ | exact (Ext.refl _).drew | assumption)))).mono ?_; rintro _ w10 ⟨gs, rfl, g1, g2, g3, hY⟩; have hE10 : Ext wr w10 := Ext.trans (by first | exact Ext.refl _ | exact (Ext.refl _).drew) hY) | fail)
        have hX10 := hX9.trans hE10
        obtain ⟨m0, m1, m2⟩ := HBX.out.ext hX10
        dsimp only at m0 m1 m2
        have hgv : bt gs v = true := g1 v (by omega) (by rw [bt_shl1]; simp; omega)
        have hsub := gen_sub HOK.out hgv g2 g3
        have hr0 : resErr M gs = 0 := by
          unfold resErr
          rw [if_neg (by simp [hM]), show M.worlds.toNat = N by rw [HW.out]; exact Int.toNat_natCast N, if_neg (by rw [andNot_zero.2 g2]; simp), if_neg (by rintro rfl; rw [bt_zero] at hgv; cases hgv)]
        have hres := restrict_any M va ra vc rc gs _ (HM.out.ext hX10) (HT.out.ext hX10)
        rw [show resM M gs = arrM M (memL gs) from if_pos hr0, show resL M gs = natI (memL gs) from if_pos hr0, hr0] at hres
        obtain ⟨t, hst, hbits⟩ := sub_set hsub HSf.out
        have HST := Lib.hid hst
        have HBITS := Lib.hid hbits
        have HCK := Lib.hid (arr_ok hsub).check
        have hml := memL_len gs
        have hnl : (natI (memL gs)).length = (memL gs).length := by simp [natI]
        rw [show ((1#64 <<< v : BitVec 64)) = 1#64 <<< v from rfl] at *
        clear g1 g2 g3 hgv hsub hst hbits hr0 hY
        go_wp2_with fail
        refine hres.mono ?_
        rintro _ w11 ⟨va2, ra2, la, vc2, rc2, lc, rfl, hA11, hE11⟩
        dsimp only
        rw [hnl]
        have HA11 := Lib.hid hA11
        have hE12 : Ext w11 (w11.alloc (.cells #[.int .i64 (arrM M (memL gs)).worlds, .slice va2 (arrM M (memL gs)).val.length vc2, .slice ra2 (arrM M (memL gs)).rel.length rc2] 25)) := (Ext.refl _).alloc _
        obtain ⟨n0, n1, n2⟩ := MoBox.new w11 (arrM M (memL gs)).worlds (arrM M (memL gs)).val (arrM M (memL gs)).rel va2 vc2 ra2 rc2 25
        dsimp only at n0 n1 n2
        have hX11 := hX10.trans hE11
        have hX12 := hX11.trans hE12
        clear hA11 hres m0 m1 m2
        obtain ⟨m0, m1, m2⟩ := HBX.out.ext hX11
        dsimp only at m0 m1 m2
        generalize arrM M (memL gs) = A2 at *
        go_wp2_with fail
        refine (setT HCK.out HIf.out HST.out va2 ra2 vc2 rc2 fa fc _ (HA11.out _ (Agree.of_ext hE12)).1 (Hf.out.ext hX12)).mono ?_
        rintro _ w13 ⟨rfl, hE13⟩
        dsimp only
        have hX13 := hX12.trans hE13
        have HE13 := Lib.hid (hE10.trans (hE11.trans (hE12.trans hE13)))
        have HA13 : Hid (∀ w', Ext w13 w' → RI w' la (natI (memL gs))) := Lib.hid fun w' e => (HA11.out w' (Agree.of_ext ((hE12.trans hE13).trans e))).2
        clear m0 m1 m2 n0 n1 n2
        go_wp2
        go_loopw [133] (fun i wz => ∃ j : Nat, j ≤ (memL gs).length ∧ i = .int .i64 (j : Int) ∧ Ext w13 wz) (fun i _ => (memL gs).length - (intOf i).toNat)
        case atStart => exact ⟨0, Nat.zero_le _, rfl, Ext.refl _⟩
        case round =>
          rename World => wz
          obtain ⟨j, hj, rfl, hEz⟩ := hrel
          by_cases hjl : j < (memL gs).length
          · obtain ⟨b, off, rfl, hb, hcell⟩ := (HA13.out wz hEz).get (k := j) (by omega)
            rw [nth_natI hjl] at hcell
            have hbj := HBITS.out j hjl
            have hj63 : decide ((j : Int) > 63) = false := by simp; omega
            have hj63b : decide ((63 : Int) < (j : Int)) = false := by simp; omega
            generalize nth (memL gs) j = u at *
            by_cases huv : u = v
            · subst huv
              have hne := bits_same hbj
              clear hbj
              go_wp2_with fail
              go_quiet (fail)
              go_wp2
              go_roundw
              case rel => exact ⟨j + 1, hjl, by go_num, by first | exact hEz | exact hEz.drew | exact hEz.drewN _⟩
              case measure => simp [intOf]; omega
            · have huv2 : ((u : Int) == (v : Int)) = false := by rw [beq_eq_false_iff_ne]; omega
              clear hbj huv
              go_wp2_with fail
              go_quiet (fail)
              go_wp2
              go_roundw
              case rel => exact ⟨j + 1, hjl, by go_num, by first | exact hEz | exact hEz.drew | exact hEz.drewN _⟩
              case measure => simp [intOf]; omega
          · obtain rfl : j = (memL gs).length := by omega
            go_wp2
            go_roundw
            case rel => exact ⟨v + 1, hvN, by go_num, hEr.trans (HE13.out.trans hEz)⟩
            case measure => simp [intOf]; omega
      · obtain rfl : v = N := by have := HW.out; omega
        go_wp2
        go_ret
        exact ⟨rfl, HE.out.trans hX9⟩
end Wt
