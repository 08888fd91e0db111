/- Walk: wittingref23.Transitive (printed by gen_frd.py). -/
import Derived.Test.YtbeaagnahldefaaGreatDoorM9Bo
import Derived.Test.YtbeaagnahldefaaGreatDoorM9Bl
import Derived.Test.YtbeaagnahldefaaGreatDoorM9Bk
import Derived.Test.YtbeaagnahldefaaGreatDoorM9Am
namespace Wt
open Go Go.RowKit Go.Maps Go.Proofs Fm

theorem ok_rel {M : Mo} {N a : Nat} (ok : MoOk M N) (ha : a < M.rel.length) : relCheck (nth M.rel a) = 0 :=
  rel_ok (ok.row _ (nth_mem ha)) ok.most fun v hv => andNot_zero.1 (ok.relIn _ (nth_mem ha) _ (nth_mem (by rw [ok.row _ (nth_mem ha)]; exact hv)))
/-- What Transitive returns. -/
def trE (M : Mo) (f : List Nd) : Int := if lookErr M f ≠ 0 then lookErr M f else if M.rel.all traB then 0 else 12
def filTr (M : Mo) (f : List Nd) : Mo := if trE M f = 0 then filLa M f true else ⟨0, [], []⟩
def filTn (M : Mo) (f : List Nd) : List Nat := if trE M f = 0 then filN M f else []
theorem tr_err {M : Mo} {f : List Nd} (h : lookErr M f ≠ 0) : trE M f = lookErr M f ∧ filTr M f = ⟨0, [], []⟩ ∧ filTn M f = [] := by
  have e : trE M f = lookErr M f := if_pos h
  exact ⟨e, if_neg (by rw [e]; exact h), if_neg (by rw [e]; exact h)⟩
theorem tr_no {M : Mo} {f : List Nd} (h : lookErr M f = 0) (ht : M.rel.all traB = false) : trE M f = 12 ∧ filTr M f = ⟨0, [], []⟩ ∧ filTn M f = [] := by
  have e : trE M f = 12 := by unfold trE; rw [if_neg (by simp [h]), ht]; rfl
  exact ⟨e, if_neg (by rw [e]; decide), if_neg (by rw [e]; decide)⟩
theorem tr_yes {M : Mo} {f : List Nd} (h : lookErr M f = 0) (ht : M.rel.all traB = true) : trE M f = 0 ∧ filTr M f = filLa M f true ∧ filTn M f = filN M f := by
  have e : trE M f = 0 := by unfold trE; rw [if_neg (by simp [h]), ht]; rfl
  exact ⟨e, if_pos e, if_pos e⟩
theorem all_no {l : List (List (BitVec 64))} {p : List (BitVec 64) → Bool} {k : Nat} (hk : k < l.length) (h : p (nth l k) = false) : l.all p = false := by
  cases hq : l.all p
  · rfl
  · have := List.all_eq_true.1 hq _ (nth_mem hk)
    rw [h] at this; cases this
theorem all_yes {l : List (List (BitVec 64))} {p : List (BitVec 64) → Bool} (h : ∀ k, k < l.length → p (nth l k) = true) : l.all p = true := List.all_eq_true.2 fun x hx => by
  obtain ⟨k, hk, rfl⟩ := mem_nth hx
  exact h k hk
set_option maxRecDepth 20000 in
set_option maxHeartbeats 16000000 in
theorem r23Transitive_any (M : Mo) (va ra : Option Addr) (vc rc : Nat) (fa : Option Addr) (fc : Nat) (f : List Nd) (w : World) (hm : RM w va ra M) (hf : RN w fa f) :
    Calls Tryz.prog 18 #[.agg #[.int .i64 M.worlds, .slice va M.val.length vc, .slice ra M.rel.length rc], .slice fa f.length fc] w fun e w' => RetR (filTr M f) (natI (filTn M f)) (trE M f) e w w' := by
  have hE0 := ((Ext.refl w).alloc (.cells #[.int .i64 M.worlds, .slice va M.val.length vc, .slice ra M.rel.length rc] 25)).alloc (.cells #[.int .i64 0, .slice none 0 0, .slice none 0 0] 25)
  have hbx := (MoBox.new w M.worlds M.val M.rel va vc ra rc 25).ext ((Ext.refl _).alloc (.cells #[.int .i64 0, .slice none 0 0, .slice none 0 0] 25))
  have hr0 := OutAt.new1 w (.cells #[.int .i64 M.worlds, .slice va M.val.length vc, .slice ra M.rel.length rc] 25) (.int .i64 0) (.slice none 0 0) (.slice none 0 0) 25
  have HE := Lib.hid hE0
  have HM := Lib.hid (hm.ext hE0)
  have HF := Lib.hid (hf.ext hE0)
  have HB := Lib.hid hbx
  have HR := Lib.hid hr0
  have hs0 : ((w.alloc (.cells #[.int .i64 M.worlds, .slice va M.val.length vc, .slice ra M.rel.length rc] 25)).alloc (.cells #[.int .i64 0, .slice none 0 0, .slice none 0 0] 25)).heap.size = w.heap.size + 2 := by simp
  have HSZ := Lib.hid hs0
  obtain ⟨m0, m1, m2⟩ := hbx
  dsimp only at m0 m1 m2
  clear hE0 hf hm hr0 hs0
  have HRQ : Hid (∀ W, RM W va ra M → RN W fa f → Calls Tryz.prog 30 #[.agg #[.int .i64 M.worlds, .slice va M.val.length vc, .slice ra M.rel.length rc], .slice fa f.length fc] W fun e w' => e = .returned (.int .i64 (lookErr M f)) ∧ Ext W w') := Lib.hid fun W h1 h2 => r23request_any M va ra vc rc fa fc f W h1 h2
  by_cases hl : lookErr M f = 0
  · have HL := Lib.hid hl
    obtain ⟨N, vk⟩ := vok_of hl
    have HOK := Lib.hid vk.vw.ok
    have h64 := vk.vw.ok.most
    have h1N := vk.vw.ok.one
    have HLA : Hid (∀ W, RM W va ra M → RN W fa f → Calls Tryz.prog 40 #[.agg #[.int .i64 M.worlds, .slice va M.val.length vc, .slice ra M.rel.length rc], .slice fa f.length fc, .bool true] W fun e w' => RetR (filLa M f true) (natI (filN M f)) 0 e W w') := Lib.hid fun W h1 h2 => r23largest_any M va ra vc rc fa fc f true W h1 h2 HL.out
    have hr4 : M.rel.length ≤ 4 := vk.vw.ok.rel
    clear hl vk
    go_enter Tryz.func18, Tryz.ntmps18
    go_wp2_with fail
    generalize (w.alloc (.cells #[.int .i64 M.worlds, .slice va M.val.length vc, .slice ra M.rel.length rc] 25)).alloc (.cells #[.int .i64 0, .slice none 0 0, .slice none 0 0] 25) = w0 at *
    refine (HRQ.out _ HM.out HF.out).mono ?_
    rintro _ wb ⟨rfl, hEb⟩
    rw [HL.out]
    have HEb := Lib.hid hEb
    clear m0 m1 m2 hEb
    dsimp only
    go_wp2_with fail
    go_loopw [8] (fun i wr => ∃ k : Nat, k ≤ M.rel.length ∧ i = .int .i64 (k : Int) ∧ Hid (Ext wb wr) ∧ Hid (∀ j, j < k → traB (nth M.rel j) = true)) (fun i _ => M.rel.length - (RowKit.intOf i).toNat)
    case atStart => exact ⟨0, Nat.zero_le _, rfl, Lib.hid (Ext.refl _), Lib.hid fun _ h => absurd h (Nat.not_lt_zero _)⟩
    case round =>
      obtain ⟨k, hk, rfl, HX, HTR⟩ := hrel
      have HEP := Lib.hid (HEb.out.trans HX.out)
      obtain ⟨p0, p1, p2⟩ := HB.out.ext HEP.out
      dsimp only at p0 p1 p2
      have plt := World.block_lt_of_cell? _ _ p2
      dsimp only at plt
      by_cases hkl : k < M.rel.length
      · obtain ⟨b2, o2, a', c', hra, hb2, hc2, hr⟩ := (HM.out.rel.ext HEP.out).get hkl
        subst hra
        have hrl : (nth M.rel k).length = N := HOK.out.row _ (nth_mem hkl)
        have HHS : Hid (Calls Tryz.prog 45 #[.slice a' (nth M.rel k).length c', .int .i64 4] wr fun e w' => e = .returned (.bool (traB (nth M.rel k))) ∧ Ext wr w') := Lib.hid (r2Has4_any _ a' c' wr hr (ok_rel HOK.out hkl) (by omega))
        clear hr hrl
        cases hb : traB (nth M.rel k)
        · obtain ⟨t1, t2, t3⟩ := tr_no HL.out (all_no hkl hb)
          have HT1 := Lib.hid t1
          have HT2 := Lib.hid t2
          have HT3 := Lib.hid t3
          rw [hb] at HHS
          clear t1 t2 t3 hb
          go_wp2_with fail
          refine HHS.out.mono ?_
          rintro _ w1 ⟨rfl, hE1⟩
          have HE1 := Lib.hid ((HE.out.trans HEP.out).trans hE1)
          have HH := Lib.hid (HR.out.ext (HEP.out.trans hE1))
          clear hE1 p0 p1 p2 plt hc2 hb2
          obtain ⟨r0, rr1, rr2, rfz⟩ := HH.out
          have f0 := rfz 0
          have f1 := rfz 1
          have f2 := rfz 2
          have hrl9 := HH.out.lt
          clear rfz
          dsimp only
          go_wp2_with fail
          obtain ⟨d0, d1, d2, -⟩ := ((HH.out.set0 (.int .i64 0)).set1 (.slice none 0 0)).set2 (.slice none 0 0)
          have hEx : Ext w ((((w1.setCell ⟨w.heap.size + 1, 0, none⟩ (.int .i64 0)).setCell ⟨w.heap.size + 1, 1, none⟩ (.slice none 0 0)).setCell ⟨w.heap.size + 1, 2, none⟩ (.slice none 0 0))) := (((HE1.out.setCell (by simp) _).setCell (by simp) _).setCell (by simp) _)
          generalize (((w1.setCell ⟨w.heap.size + 1, 0, none⟩ (.int .i64 0)).setCell ⟨w.heap.size + 1, 1, none⟩ (.slice none 0 0)).setCell ⟨w.heap.size + 1, 2, none⟩ (.slice none 0 0)) = W2 at *
          refine bodyPost_ret (v := .tuple #[.agg #[.int .i64 0, .slice none 0 0, .slice none 0 0], .slice none 0 0, .int .i64 12]) ?_ rfl ?_
          · rw [results_cell_two rfl]
            go_simp
          · rw [HT1.out, HT2.out, HT3.out]
            exact ⟨none, none, none, 0, 0, 0, rfl, fun w'' _ => ⟨⟨RU.nil _ _, RR.nil _ _⟩, RI.nil _ _⟩, hEx⟩
        · have HBT := Lib.hid hb
          rw [hb] at HHS
          clear hb
          go_wp2_with fail
          refine HHS.out.mono ?_
          rintro _ w1 ⟨rfl, hE1⟩
          have HE1 := Lib.hid (HX.out.trans hE1)
          clear hE1 p0 p1 p2 plt hc2 hb2
          dsimp only
          go_wp2_with fail
          go_roundw
          case rel => exact ⟨k + 1, hkl, by go_num, HE1, Lib.hid (lt_step HTR.out HBT.out)⟩
          case measure => simp [RowKit.intOf]; omega
      · obtain ⟨t1, t2, t3⟩ := tr_yes HL.out (all_yes fun j hj => HTR.out j (by omega))
        have HT1 := Lib.hid t1
        have HT2 := Lib.hid t2
        have HT3 := Lib.hid t3
        clear t1 t2 t3
        go_wp2_with fail
        refine (HLA.out _ (HM.out.ext HEP.out) (HF.out.ext HEP.out)).mono ?_
        rintro _ w4 ⟨v4, r4, l4, c4, d4, e4, rfl, hk4, hE4⟩
        rw [natI_ln]
        clear p0 p1 p2 plt
        have hwb : w.heap.size + 1 < wr.heap.size := by have := HEP.out.size; have := HSZ.out; omega
        have HH := Lib.hid (HR.out.ext (HEP.out.trans hE4))
        have HK4 := Lib.hid hk4
        have HE4 := Lib.hid ((HE.out.trans HEP.out).trans hE4)
        have HWB := Lib.hid hwb
        clear hk4 hE4 hwb
        generalize hqm : filLa M f true = QM at *
        generalize hql : filN M f = QL at *
        have HQM := Lib.hid hqm
        have HQL := Lib.hid hql
        clear hqm hql
        obtain ⟨r0, rr1, rr2, rfz⟩ := HH.out
        have f0 := rfz 0
        have f1 := rfz 1
        have f2 := rfz 2
        have hrl9 := HH.out.lt
        clear rfz
        dsimp only
        go_wp2_with fail
        obtain ⟨d0, d1, d2, -⟩ := ((HH.out.set0 (.int .i64 QM.worlds)).set1 (.slice v4 QM.val.length c4)).set2 (.slice r4 QM.rel.length d4)
        have hEx : Ext w (((w4.setCell ⟨w.heap.size + 1, 0, none⟩ (.int .i64 QM.worlds)).setCell ⟨w.heap.size + 1, 1, none⟩ (.slice v4 QM.val.length c4)).setCell ⟨w.heap.size + 1, 2, none⟩ (.slice r4 QM.rel.length d4)) := ((HE4.out.setCell (by simp) _).setCell (by simp) _).setCell (by simp) _
        have hkF : ∀ w'', Agree w.heap.size (((w4.setCell ⟨w.heap.size + 1, 0, none⟩ (.int .i64 QM.worlds)).setCell ⟨w.heap.size + 1, 1, none⟩ (.slice v4 QM.val.length c4)).setCell ⟨w.heap.size + 1, 2, none⟩ (.slice r4 QM.rel.length d4)) w'' → RM w'' v4 r4 QM ∧ RI w'' l4 (natI QL) := fun w'' hg => HK4.out w'' (agree_end3 HWB.out (by have := HWB.out; omega) hg)
        generalize ((w4.setCell ⟨w.heap.size + 1, 0, none⟩ (.int .i64 QM.worlds)).setCell ⟨w.heap.size + 1, 1, none⟩ (.slice v4 QM.val.length c4)).setCell ⟨w.heap.size + 1, 2, none⟩ (.slice r4 QM.rel.length d4) = W2 at *
        refine bodyPost_ret (v := .tuple #[.agg #[.int .i64 QM.worlds, .slice v4 QM.val.length c4, .slice r4 QM.rel.length d4], .slice l4 QL.length e4, .int .i64 0]) ?_ rfl ?_
        · rw [results_cell_two rfl]
          go_simp
        · rw [HT1.out, HT2.out, HT3.out]
          exact ⟨v4, r4, l4, c4, d4, e4, by rw [natI_ln], hkF, hEx⟩
  · obtain ⟨t1, t2, t3⟩ := tr_err hl
    rw [t1, t2, t3]
    clear t1 t2 t3
    have hq : (lookErr M f != 0) = true := by simpa using hl
    clear hl
    generalize hle : lookErr M f = er at *
    clear hle
    go_enter Tryz.func18, Tryz.ntmps18
    go_wp2_with fail
    generalize (w.alloc (.cells #[.int .i64 M.worlds, .slice va M.val.length vc, .slice ra M.rel.length rc] 25)).alloc (.cells #[.int .i64 0, .slice none 0 0, .slice none 0 0] 25) = w0 at *
    refine (HRQ.out _ HM.out HF.out).mono ?_
    rintro _ w1 ⟨rfl, hE1⟩
    have HH := Lib.hid (HR.out.ext hE1)
    have HE1 := Lib.hid (HE.out.trans hE1)
    clear hE1 m0 m1 m2
    obtain ⟨r0, rr1, rr2, rfz⟩ := HH.out
    have f0 := rfz 0
    have f1 := rfz 1
    have f2 := rfz 2
    have hrl9 := HH.out.lt
    clear rfz
    dsimp only
    go_wp2_with fail
    obtain ⟨d0, d1, d2, -⟩ := ((HH.out.set0 (.int .i64 0)).set1 (.slice none 0 0)).set2 (.slice none 0 0)
    have hEx : Ext w ((((w1.setCell ⟨w.heap.size + 1, 0, none⟩ (.int .i64 0)).setCell ⟨w.heap.size + 1, 1, none⟩ (.slice none 0 0)).setCell ⟨w.heap.size + 1, 2, none⟩ (.slice none 0 0))) := (((HE1.out.setCell (by simp) _).setCell (by simp) _).setCell (by simp) _)
    generalize (((w1.setCell ⟨w.heap.size + 1, 0, none⟩ (.int .i64 0)).setCell ⟨w.heap.size + 1, 1, none⟩ (.slice none 0 0)).setCell ⟨w.heap.size + 1, 2, none⟩ (.slice none 0 0)) = W2 at *
    refine bodyPost_ret (v := .tuple #[.agg #[.int .i64 0, .slice none 0 0, .slice none 0 0], .slice none 0 0, .int .i64 er]) ?_ rfl ?_
    · rw [results_cell_two rfl]
      go_simp
    · exact ⟨none, none, none, 0, 0, 0, rfl, fun w'' _ => ⟨⟨RU.nil _ _, RR.nil _ _⟩, RI.nil _ _⟩, hEx⟩
end Wt

/- Walk: filter.Transitive, all its ways. -/
namespace Wt
open Go Go.RowKit Go.Maps Go.Proofs Fm

set_option maxRecDepth 20000 in
set_option maxHeartbeats 8000000 in
theorem transitiveNo_any (M : Mo) (va ra : Option Addr) (vc rc : Nat) (fa : Option Addr) (fc : Nat) (f : List Nd) (w : World) (hT : Tab w) (hm : RM w va ra M) (hf : RN w fa f) (hl : lookErr M f = 0) (hat : M.rel.any (fun r => !hasB r 4) = true) :
    Calls Tryz.prog 17 #[.agg #[.int .i64 M.worlds, .slice va M.val.length vc, .slice ra M.rel.length rc], .slice fa f.length fc] w fun e w' => RetR ⟨0, [], []⟩ [] 12 e w w' := by
  have hE0 := ((Ext.refl w).alloc (.cells #[.int .i64 M.worlds, .slice va M.val.length vc, .slice ra M.rel.length rc] 25)).alloc (.cells #[.int .i64 0, .slice none 0 0, .slice none 0 0] 25)
  have hbx := (MoBox.new w M.worlds M.val M.rel va vc ra rc 25).ext ((Ext.refl _).alloc (.cells #[.int .i64 0, .slice none 0 0, .slice none 0 0] 25))
  have hr0 := OutAt.new1 w (.cells #[.int .i64 M.worlds, .slice va M.val.length vc, .slice ra M.rel.length rc] 25) (.int .i64 0) (.slice none 0 0) (.slice none 0 0) 25
  have HE := Lib.hid hE0
  have HT := Lib.hid (hT.ext hE0)
  have HM := Lib.hid (hm.ext hE0)
  have HF := Lib.hid (hf.ext hE0)
  have HB := Lib.hid hbx
  have HR := Lib.hid hr0
  have hs0 : ((w.alloc (.cells #[.int .i64 M.worlds, .slice va M.val.length vc, .slice ra M.rel.length rc] 25)).alloc (.cells #[.int .i64 0, .slice none 0 0, .slice none 0 0] 25)).heap.size = w.heap.size + 2 := by simp
  have HSZ := Lib.hid hs0
  obtain ⟨m0, m1, m2⟩ := hbx
  dsimp only at m0 m1 m2
  clear hE0 hf hm hr0 hs0 hT
  obtain ⟨N, vk⟩ := vok_of hl
  have HVK := Lib.hid vk
  have HL := Lib.hid hl
  have HC : Hid (filN M f = (List.range N).map (clsOf (subL M (rt f)) N)) := Lib.hid (by unfold filN; rw [if_pos hl, vk.nn])
  have HA : Hid (filLa M f true = filM M (fFacts (fCompact f)) (repL (subL M (rt f)) N) (permL (subL M (rt f)) (fCompact f) true)) := Lib.hid (by unfold filLa; rw [if_pos hl, vk.nn, vk.fx, vk.cc])
  have HLK : Hid (∀ W, RM W va ra M → RN W fa f → Calls Tryz.prog 28 #[.agg #[.int .i64 M.worlds, .slice va M.val.length vc, .slice ra M.rel.length rc], .slice fa f.length fc] W fun e w' => RetV5 M va ra vc rc f e W w') := Lib.hid fun W h1 h2 => look_any M va ra vc rc fa fc f W h1 h2 hl
  clear hl vk
  have HAT := Lib.hid hat
  have HCT : Hid (∀ W, Tab W → RR W ra M.rel → Calls Tryz.prog 41 #[.slice ra M.rel.length rc, .func (.func 42) #[] #[]] W fun e w' => e = .returned (.bool (M.rel.any fun r => !hasB r 4)) ∧ Ext W w') := Lib.hid fun W hTW hr => containsFunc_g 42 [] _ ra M.rel rc W hr cf_trans1 fun W2 a r c e hu => trans1_any r a c W2 (hTW.ext e) hu
  clear hat
  go_enter Tryz.func17, Tryz.ntmps17
  go_wp2_with fail
  generalize (w.alloc (.cells #[.int .i64 M.worlds, .slice va M.val.length vc, .slice ra M.rel.length rc] 25)).alloc (.cells #[.int .i64 0, .slice none 0 0, .slice none 0 0] 25) = w0 at *
  refine (HLK.out _ HM.out HF.out).mono ?_
  rintro _ w1 ⟨b, ca, sa, cc, sc, rfl, hb, hv, hn, hs, hE1⟩
  rw [HVK.out.vw.ok.worlds] at hv
  have HV := Lib.hid hv
  have HN := Lib.hid hn
  have HS := Lib.hid hs
  have HE1 := Lib.hid hE1
  clear hb hv hn hs hE1 m0 m1 m2
  obtain ⟨m0, m1, m2⟩ := HB.out.ext HE1.out
  have mlt := World.block_lt_of_cell? _ _ m0
  dsimp only at m0 m1 m2 mlt ⊢
  go_wp2_with fail
  have hE3 : Ext w1 (w1.alloc (.cells #[.pointer (some ⟨b, 0, none⟩)] 45)) := (Ext.refl w1).alloc _
  have hc3 : (w1.alloc (.cells #[.pointer (some ⟨b, 0, none⟩)] 45)).cell? ⟨w1.heap.size, 0, none⟩ = some (.pointer (some ⟨b, 0, none⟩)) := by simp
  have HC3 := Lib.hid hc3
  have HE3 := Lib.hid (HE1.out.trans hE3)
  have HEy := Lib.hid hE3
  clear hE3 hc3
  generalize w1.alloc (.cells #[.pointer (some ⟨b, 0, none⟩)] 45) = w3 at *
  refine (HCT.out _ ((HT.out.ext HE3.out)) (HM.out.rel.ext HE3.out)).mono ?_
  rintro _ w5 ⟨rfl, hE5⟩
  rw [HAT.out]
  have HE5 := Lib.hid ((HE.out.trans HE3.out).trans hE5)
  have HH := Lib.hid (HR.out.ext (HE3.out.trans hE5))
  clear hE5 m0 m1 m2 mlt
  obtain ⟨r0, rr1, rr2, rfz⟩ := HH.out
  have f0 := rfz 0
  have f1 := rfz 1
  have f2 := rfz 2
  have hrl9 := HH.out.lt
  clear rfz
  dsimp only
  go_wp2_with fail
  obtain ⟨d0, d1, d2, -⟩ := ((HH.out.set0 (.int .i64 0)).set1 (.slice none 0 0)).set2 (.slice none 0 0)
  have hEx : Ext w ((((w5.setCell ⟨w.heap.size + 1, 0, none⟩ (.int .i64 0)).setCell ⟨w.heap.size + 1, 1, none⟩ (.slice none 0 0)).setCell ⟨w.heap.size + 1, 2, none⟩ (.slice none 0 0))) := (((HE5.out.setCell (by simp) _).setCell (by simp) _).setCell (by simp) _)
  generalize (((w5.setCell ⟨w.heap.size + 1, 0, none⟩ (.int .i64 0)).setCell ⟨w.heap.size + 1, 1, none⟩ (.slice none 0 0)).setCell ⟨w.heap.size + 1, 2, none⟩ (.slice none 0 0)) = W2 at *
  refine bodyPost_ret (v := .tuple #[.agg #[.int .i64 0, .slice none 0 0, .slice none 0 0], .slice none 0 0, .int .i64 12]) ?_ rfl ?_
  · rw [results_cell_two rfl]
    go_simp
  · exact ⟨none, none, none, 0, 0, 0, rfl, fun w'' _ => ⟨⟨RU.nil _ _, RR.nil _ _⟩, RI.nil _ _⟩, hEx⟩
set_option maxRecDepth 20000 in
set_option maxHeartbeats 8000000 in
theorem transitiveErr_any (M : Mo) (va ra : Option Addr) (vc rc : Nat) (fa : Option Addr) (fc : Nat) (f : List Nd) (w : World) (hm : RM w va ra M) (hf : RN w fa f) (hl : lookErr M f ≠ 0) :
    Calls Tryz.prog 17 #[.agg #[.int .i64 M.worlds, .slice va M.val.length vc, .slice ra M.rel.length rc], .slice fa f.length fc] w fun e w' => RetR ⟨0, [], []⟩ [] (lookErr M f) e w w' := by
  have hE0 := ((Ext.refl w).alloc (.cells #[.int .i64 M.worlds, .slice va M.val.length vc, .slice ra M.rel.length rc] 25)).alloc (.cells #[.int .i64 0, .slice none 0 0, .slice none 0 0] 25)
  have hbx := (MoBox.new w M.worlds M.val M.rel va vc ra rc 25).ext ((Ext.refl _).alloc (.cells #[.int .i64 0, .slice none 0 0, .slice none 0 0] 25))
  have hr0 := OutAt.new1 w (.cells #[.int .i64 M.worlds, .slice va M.val.length vc, .slice ra M.rel.length rc] 25) (.int .i64 0) (.slice none 0 0) (.slice none 0 0) 25
  have HE := Lib.hid hE0
  have HM := Lib.hid (hm.ext hE0)
  have HF := Lib.hid (hf.ext hE0)
  have HB := Lib.hid hbx
  have HR := Lib.hid hr0
  have hs0 : ((w.alloc (.cells #[.int .i64 M.worlds, .slice va M.val.length vc, .slice ra M.rel.length rc] 25)).alloc (.cells #[.int .i64 0, .slice none 0 0, .slice none 0 0] 25)).heap.size = w.heap.size + 2 := by simp
  have HSZ := Lib.hid hs0
  obtain ⟨m0, m1, m2⟩ := hbx
  dsimp only at m0 m1 m2
  clear hE0 hf hm hr0 hs0
  have HLK : Hid (∀ W, RM W va ra M → RN W fa f → Calls Tryz.prog 28 #[.agg #[.int .i64 M.worlds, .slice va M.val.length vc, .slice ra M.rel.length rc], .slice fa f.length fc] W fun e w' => e = .returned (.tuple #[.pointer none, .int .i64 (lookErr M f)]) ∧ Ext W w') := Lib.hid fun W h1 h2 => lookNo_any M va ra vc rc fa fc f W h1 h2 hl
  have hq : (lookErr M f != 0) = true := by simpa using hl
  clear hl
  generalize hle : lookErr M f = er at *
  clear hle
  go_enter Tryz.func17, Tryz.ntmps17
  go_wp2_with fail
  generalize (w.alloc (.cells #[.int .i64 M.worlds, .slice va M.val.length vc, .slice ra M.rel.length rc] 25)).alloc (.cells #[.int .i64 0, .slice none 0 0, .slice none 0 0] 25) = w0 at *
  refine (HLK.out _ HM.out HF.out).mono ?_
  rintro _ w1 ⟨rfl, hE1⟩
  have HH := Lib.hid (HR.out.ext hE1)
  have HE1 := Lib.hid (HE.out.trans hE1)
  clear hE1 m0 m1 m2
  obtain ⟨r0, rr1, rr2, rfz⟩ := HH.out
  have f0 := rfz 0
  have f1 := rfz 1
  have f2 := rfz 2
  have hrl9 := HH.out.lt
  clear rfz
  dsimp only
  go_wp2_with fail
  obtain ⟨d0, d1, d2, -⟩ := (((HH.out.set0 (.int .i64 0)).set1 (.slice none 0 0)).set2 (.slice none 0 0)).ext ((Ext.refl _).alloc (.cells #[.pointer none] 45))
  have hEx : Ext w ((((w1.setCell ⟨w.heap.size + 1, 0, none⟩ (.int .i64 0)).setCell ⟨w.heap.size + 1, 1, none⟩ (.slice none 0 0)).setCell ⟨w.heap.size + 1, 2, none⟩ (.slice none 0 0)).alloc (.cells #[.pointer none] 45)) := (((HE1.out.setCell (by simp) _).setCell (by simp) _).setCell (by simp) _).alloc _
  generalize (((w1.setCell ⟨w.heap.size + 1, 0, none⟩ (.int .i64 0)).setCell ⟨w.heap.size + 1, 1, none⟩ (.slice none 0 0)).setCell ⟨w.heap.size + 1, 2, none⟩ (.slice none 0 0)).alloc (.cells #[.pointer none] 45) = W2 at *
  refine bodyPost_ret (v := .tuple #[.agg #[.int .i64 0, .slice none 0 0, .slice none 0 0], .slice none 0 0, .int .i64 er]) ?_ rfl ?_
  · rw [results_cell_two rfl]
    go_simp
  · exact ⟨none, none, none, 0, 0, 0, rfl, fun w'' _ => ⟨⟨RU.nil _ _, RR.nil _ _⟩, RI.nil _ _⟩, hEx⟩
theorem any_all {l : List (List (BitVec 64))} {p q : List (BitVec 64) → Bool} (h : ∀ k, k < l.length → p (nth l k) = q (nth l k)) : (l.any fun r => !p r) = !l.all q := by
  cases hq : l.all q
  · cases hp : l.any fun r => !p r
    · rw [List.any_eq_false] at hp
      rw [List.all_eq_false] at hq
      obtain ⟨x, hx, hx2⟩ := hq
      obtain ⟨k, hk, rfl⟩ := mem_nth hx
      have := hp _ hx
      rw [h k hk] at this
      simp at this
      exact absurd this hx2
    · rfl
  · rw [List.all_eq_true] at hq
    show _ = false
    rw [List.any_eq_false]
    intro x hx
    obtain ⟨k, hk, rfl⟩ := mem_nth hx
    rw [h k hk, hq _ hx]
    simp
theorem ftrans_any (M : Mo) (va ra : Option Addr) (vc rc : Nat) (fa : Option Addr) (fc : Nat) (f : List Nd) (w : World) (hT : Tab w) (hm : RM w va ra M) (hf : RN w fa f) :
    Calls Tryz.prog 17 #[.agg #[.int .i64 M.worlds, .slice va M.val.length vc, .slice ra M.rel.length rc], .slice fa f.length fc] w fun e w' => RetR (filTr M f) (natI (filTn M f)) (trE M f) e w w' := by
  by_cases hl : lookErr M f = 0
  · obtain ⟨N, vk⟩ := vok_of hl
    have he := any_all (l := M.rel) (p := fun r => hasB r 4) (q := traB) fun k hk => has4_eq (ok_rel vk.vw.ok hk)
    cases ht : M.rel.all traB
    · obtain ⟨t1, t2, t3⟩ := tr_no hl ht
      rw [t1, t2, t3]
      exact transitiveNo_any M va ra vc rc fa fc f w hT hm hf hl (by rw [he, ht]; rfl)
    · obtain ⟨t1, t2, t3⟩ := tr_yes hl ht
      rw [t1, t2, t3]
      have h := transitive_any M va ra vc rc fa fc f w hT hm hf hl (by rw [he, ht]; rfl)
      rw [hl] at h
      exact h
  · obtain ⟨t1, t2, t3⟩ := tr_err hl
    rw [t1, t2, t3]
    exact transitiveErr_any M va ra vc rc fa fc f w hm hf hl
end Wt

/- Walk: wittinglaw23.awake (printed by gen_aw23.py). -/
namespace Wt
open Go Go.RowKit Go.Maps Go.Proofs Fm

theorem RI.lit (w : World) (l : List Int) (cs : Array Value) (T : Nat) (h : cs = (l.map iv).toArray) (hl : l.length ≤ 1000) : RI (w.alloc (.cells cs T)) (some ⟨w.heap.size, 0, none⟩) l := by
  subst h
  refine ⟨by omega, fun k hk => ⟨w.heap.size, 0, rfl, ?_⟩⟩
  simp [iv, hk, nth_eq l k hk]
theorem agree_of_ext {B : Nat} {w' w'' : World} (e : Ext w' w'') : Agree B w' w'' := fun k _ hk => e.block k hk
theorem tr_tab : trE exF ex23P = 12 := by
  unfold trE
  rw [if_neg (by simp [aw_tab.1])]
  decide +kernel
/-- The example's model, spelt out. -/
def RetEx (e : Ending) (w w' : World) : Prop := ∃ va ra vc rc, e = .returned (.agg #[.int .i64 4, .slice va 1 vc, .slice ra 1 rc]) ∧ RM w' va ra exF ∧ Ext w w'
def RetF1 (l : List Nd) (n : Nat) (e : Ending) (w w' : World) : Prop := ∃ a c, e = .returned (.slice a n c) ∧ RN w' a l ∧ Ext w w'
def RetL1 (l : List Nat) (n : Nat) (c : Int) (e : Ending) (w w' : World) : Prop := ∃ a cp, e = .returned (.tuple #[.slice a n cp, .int .i64 c]) ∧ RI w' a (natI l) ∧ Ext w w'
def RetR1 (A : Mo) (W : Int) (x y z : Nat) (l : List Int) (c : Int) (e : Ending) (w w' : World) : Prop := ∃ va ra la vc rc lc, e = .returned (.tuple #[.agg #[.int .i64 W, .slice va x vc, .slice ra y rc], .slice la z lc, .int .i64 c]) ∧ RM w' va ra A ∧ RI w' la l ∧ Ext w w'
theorem RetR.r1 {A : Mo} {l : List Int} {c : Int} {e : Ending} {w w' : World} (h : RetR A l c e w w') : RetR1 A A.worlds A.val.length A.rel.length l.length l c e w w' := by
  obtain ⟨va, ra, la, vc, rc, lc, h1, h2, h3⟩ := h
  exact ⟨va, ra, la, vc, rc, lc, h1, (h2 w' (fun _ _ _ => rfl)).1, (h2 w' (fun _ _ _ => rfl)).2, h3⟩
theorem awt9 : lookErr exF ex23P = 0 ∧ lookErr exF ex23Q = 0 ∧ filC exF ex23P = [0, 0, 2, 3] ∧ filN exF ex23P = [0, 0, 1, 2] ∧ ex23P.length = 2 ∧ ex23Q.length = 1 ∧ filN exF ex23Q = [0, 0, 0, 1] := by
  refine ⟨aw_tab.1, aw_tab.2.1, aw_tab.2.2.1, aw_tab.2.2.2.1, ?_, ?_, ?_⟩ <;> decide +kernel
set_option maxRecDepth 20000 in
set_option maxHeartbeats 8000000 in
theorem awake23_any (w : World) (hT : Tab w) : Calls Tryz.prog 8 #[] w fun e w' => e = .returned (.bool true) ∧ Ext w w' := by
  have XF : Hid (∀ W, Calls Tryz.prog 24 #[.int .i64 0] W fun e w' => RetF1 ex23Q 1 e W w') := Lib.hid fun W => by
    have h := cFact_any 0 W
    exact h
  have XP : Hid (∀ W fa fc, RN W fa ex23Q → Calls Tryz.prog 25 #[.int .i64 0, .slice fa 1 fc] W fun e w' => RetF1 ex23P 2 e W w') := Lib.hid fun W fa fc h => by
    have h := cPoss_any 0 fa fc ex23Q W h
    exact h
  have XE : Hid (∀ W, Calls Tryz.prog 26 #[] W fun e w' => RetEx e W w') := Lib.hid fun W => example23_any W
  have XC : Hid (∀ W va ra vc rc fa fc, Tab W → RM W va ra exF → RN W fa ex23P → Calls Tryz.prog 9 #[.agg #[.int .i64 4, .slice va 1 vc, .slice ra 1 rc], .slice fa 2 fc] W fun e w' => RetL1 [0, 0, 2, 3] 4 0 e W w') := Lib.hid fun W va ra vc rc fa fc hT hm hf => by
    have h := fClasses_any exF va ra vc rc fa fc ex23P W hm hf
    rw [awt9.1, awt9.2.2.1] at h
    exact h
  have X1 : Hid (∀ W va ra vc rc fa fc, Tab W → RM W va ra exF → RN W fa ex23P → Calls Tryz.prog 12 #[.agg #[.int .i64 4, .slice va 1 vc, .slice ra 1 rc], .slice fa 2 fc] W fun e w' => RetR1 ⟨3, [4#64], [[3#64, 4#64, 0#64]]⟩ 3 1 1 4 (natI [0, 0, 1, 2]) 0 e W w') := Lib.hid fun W va ra vc rc fa fc hT hm hf => by
    have h := (smallest_any exF va ra vc rc fa fc ex23P W hm hf).mono fun _ _ hr => hr.r1
    rw [awt9.1, aw_tab.2.2.2.2.1, awt9.2.2.2.1] at h
    exact h
  have X2 : Hid (∀ W va ra vc rc fa fc, Tab W → RM W va ra exF → RN W fa ex23P → Calls Tryz.prog 15 #[.agg #[.int .i64 4, .slice va 1 vc, .slice ra 1 rc], .slice fa 2 fc] W fun e w' => RetR1 ⟨3, [4#64], [[3#64, 7#64, 3#64]]⟩ 3 1 1 4 (natI [0, 0, 1, 2]) 0 e W w') := Lib.hid fun W va ra vc rc fa fc hT hm hf => by
    have h := (largest_any exF va ra vc rc fa fc ex23P W hm hf).mono fun _ _ hr => hr.r1
    rw [awt9.1, aw_tab.2.2.2.2.2.1, awt9.2.2.2.1] at h
    exact h
  have X3 : Hid (∀ W va ra vc rc fa fc, Tab W → RM W va ra exF → RN W fa ex23Q → Calls Tryz.prog 12 #[.agg #[.int .i64 4, .slice va 1 vc, .slice ra 1 rc], .slice fa 1 fc] W fun e w' => RetR1 ⟨2, [2#64], [[3#64, 0#64]]⟩ 2 1 1 4 (natI [0, 0, 0, 1]) 0 e W w') := Lib.hid fun W va ra vc rc fa fc hT hm hf => by
    have h := (smallest_any exF va ra vc rc fa fc ex23Q W hm hf).mono fun _ _ hr => hr.r1
    rw [awt9.2.1, aw_tab.2.2.2.2.2.2.1, awt9.2.2.2.2.2.2] at h
    exact h
  have X4 : Hid (∀ W va ra vc rc fa fc, Tab W → RM W va ra exF → RN W fa ex23Q → Calls Tryz.prog 15 #[.agg #[.int .i64 4, .slice va 1 vc, .slice ra 1 rc], .slice fa 1 fc] W fun e w' => RetR1 ⟨2, [2#64], [[3#64, 3#64]]⟩ 2 1 1 4 (natI [0, 0, 0, 1]) 0 e W w') := Lib.hid fun W va ra vc rc fa fc hT hm hf => by
    have h := (largest_any exF va ra vc rc fa fc ex23Q W hm hf).mono fun _ _ hr => hr.r1
    rw [awt9.2.1, aw_tab.2.2.2.2.2.2.2, awt9.2.2.2.2.2.2] at h
    exact h
  have X5 : Hid (∀ W va ra vc rc fa fc, Tab W → RM W va ra exF → RN W fa ex23P → Calls Tryz.prog 17 #[.agg #[.int .i64 4, .slice va 1 vc, .slice ra 1 rc], .slice fa 2 fc] W fun e w' => RetR1 ⟨0, [], []⟩ 0 0 0 0 [] 12 e W w') := Lib.hid fun W va ra vc rc fa fc hT hm hf => by
    have h := (ftrans_any exF va ra vc rc fa fc ex23P W hT hm hf).mono fun _ _ hr => hr.r1
    rw [tr_tab, show filTr exF ex23P = ⟨0, [], []⟩ from if_neg (by rw [tr_tab]; decide), show filTn exF ex23P = [] from if_neg (by rw [tr_tab]; decide)] at h
    exact h
  have HT := Lib.hid hT
  clear hT
  go_enter Tryz.func8, Tryz.ntmps8
  go_wp2_with fail
  refine (XF.out _).mono ?_
  rintro _ w1 ⟨pa, pc, rfl, hp, hE1⟩
  have HP := Lib.hid hp
  have HE1 := Lib.hid hE1
  clear hp hE1
  dsimp only
  go_wp2_with fail
  refine (XP.out _ pa pc HP.out).mono ?_
  rintro _ w2 ⟨fa, fc, rfl, hf, hE2⟩
  have HF := Lib.hid hf
  have HP2 := Lib.hid (HP.out.ext hE2)
  have HE2 := Lib.hid (HE1.out.trans hE2)
  clear hf hE2 HP
  dsimp only
  have HE_w2 := HE2
  have HF_w2 := HF
  have HP_w2 := HP2
  have HK_w2 : Hid True := trivial
  clear HE2 HF HP2
  go_wp2_with fail
  refine (XE.out _).mono ?_
  rintro _ a0 ⟨va, ra, vc, rc, rfl, hm, hE⟩
  have HM := Lib.hid hm
  have HE := Lib.hid hE
  clear hm hE
  dsimp only
  go_wp2_with fail
  refine (XC.out _ va ra vc rc fa fc (HT.out.ext (HE_w2.out.trans HE.out)) HM.out (HF_w2.out.ext HE.out)).mono ?_
  rintro _ b0 ⟨la0, lc0, rfl, hl, hE9⟩
  have HL0 := Lib.hid hl
  have HX : Hid (Ext w2 b0) := Lib.hid (HE.out.trans hE9)
  clear hl hE9
  dsimp only
  have HE_b0 := Lib.hid (HE_w2.out.trans HX.out)
  have HF_b0 := Lib.hid (HF_w2.out.ext HX.out)
  have HP_b0 := Lib.hid (HP_w2.out.ext HX.out)
  clear HE HM HX HE_w2 HF_w2 HP_w2
  have HL0_b0 := HL0
  clear HL0
  go_wp2_with fail
  refine (XE.out _).mono ?_
  rintro _ a1 ⟨va, ra, vc, rc, rfl, hm, hE⟩
  have HM := Lib.hid hm
  have HE := Lib.hid hE
  clear hm hE
  dsimp only
  go_wp2_with fail
  refine (X1.out _ va ra vc rc fa fc (HT.out.ext (HE_b0.out.trans HE.out)) HM.out (HF_b0.out.ext HE.out)).mono ?_
  rintro _ b10 ⟨va1, ra1, la1, vc1, rc1, lc1, rfl, hm, hl, hE9⟩
  have hA : Ext b10 (b10.alloc (.cells #[.int .i64 3, .slice va1 1 vc1, .slice ra1 1 rc1] 25)) := (Ext.refl _).alloc _
  have HM1 := Lib.hid (hm.ext hA)
  have HL1 := Lib.hid (hl.ext hA)
  have HO1 := Lib.hid (OutAt.new b10 (.int .i64 3) (.slice va1 1 vc1) (.slice ra1 1 rc1) 25)
  have HX : Hid (Ext b0 (b10.alloc (.cells #[.int .i64 3, .slice va1 1 vc1, .slice ra1 1 rc1] 25))) := Lib.hid ((HE.out.trans hE9).trans hA)
  clear hm hl hE9 hA
  dsimp only
  go_wp2_with fail
  generalize hb : b10.alloc (.cells #[.int .i64 3, .slice va1 1 vc1, .slice ra1 1 rc1] 25) = b1 at *
  clear hb
  have HE_b1 := Lib.hid (HE_b0.out.trans HX.out)
  have HF_b1 := Lib.hid (HF_b0.out.ext HX.out)
  have HP_b1 := Lib.hid (HP_b0.out.ext HX.out)
  have HL0_b1 := Lib.hid (HL0_b0.out.ext HX.out)
  clear HE HM HX HE_b0 HF_b0 HP_b0 HL0_b0
  have HM1_b1 := HM1
  have HL1_b1 := HL1
  have HO1_b1 := HO1
  clear HM1 HL1 HO1
  go_wp2_with fail
  refine (XE.out _).mono ?_
  rintro _ a2 ⟨va, ra, vc, rc, rfl, hm, hE⟩
  have HM := Lib.hid hm
  have HE := Lib.hid hE
  clear hm hE
  dsimp only
  go_wp2_with fail
  refine (X2.out _ va ra vc rc fa fc (HT.out.ext (HE_b1.out.trans HE.out)) HM.out (HF_b1.out.ext HE.out)).mono ?_
  rintro _ b20 ⟨va2, ra2, la2, vc2, rc2, lc2, rfl, hm, hl, hE9⟩
  have hA : Ext b20 (b20.alloc (.cells #[.int .i64 3, .slice va2 1 vc2, .slice ra2 1 rc2] 25)) := (Ext.refl _).alloc _
  have HM2 := Lib.hid (hm.ext hA)
  have HL2 := Lib.hid (hl.ext hA)
  have HO2 := Lib.hid (OutAt.new b20 (.int .i64 3) (.slice va2 1 vc2) (.slice ra2 1 rc2) 25)
  have HX : Hid (Ext b1 (b20.alloc (.cells #[.int .i64 3, .slice va2 1 vc2, .slice ra2 1 rc2] 25))) := Lib.hid ((HE.out.trans hE9).trans hA)
  clear hm hl hE9 hA
  dsimp only
  go_wp2_with fail
  generalize hb : b20.alloc (.cells #[.int .i64 3, .slice va2 1 vc2, .slice ra2 1 rc2] 25) = b2 at *
  clear hb
  have HE_b2 := Lib.hid (HE_b1.out.trans HX.out)
  have HF_b2 := Lib.hid (HF_b1.out.ext HX.out)
  have HP_b2 := Lib.hid (HP_b1.out.ext HX.out)
  have HL0_b2 := Lib.hid (HL0_b1.out.ext HX.out)
  have HM1_b2 := Lib.hid (HM1_b1.out.ext HX.out)
  have HL1_b2 := Lib.hid (HL1_b1.out.ext HX.out)
  have HO1_b2 := Lib.hid (HO1_b1.out.ext HX.out)
  clear HE HM HX HE_b1 HF_b1 HP_b1 HL0_b1 HM1_b1 HL1_b1 HO1_b1
  have HM2_b2 := HM2
  have HL2_b2 := HL2
  have HO2_b2 := HO2
  clear HM2 HL2 HO2
  go_wp2_with fail
  refine (XE.out _).mono ?_
  rintro _ a3 ⟨va, ra, vc, rc, rfl, hm, hE⟩
  have HM := Lib.hid hm
  have HE := Lib.hid hE
  clear hm hE
  dsimp only
  go_wp2_with fail
  refine (X3.out _ va ra vc rc pa pc (HT.out.ext (HE_b2.out.trans HE.out)) HM.out (HP_b2.out.ext HE.out)).mono ?_
  rintro _ b30 ⟨va3, ra3, la3, vc3, rc3, lc3, rfl, hm, hl, hE9⟩
  have hA : Ext b30 (b30.alloc (.cells #[.int .i64 2, .slice va3 1 vc3, .slice ra3 1 rc3] 25)) := (Ext.refl _).alloc _
  have HM3 := Lib.hid (hm.ext hA)
  have HL3 := Lib.hid (hl.ext hA)
  have HO3 := Lib.hid (OutAt.new b30 (.int .i64 2) (.slice va3 1 vc3) (.slice ra3 1 rc3) 25)
  have HX : Hid (Ext b2 (b30.alloc (.cells #[.int .i64 2, .slice va3 1 vc3, .slice ra3 1 rc3] 25))) := Lib.hid ((HE.out.trans hE9).trans hA)
  clear hm hl hE9 hA
  dsimp only
  go_wp2_with fail
  generalize hb : b30.alloc (.cells #[.int .i64 2, .slice va3 1 vc3, .slice ra3 1 rc3] 25) = b3 at *
  clear hb
  have HE_b3 := Lib.hid (HE_b2.out.trans HX.out)
  have HF_b3 := Lib.hid (HF_b2.out.ext HX.out)
  have HP_b3 := Lib.hid (HP_b2.out.ext HX.out)
  have HL0_b3 := Lib.hid (HL0_b2.out.ext HX.out)
  have HM1_b3 := Lib.hid (HM1_b2.out.ext HX.out)
  have HL1_b3 := Lib.hid (HL1_b2.out.ext HX.out)
  have HO1_b3 := Lib.hid (HO1_b2.out.ext HX.out)
  have HM2_b3 := Lib.hid (HM2_b2.out.ext HX.out)
  have HL2_b3 := Lib.hid (HL2_b2.out.ext HX.out)
  have HO2_b3 := Lib.hid (HO2_b2.out.ext HX.out)
  clear HE HM HX HE_b2 HF_b2 HP_b2 HL0_b2 HM1_b2 HL1_b2 HO1_b2 HM2_b2 HL2_b2 HO2_b2
  have HM3_b3 := HM3
  have HL3_b3 := HL3
  have HO3_b3 := HO3
  clear HM3 HL3 HO3
  go_wp2_with fail
  refine (XE.out _).mono ?_
  rintro _ a4 ⟨va, ra, vc, rc, rfl, hm, hE⟩
  have HM := Lib.hid hm
  have HE := Lib.hid hE
  clear hm hE
  dsimp only
  go_wp2_with fail
  refine (X4.out _ va ra vc rc pa pc (HT.out.ext (HE_b3.out.trans HE.out)) HM.out (HP_b3.out.ext HE.out)).mono ?_
  rintro _ b40 ⟨va4, ra4, la4, vc4, rc4, lc4, rfl, hm, hl, hE9⟩
  have hA : Ext b40 (b40.alloc (.cells #[.int .i64 2, .slice va4 1 vc4, .slice ra4 1 rc4] 25)) := (Ext.refl _).alloc _
  have HM4 := Lib.hid (hm.ext hA)
  have HL4 := Lib.hid (hl.ext hA)
  have HO4 := Lib.hid (OutAt.new b40 (.int .i64 2) (.slice va4 1 vc4) (.slice ra4 1 rc4) 25)
  have HX : Hid (Ext b3 (b40.alloc (.cells #[.int .i64 2, .slice va4 1 vc4, .slice ra4 1 rc4] 25))) := Lib.hid ((HE.out.trans hE9).trans hA)
  clear hm hl hE9 hA
  dsimp only
  go_wp2_with fail
  generalize hb : b40.alloc (.cells #[.int .i64 2, .slice va4 1 vc4, .slice ra4 1 rc4] 25) = b4 at *
  clear hb
  have HE_b4 := Lib.hid (HE_b3.out.trans HX.out)
  have HF_b4 := Lib.hid (HF_b3.out.ext HX.out)
  have HP_b4 := Lib.hid (HP_b3.out.ext HX.out)
  have HL0_b4 := Lib.hid (HL0_b3.out.ext HX.out)
  have HM1_b4 := Lib.hid (HM1_b3.out.ext HX.out)
  have HL1_b4 := Lib.hid (HL1_b3.out.ext HX.out)
  have HO1_b4 := Lib.hid (HO1_b3.out.ext HX.out)
  have HM2_b4 := Lib.hid (HM2_b3.out.ext HX.out)
  have HL2_b4 := Lib.hid (HL2_b3.out.ext HX.out)
  have HO2_b4 := Lib.hid (HO2_b3.out.ext HX.out)
  have HM3_b4 := Lib.hid (HM3_b3.out.ext HX.out)
  have HL3_b4 := Lib.hid (HL3_b3.out.ext HX.out)
  have HO3_b4 := Lib.hid (HO3_b3.out.ext HX.out)
  clear HE HM HX HE_b3 HF_b3 HP_b3 HL0_b3 HM1_b3 HL1_b3 HO1_b3 HM2_b3 HL2_b3 HO2_b3 HM3_b3 HL3_b3 HO3_b3
  have HM4_b4 := HM4
  have HL4_b4 := HL4
  have HO4_b4 := HO4
  clear HM4 HL4 HO4
  go_wp2_with fail
  refine (XE.out _).mono ?_
  rintro _ a5 ⟨va, ra, vc, rc, rfl, hm, hE⟩
  have HM := Lib.hid hm
  have HE := Lib.hid hE
  clear hm hE
  dsimp only
  go_wp2_with fail
  refine (X5.out _ va ra vc rc fa fc (HT.out.ext (HE_b4.out.trans HE.out)) HM.out (HF_b4.out.ext HE.out)).mono ?_
  rintro _ b50 ⟨va5, ra5, la5, vc5, rc5, lc5, rfl, hm, hl, hE9⟩
  have hA : Ext b50 (b50.alloc (.cells #[.int .i64 0, .slice va5 0 vc5, .slice ra5 0 rc5] 25)) := (Ext.refl _).alloc _
  have HM5 := Lib.hid (hm.ext hA)
  have HL5 := Lib.hid (hl.ext hA)
  have HO5 := Lib.hid (OutAt.new b50 (.int .i64 0) (.slice va5 0 vc5) (.slice ra5 0 rc5) 25)
  have HX : Hid (Ext b4 (b50.alloc (.cells #[.int .i64 0, .slice va5 0 vc5, .slice ra5 0 rc5] 25))) := Lib.hid ((HE.out.trans hE9).trans hA)
  clear hm hl hE9 hA
  dsimp only
  have HS5 : Hid ((b50.alloc (.cells #[.int .i64 0, .slice va5 0 vc5, .slice ra5 0 rc5] 25)).heap.size = b50.heap.size + 1) := Lib.hid (by simp)
  go_wp2_with fail
  generalize hb : b50.alloc (.cells #[.int .i64 0, .slice va5 0 vc5, .slice ra5 0 rc5] 25) = b5 at *
  clear hb
  have HE_b5 := Lib.hid (HE_b4.out.trans HX.out)
  have HF_b5 := Lib.hid (HF_b4.out.ext HX.out)
  have HP_b5 := Lib.hid (HP_b4.out.ext HX.out)
  have HL0_b5 := Lib.hid (HL0_b4.out.ext HX.out)
  have HM1_b5 := Lib.hid (HM1_b4.out.ext HX.out)
  have HL1_b5 := Lib.hid (HL1_b4.out.ext HX.out)
  have HO1_b5 := Lib.hid (HO1_b4.out.ext HX.out)
  have HM2_b5 := Lib.hid (HM2_b4.out.ext HX.out)
  have HL2_b5 := Lib.hid (HL2_b4.out.ext HX.out)
  have HO2_b5 := Lib.hid (HO2_b4.out.ext HX.out)
  have HM3_b5 := Lib.hid (HM3_b4.out.ext HX.out)
  have HL3_b5 := Lib.hid (HL3_b4.out.ext HX.out)
  have HO3_b5 := Lib.hid (HO3_b4.out.ext HX.out)
  have HM4_b5 := Lib.hid (HM4_b4.out.ext HX.out)
  have HL4_b5 := Lib.hid (HL4_b4.out.ext HX.out)
  have HO4_b5 := Lib.hid (HO4_b4.out.ext HX.out)
  clear HE HM HX HE_b4 HF_b4 HP_b4 HL0_b4 HM1_b4 HL1_b4 HO1_b4 HM2_b4 HL2_b4 HO2_b4 HM3_b4 HL3_b4 HO3_b4 HM4_b4 HL4_b4 HO4_b4
  have HM5_b5 := HM5
  have HL5_b5 := HL5
  have HO5_b5 := HO5
  clear HM5 HL5 HO5
  have HZ_b5 : Hid (Ext b5 b5) := Lib.hid (Ext.refl _)
  refine (r23Same_any [0, 0, 2, 3] la0 (some ⟨b50.heap.size + 1, 0, none⟩) lc0 4 (b5.alloc (.cells #[.int .i64 0, .int .i64 0, .int .i64 2, .int .i64 3] 3)) (HL0_b5.out.ext (HZ_b5.out.alloc _)) (by have h := RI.lit b5 (natI [0, 0, 2, 3]) #[.int .i64 0, .int .i64 0, .int .i64 2, .int .i64 3] 3 rfl (by decide); rw [HS5.out] at h; exact h)).mono ?_
  rintro _ d0 ⟨rfl, hE⟩
  have HZ_d0 : Hid (Ext b5 d0) := Lib.hid ((HZ_b5.out.alloc _).trans hE)
  clear hE
  dsimp only
  go_wp2_with fail
  refine (r23Same_any [0, 0, 1, 2] la1 (some ⟨d0.heap.size, 0, none⟩) lc1 4 (d0.alloc (.cells #[.int .i64 0, .int .i64 0, .int .i64 1, .int .i64 2] 3)) (HL1_b5.out.ext (HZ_d0.out.alloc _)) (RI.lit d0 (natI [0, 0, 1, 2]) #[.int .i64 0, .int .i64 0, .int .i64 1, .int .i64 2] 3 rfl (by decide))).mono ?_
  rintro _ d1 ⟨rfl, hE⟩
  have HZ_d1 : Hid (Ext b5 d1) := Lib.hid ((HZ_d0.out.alloc _).trans hE)
  clear hE
  dsimp only
  obtain ⟨o0, o1, o2, -⟩ := HO1_b5.out.ext HZ_d1.out
  have ol := (HO1_b5.out.ext HZ_d1.out).lt
  go_wp2_with fail
  clear o0 o1 o2 ol
  refine (has23_any 3 4#64 [3#64, 4#64, 0#64] va1 ra1 (some ⟨d1.heap.size, 0, none⟩) vc1 rc1 3 (d1.alloc (.cells #[.int .u64 3, .int .u64 4, .int .u64 0] 39)) (HM1_b5.out.ext (HZ_d1.out.alloc _)) (RU.lit d1 [3#64, 4#64, 0#64] #[.int .u64 3, .int .u64 4, .int .u64 0] 39 rfl (by decide))).mono ?_
  rintro _ d2 ⟨rfl, hE⟩
  have HZ_d2 : Hid (Ext b5 d2) := Lib.hid ((HZ_d1.out.alloc _).trans hE)
  clear hE
  dsimp only
  obtain ⟨o0, o1, o2, -⟩ := HO2_b5.out.ext HZ_d2.out
  have ol := (HO2_b5.out.ext HZ_d2.out).lt
  go_wp2_with fail
  clear o0 o1 o2 ol
  refine (has23_any 3 4#64 [3#64, 7#64, 3#64] va2 ra2 (some ⟨d2.heap.size, 0, none⟩) vc2 rc2 3 (d2.alloc (.cells #[.int .u64 3, .int .u64 7, .int .u64 3] 39)) (HM2_b5.out.ext (HZ_d2.out.alloc _)) (RU.lit d2 [3#64, 7#64, 3#64] #[.int .u64 3, .int .u64 7, .int .u64 3] 39 rfl (by decide))).mono ?_
  rintro _ d3 ⟨rfl, hE⟩
  have HZ_d3 : Hid (Ext b5 d3) := Lib.hid ((HZ_d2.out.alloc _).trans hE)
  clear hE
  dsimp only
  obtain ⟨o0, o1, o2, -⟩ := HO3_b5.out.ext HZ_d3.out
  have ol := (HO3_b5.out.ext HZ_d3.out).lt
  go_wp2_with fail
  clear o0 o1 o2 ol
  refine (has23_any 2 2#64 [3#64, 0#64] va3 ra3 (some ⟨d3.heap.size, 0, none⟩) vc3 rc3 2 (d3.alloc (.cells #[.int .u64 3, .int .u64 0] 39)) (HM3_b5.out.ext (HZ_d3.out.alloc _)) (RU.lit d3 [3#64, 0#64] #[.int .u64 3, .int .u64 0] 39 rfl (by decide))).mono ?_
  rintro _ d4 ⟨rfl, hE⟩
  have HZ_d4 : Hid (Ext b5 d4) := Lib.hid ((HZ_d3.out.alloc _).trans hE)
  clear hE
  dsimp only
  obtain ⟨o0, o1, o2, -⟩ := HO4_b5.out.ext HZ_d4.out
  have ol := (HO4_b5.out.ext HZ_d4.out).lt
  go_wp2_with fail
  clear o0 o1 o2 ol
  refine (has23_any 2 2#64 [3#64, 3#64] va4 ra4 (some ⟨d4.heap.size, 0, none⟩) vc4 rc4 2 (d4.alloc (.cells #[.int .u64 3, .int .u64 3] 39)) (HM4_b5.out.ext (HZ_d4.out.alloc _)) (RU.lit d4 [3#64, 3#64] #[.int .u64 3, .int .u64 3] 39 rfl (by decide))).mono ?_
  rintro _ d5 ⟨rfl, hE⟩
  have HZ_d5 : Hid (Ext b5 d5) := Lib.hid ((HZ_d4.out.alloc _).trans hE)
  clear hE
  dsimp only
  go_wp2_with fail
  go_ret
  exact ⟨rfl, HE_b5.out.trans HZ_d5.out⟩
end Wt
