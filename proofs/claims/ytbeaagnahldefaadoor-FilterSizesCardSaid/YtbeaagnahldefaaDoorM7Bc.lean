/- Walk: filter.Transitive, all its ways. -/
import Derived.Test.YtbeaagnahldefaaDoorM7Bb
import Derived.Test.YtbeaagnahldefaaDoorM7Ba
import Derived.Test.YtbeaagnahldefaaDoorM7Am
namespace Wt
open Go Go.RowKit Go.Maps Go.Proofs Fm

set_option maxRecDepth 20000 in
set_option maxHeartbeats 8000000 in
theorem transitiveNo_any (M : Mo) (va ra : Option Addr) (vc rc : Nat) (fa : Option Addr) (fc : Nat) (f : List Nd) (w : World) (hT : Tab w) (hm : RM w va ra M) (hf : RN w fa f) (hl : lookErr M f = 0) (hat : M.rel.any (fun r => !hasB r 4) = true) :
    Calls Tryd.prog 13 #[.agg #[.int .i64 M.worlds, .slice va M.val.length vc, .slice ra M.rel.length rc], .slice fa f.length fc] w fun e w' => RetR ⟨0, [], []⟩ [] 12 e w w' := by
  have hE0 := ((Ext.refl w).alloc (.cells #[.int .i64 M.worlds, .slice va M.val.length vc, .slice ra M.rel.length rc] 25)).alloc (.cells #[.int .i64 0, .slice none 0 0, .slice none 0 0] 25)
  have hbx := (MoBox.new w M.worlds M.val M.rel va vc ra rc 25).ext ((Ext.refl _).alloc (.cells #[.int .i64 0, .slice none 0 0, .slice none 0 0] 25))
  have hr0 := OutAt.new1 w (.cells #[.int .i64 M.worlds, .slice va M.val.length vc, .slice ra M.rel.length rc] 25) (.int .i64 0) (.slice none 0 0) (.slice none 0 0) 25
  have HE := Lib.hid hE0
  have HT := Lib.hid (hT.ext hE0)
  have HM := Lib.hid (hm.ext hE0)
  have HF := Lib.hid (hf.ext hE0)
  have HB := Lib.hid hbx
  have HR := Lib.hid hr0
  have hs0 : ((w.alloc (.cells #[.int .i64 M.worlds, .slice va M.val.length vc, .slice ra M.rel.length rc] 25)).alloc (.cells #[.int .i64 0, .slice none 0 0, .slice none 0 0] 25)).heap.size = w.heap.size + 2 := by simp
  have HSZ := Lib.hid hs0
  obtain ⟨m0, m1, m2⟩ := hbx
  dsimp only at m0 m1 m2
  clear hE0 hf hm hr0 hs0 hT
  obtain ⟨N, vk⟩ := vok_of hl
  have HVK := Lib.hid vk
  have HL := Lib.hid hl
  have HC : Hid (filN M f = (List.range N).map (clsOf (subL M (rt f)) N)) := Lib.hid (by unfold filN; rw [if_pos hl, vk.nn])
  have HA : Hid (filLa M f true = filM M (fFacts (fCompact f)) (repL (subL M (rt f)) N) (permL (subL M (rt f)) (fCompact f) true)) := Lib.hid (by unfold filLa; rw [if_pos hl, vk.nn, vk.fx, vk.cc])
  have HLK : Hid (∀ W, RM W va ra M → RN W fa f → Calls Tryd.prog 30 #[.agg #[.int .i64 M.worlds, .slice va M.val.length vc, .slice ra M.rel.length rc], .slice fa f.length fc] W fun e w' => RetV5 M va ra vc rc f e W w') := Lib.hid fun W h1 h2 => look_any M va ra vc rc fa fc f W h1 h2 hl
  clear hl vk
  have HAT := Lib.hid hat
  have HCT : Hid (∀ W, Tab W → RR W ra M.rel → Calls Tryd.prog 38 #[.slice ra M.rel.length rc, .func (.func 39) #[] #[]] W fun e w' => e = .returned (.bool (M.rel.any fun r => !hasB r 4)) ∧ Ext W w') := Lib.hid fun W hTW hr => containsFunc_g 39 [] _ ra M.rel rc W hr cf_trans1 fun W2 a r c e hu => trans1_any r a c W2 (hTW.ext e) hu
  clear hat
  go_enter Tryd.func13, Tryd.ntmps13
  go_wp2_with fail
  generalize (w.alloc (.cells #[.int .i64 M.worlds, .slice va M.val.length vc, .slice ra M.rel.length rc] 25)).alloc (.cells #[.int .i64 0, .slice none 0 0, .slice none 0 0] 25) = w0 at *
  refine (HLK.out _ HM.out HF.out).mono ?_
  rintro _ w1 ⟨b, ca, sa, cc, sc, rfl, hb, hv, hn, hs, hE1⟩
  rw [HVK.out.vw.ok.worlds] at hv
  have HV := Lib.hid hv
  have HN := Lib.hid hn
  have HS := Lib.hid hs
  have HE1 := Lib.hid hE1
  clear hb hv hn hs hE1 m0 m1 m2
  obtain ⟨m0, m1, m2⟩ := HB.out.ext HE1.out
  have mlt := World.block_lt_of_cell? _ _ m0
  dsimp only at m0 m1 m2 mlt ⊢
  go_wp2_with fail
  have hE3 : Ext w1 (w1.alloc (.cells #[.pointer (some ⟨b, 0, none⟩)] 57)) := (Ext.refl w1).alloc _
  have hc3 : (w1.alloc (.cells #[.pointer (some ⟨b, 0, none⟩)] 57)).cell? ⟨w1.heap.size, 0, none⟩ = some (.pointer (some ⟨b, 0, none⟩)) := by simp
  have HC3 := Lib.hid hc3
  have HE3 := Lib.hid (HE1.out.trans hE3)
  have HEy := Lib.hid hE3
  clear hE3 hc3
  generalize w1.alloc (.cells #[.pointer (some ⟨b, 0, none⟩)] 57) = w3 at *
  refine (HCT.out _ ((HT.out.ext HE3.out)) (HM.out.rel.ext HE3.out)).mono ?_
  rintro _ w5 ⟨rfl, hE5⟩
  rw [HAT.out]
  have HE5 := Lib.hid ((HE.out.trans HE3.out).trans hE5)
  have HH := Lib.hid (HR.out.ext (HE3.out.trans hE5))
  clear hE5 m0 m1 m2 mlt
  obtain ⟨r0, rr1, rr2, rfz⟩ := HH.out
  have f0 := rfz 0
  have f1 := rfz 1
  have f2 := rfz 2
  have hrl9 := HH.out.lt
  clear rfz
  dsimp only
  go_wp2_with fail
  obtain ⟨d0, d1, d2, -⟩ := ((HH.out.set0 (.int .i64 0)).set1 (.slice none 0 0)).set2 (.slice none 0 0)
  have hEx : Ext w ((((w5.setCell ⟨w.heap.size + 1, 0, none⟩ (.int .i64 0)).setCell ⟨w.heap.size + 1, 1, none⟩ (.slice none 0 0)).setCell ⟨w.heap.size + 1, 2, none⟩ (.slice none 0 0))) := (((HE5.out.setCell (by simp) _).setCell (by simp) _).setCell (by simp) _)
  generalize (((w5.setCell ⟨w.heap.size + 1, 0, none⟩ (.int .i64 0)).setCell ⟨w.heap.size + 1, 1, none⟩ (.slice none 0 0)).setCell ⟨w.heap.size + 1, 2, none⟩ (.slice none 0 0)) = W2 at *
  refine bodyPost_ret (v := .tuple #[.agg #[.int .i64 0, .slice none 0 0, .slice none 0 0], .slice none 0 0, .int .i64 12]) ?_ rfl ?_
  · rw [results_cell_two rfl]
    go_simp
  · exact ⟨none, none, none, 0, 0, 0, rfl, fun w'' _ => ⟨⟨RU.nil _ _, RR.nil _ _⟩, RI.nil _ _⟩, hEx⟩
set_option maxRecDepth 20000 in
set_option maxHeartbeats 8000000 in
theorem transitiveErr_any (M : Mo) (va ra : Option Addr) (vc rc : Nat) (fa : Option Addr) (fc : Nat) (f : List Nd) (w : World) (hm : RM w va ra M) (hf : RN w fa f) (hl : lookErr M f ≠ 0) :
    Calls Tryd.prog 13 #[.agg #[.int .i64 M.worlds, .slice va M.val.length vc, .slice ra M.rel.length rc], .slice fa f.length fc] w fun e w' => RetR ⟨0, [], []⟩ [] (lookErr M f) e w w' := by
  have hE0 := ((Ext.refl w).alloc (.cells #[.int .i64 M.worlds, .slice va M.val.length vc, .slice ra M.rel.length rc] 25)).alloc (.cells #[.int .i64 0, .slice none 0 0, .slice none 0 0] 25)
  have hbx := (MoBox.new w M.worlds M.val M.rel va vc ra rc 25).ext ((Ext.refl _).alloc (.cells #[.int .i64 0, .slice none 0 0, .slice none 0 0] 25))
  have hr0 := OutAt.new1 w (.cells #[.int .i64 M.worlds, .slice va M.val.length vc, .slice ra M.rel.length rc] 25) (.int .i64 0) (.slice none 0 0) (.slice none 0 0) 25
  have HE := Lib.hid hE0
  have HM := Lib.hid (hm.ext hE0)
  have HF := Lib.hid (hf.ext hE0)
  have HB := Lib.hid hbx
  have HR := Lib.hid hr0
  have hs0 : ((w.alloc (.cells #[.int .i64 M.worlds, .slice va M.val.length vc, .slice ra M.rel.length rc] 25)).alloc (.cells #[.int .i64 0, .slice none 0 0, .slice none 0 0] 25)).heap.size = w.heap.size + 2 := by simp
  have HSZ := Lib.hid hs0
  obtain ⟨m0, m1, m2⟩ := hbx
  dsimp only at m0 m1 m2
  clear hE0 hf hm hr0 hs0
  have HLK : Hid (∀ W, RM W va ra M → RN W fa f → Calls Tryd.prog 30 #[.agg #[.int .i64 M.worlds, .slice va M.val.length vc, .slice ra M.rel.length rc], .slice fa f.length fc] W fun e w' => e = .returned (.tuple #[.pointer none, .int .i64 (lookErr M f)]) ∧ Ext W w') := Lib.hid fun W h1 h2 => lookNo_any M va ra vc rc fa fc f W h1 h2 hl
  have hq : (lookErr M f != 0) = true := by simpa using hl
  clear hl
  generalize hle : lookErr M f = er at *
  clear hle
  go_enter Tryd.func13, Tryd.ntmps13
  go_wp2_with fail
  generalize (w.alloc (.cells #[.int .i64 M.worlds, .slice va M.val.length vc, .slice ra M.rel.length rc] 25)).alloc (.cells #[.int .i64 0, .slice none 0 0, .slice none 0 0] 25) = w0 at *
  refine (HLK.out _ HM.out HF.out).mono ?_
  rintro _ w1 ⟨rfl, hE1⟩
  have HH := Lib.hid (HR.out.ext hE1)
  have HE1 := Lib.hid (HE.out.trans hE1)
  clear hE1 m0 m1 m2
  obtain ⟨r0, rr1, rr2, rfz⟩ := HH.out
  have f0 := rfz 0
  have f1 := rfz 1
  have f2 := rfz 2
  have hrl9 := HH.out.lt
  clear rfz
  dsimp only
  go_wp2_with fail
  obtain ⟨d0, d1, d2, -⟩ := (((HH.out.set0 (.int .i64 0)).set1 (.slice none 0 0)).set2 (.slice none 0 0)).ext ((Ext.refl _).alloc (.cells #[.pointer none] 57))
  have hEx : Ext w ((((w1.setCell ⟨w.heap.size + 1, 0, none⟩ (.int .i64 0)).setCell ⟨w.heap.size + 1, 1, none⟩ (.slice none 0 0)).setCell ⟨w.heap.size + 1, 2, none⟩ (.slice none 0 0)).alloc (.cells #[.pointer none] 57)) := (((HE1.out.setCell (by simp) _).setCell (by simp) _).setCell (by simp) _).alloc _
  generalize (((w1.setCell ⟨w.heap.size + 1, 0, none⟩ (.int .i64 0)).setCell ⟨w.heap.size + 1, 1, none⟩ (.slice none 0 0)).setCell ⟨w.heap.size + 1, 2, none⟩ (.slice none 0 0)).alloc (.cells #[.pointer none] 57) = W2 at *
  refine bodyPost_ret (v := .tuple #[.agg #[.int .i64 0, .slice none 0 0, .slice none 0 0], .slice none 0 0, .int .i64 er]) ?_ rfl ?_
  · rw [results_cell_two rfl]
    go_simp
  · exact ⟨none, none, none, 0, 0, 0, rfl, fun w'' _ => ⟨⟨RU.nil _ _, RR.nil _ _⟩, RI.nil _ _⟩, hEx⟩
theorem any_all {l : List (List (BitVec 64))} {p q : List (BitVec 64) → Bool} (h : ∀ k, k < l.length → p (nth l k) = q (nth l k)) : (l.any fun r => !p r) = !l.all q := by
  cases hq : l.all q
  · cases hp : l.any fun r => !p r
    · rw [List.any_eq_false] at hp
      rw [List.all_eq_false] at hq
      obtain ⟨x, hx, hx2⟩ := hq
      obtain ⟨k, hk, rfl⟩ := mem_nth hx
      have := hp _ hx
      rw [h k hk] at this
      simp at this
      exact absurd this hx2
    · rfl
  · rw [List.all_eq_true] at hq
    show _ = false
    rw [List.any_eq_false]
    intro x hx
    obtain ⟨k, hk, rfl⟩ := mem_nth hx
    rw [h k hk, hq _ hx]
    simp
theorem ftrans_any (M : Mo) (va ra : Option Addr) (vc rc : Nat) (fa : Option Addr) (fc : Nat) (f : List Nd) (w : World) (hT : Tab w) (hm : RM w va ra M) (hf : RN w fa f) :
    Calls Tryd.prog 13 #[.agg #[.int .i64 M.worlds, .slice va M.val.length vc, .slice ra M.rel.length rc], .slice fa f.length fc] w fun e w' => RetR (filTr M f) (natI (filTn M f)) (trE M f) e w w' := by
  by_cases hl : lookErr M f = 0
  · obtain ⟨N, vk⟩ := vok_of hl
    have he := any_all (l := M.rel) (p := fun r => hasB r 4) (q := traB) fun k hk => has4_eq (ok_rel vk.vw.ok hk)
    cases ht : M.rel.all traB
    · obtain ⟨t1, t2, t3⟩ := tr_no hl ht
      rw [t1, t2, t3]
      exact transitiveNo_any M va ra vc rc fa fc f w hT hm hf hl (by rw [he, ht]; rfl)
    · obtain ⟨t1, t2, t3⟩ := tr_yes hl ht
      rw [t1, t2, t3]
      have h := transitive_any M va ra vc rc fa fc f w hT hm hf hl (by rw [he, ht]; rfl)
      rw [hl] at h
      exact h
  · obtain ⟨t1, t2, t3⟩ := tr_err hl
    rw [t1, t2, t3]
    exact transitiveErr_any M va ra vc rc fa fc f w hm hf hl
end Wt

/- Walk: wittinglaw23.awake (printed by gen_aw23.py). -/
namespace Wt
open Go Go.RowKit Go.Maps Go.Proofs Fm

theorem RI.lit (w : World) (l : List Int) (cs : Array Value) (T : Nat) (h : cs = (l.map iv).toArray) (hl : l.length ≤ 1000) : RI (w.alloc (.cells cs T)) (some ⟨w.heap.size, 0, none⟩) l := by
  subst h
  refine ⟨by omega, fun k hk => ⟨w.heap.size, 0, rfl, ?_⟩⟩
  simp [iv, hk, nth_eq l k hk]
theorem agree_of_ext {B : Nat} {w' w'' : World} (e : Ext w' w'') : Agree B w' w'' := fun k _ hk => e.block k hk
theorem tr_tab : trE exF ex23P = 12 := by
  unfold trE
  rw [if_neg (by simp [aw_tab.1])]
  decide +kernel
/-- The example's model, spelt out. -/
def RetEx (e : Ending) (w w' : World) : Prop := ∃ va ra vc rc, e = .returned (.agg #[.int .i64 4, .slice va 1 vc, .slice ra 1 rc]) ∧ RM w' va ra exF ∧ Ext w w'
def RetF1 (l : List Nd) (n : Nat) (e : Ending) (w w' : World) : Prop := ∃ a c, e = .returned (.slice a n c) ∧ RN w' a l ∧ Ext w w'
def RetL1 (l : List Nat) (n : Nat) (c : Int) (e : Ending) (w w' : World) : Prop := ∃ a cp, e = .returned (.tuple #[.slice a n cp, .int .i64 c]) ∧ RI w' a (natI l) ∧ Ext w w'
def RetR1 (A : Mo) (W : Int) (x y z : Nat) (l : List Int) (c : Int) (e : Ending) (w w' : World) : Prop := ∃ va ra la vc rc lc, e = .returned (.tuple #[.agg #[.int .i64 W, .slice va x vc, .slice ra y rc], .slice la z lc, .int .i64 c]) ∧ RM w' va ra A ∧ RI w' la l ∧ Ext w w'
theorem RetR.r1 {A : Mo} {l : List Int} {c : Int} {e : Ending} {w w' : World} (h : RetR A l c e w w') : RetR1 A A.worlds A.val.length A.rel.length l.length l c e w w' := by
  obtain ⟨va, ra, la, vc, rc, lc, h1, h2, h3⟩ := h
  exact ⟨va, ra, la, vc, rc, lc, h1, (h2 w' (fun _ _ _ => rfl)).1, (h2 w' (fun _ _ _ => rfl)).2, h3⟩
theorem awt9 : lookErr exF ex23P = 0 ∧ lookErr exF ex23Q = 0 ∧ filC exF ex23P = [0, 0, 2, 3] ∧ filN exF ex23P = [0, 0, 1, 2] ∧ ex23P.length = 2 ∧ ex23Q.length = 1 ∧ filN exF ex23Q = [0, 0, 0, 1] := by
  refine ⟨aw_tab.1, aw_tab.2.1, aw_tab.2.2.1, aw_tab.2.2.2.1, ?_, ?_, ?_⟩ <;> decide +kernel
set_option maxRecDepth 20000 in
set_option maxHeartbeats 8000000 in
theorem awake23_any (w : World) (hT : Tab w) : Calls Tryd.prog 9 #[] w fun e w' => e = .returned (.bool true) ∧ Ext w w' := by
  have XF : Hid (∀ W, Calls Tryd.prog 25 #[.int .i64 0] W fun e w' => RetF1 ex23Q 1 e W w') := Lib.hid fun W => by
    have h := cFact_any 0 W
    exact h
  have XP : Hid (∀ W fa fc, RN W fa ex23Q → Calls Tryd.prog 26 #[.int .i64 0, .slice fa 1 fc] W fun e w' => RetF1 ex23P 2 e W w') := Lib.hid fun W fa fc h => by
    have h := cPoss_any 0 fa fc ex23Q W h
    exact h
  have XE : Hid (∀ W, Calls Tryd.prog 27 #[] W fun e w' => RetEx e W w') := Lib.hid fun W => example23_any W
  have XC : Hid (∀ W va ra vc rc fa fc, Tab W → RM W va ra exF → RN W fa ex23P → Calls Tryd.prog 15 #[.agg #[.int .i64 4, .slice va 1 vc, .slice ra 1 rc], .slice fa 2 fc] W fun e w' => RetL1 [0, 0, 2, 3] 4 0 e W w') := Lib.hid fun W va ra vc rc fa fc hT hm hf => by
    have h := fClasses_any exF va ra vc rc fa fc ex23P W hm hf
    rw [awt9.1, awt9.2.2.1] at h
    exact h
  have X1 : Hid (∀ W va ra vc rc fa fc, Tab W → RM W va ra exF → RN W fa ex23P → Calls Tryd.prog 10 #[.agg #[.int .i64 4, .slice va 1 vc, .slice ra 1 rc], .slice fa 2 fc] W fun e w' => RetR1 ⟨3, [4#64], [[3#64, 4#64, 0#64]]⟩ 3 1 1 4 (natI [0, 0, 1, 2]) 0 e W w') := Lib.hid fun W va ra vc rc fa fc hT hm hf => by
    have h := (smallest_any exF va ra vc rc fa fc ex23P W hm hf).mono fun _ _ hr => hr.r1
    rw [awt9.1, aw_tab.2.2.2.2.1, awt9.2.2.2.1] at h
    exact h
  have X2 : Hid (∀ W va ra vc rc fa fc, Tab W → RM W va ra exF → RN W fa ex23P → Calls Tryd.prog 11 #[.agg #[.int .i64 4, .slice va 1 vc, .slice ra 1 rc], .slice fa 2 fc] W fun e w' => RetR1 ⟨3, [4#64], [[3#64, 7#64, 3#64]]⟩ 3 1 1 4 (natI [0, 0, 1, 2]) 0 e W w') := Lib.hid fun W va ra vc rc fa fc hT hm hf => by
    have h := (largest_any exF va ra vc rc fa fc ex23P W hm hf).mono fun _ _ hr => hr.r1
    rw [awt9.1, aw_tab.2.2.2.2.2.1, awt9.2.2.2.1] at h
    exact h
  have X3 : Hid (∀ W va ra vc rc fa fc, Tab W → RM W va ra exF → RN W fa ex23Q → Calls Tryd.prog 10 #[.agg #[.int .i64 4, .slice va 1 vc, .slice ra 1 rc], .slice fa 1 fc] W fun e w' => RetR1 ⟨2, [2#64], [[3#64, 0#64]]⟩ 2 1 1 4 (natI [0, 0, 0, 1]) 0 e W w') := Lib.hid fun W va ra vc rc fa fc hT hm hf => by
    have h := (smallest_any exF va ra vc rc fa fc ex23Q W hm hf).mono fun _ _ hr => hr.r1
    rw [awt9.2.1, aw_tab.2.2.2.2.2.2.1, awt9.2.2.2.2.2.2] at h
    exact h
  have X4 : Hid (∀ W va ra vc rc fa fc, Tab W → RM W va ra exF → RN W fa ex23Q → Calls Tryd.prog 11 #[.agg #[.int .i64 4, .slice va 1 vc, .slice ra 1 rc], .slice fa 1 fc] W fun e w' => RetR1 ⟨2, [2#64], [[3#64, 3#64]]⟩ 2 1 1 4 (natI [0, 0, 0, 1]) 0 e W w') := Lib.hid fun W va ra vc rc fa fc hT hm hf => by
    have h := (largest_any exF va ra vc rc fa fc ex23Q W hm hf).mono fun _ _ hr => hr.r1
    rw [awt9.2.1, aw_tab.2.2.2.2.2.2.2, awt9.2.2.2.2.2.2] at h
    exact h
  have X5 : Hid (∀ W va ra vc rc fa fc, Tab W → RM W va ra exF → RN W fa ex23P → Calls Tryd.prog 13 #[.agg #[.int .i64 4, .slice va 1 vc, .slice ra 1 rc], .slice fa 2 fc] W fun e w' => RetR1 ⟨0, [], []⟩ 0 0 0 0 [] 12 e W w') := Lib.hid fun W va ra vc rc fa fc hT hm hf => by
    have h := (ftrans_any exF va ra vc rc fa fc ex23P W hT hm hf).mono fun _ _ hr => hr.r1
    rw [tr_tab, show filTr exF ex23P = ⟨0, [], []⟩ from if_neg (by rw [tr_tab]; decide), show filTn exF ex23P = [] from if_neg (by rw [tr_tab]; decide)] at h
    exact h
  have HT := Lib.hid hT
  clear hT
  go_enter Tryd.func9, Tryd.ntmps9
  go_wp2_with fail
  refine (XF.out _).mono ?_
  rintro _ w1 ⟨pa, pc, rfl, hp, hE1⟩
  have HP := Lib.hid hp
  have HE1 := Lib.hid hE1
  clear hp hE1
  dsimp only
  go_wp2_with fail
  refine (XP.out _ pa pc HP.out).mono ?_
  rintro _ w2 ⟨fa, fc, rfl, hf, hE2⟩
  have HF := Lib.hid hf
  have HP2 := Lib.hid (HP.out.ext hE2)
  have HE2 := Lib.hid (HE1.out.trans hE2)
  clear hf hE2 HP
  dsimp only
  have HE_w2 := HE2
  have HF_w2 := HF
  have HP_w2 := HP2
  have HK_w2 : Hid True := trivial
  clear HE2 HF HP2
  go_wp2_with fail
  refine (XE.out _).mono ?_
  rintro _ a0 ⟨va, ra, vc, rc, rfl, hm, hE⟩
  have HM := Lib.hid hm
  have HE := Lib.hid hE
  clear hm hE
  dsimp only
  go_wp2_with fail
  refine (XC.out _ va ra vc rc fa fc (HT.out.ext (HE_w2.out.trans HE.out)) HM.out (HF_w2.out.ext HE.out)).mono ?_
  rintro _ b0 ⟨la0, lc0, rfl, hl, hE9⟩
  have HL0 := Lib.hid hl
  have HX : Hid (Ext w2 b0) := Lib.hid (HE.out.trans hE9)
  clear hl hE9
  dsimp only
  have HE_b0 := Lib.hid (HE_w2.out.trans HX.out)
  have HF_b0 := Lib.hid (HF_w2.out.ext HX.out)
  have HP_b0 := Lib.hid (HP_w2.out.ext HX.out)
  clear HE HM HX HE_w2 HF_w2 HP_w2
  have HL0_b0 := HL0
  clear HL0
  go_wp2_with fail
  refine (XE.out _).mono ?_
  rintro _ a1 ⟨va, ra, vc, rc, rfl, hm, hE⟩
  have HM := Lib.hid hm
  have HE := Lib.hid hE
  clear hm hE
  dsimp only
  go_wp2_with fail
  refine (X1.out _ va ra vc rc fa fc (HT.out.ext (HE_b0.out.trans HE.out)) HM.out (HF_b0.out.ext HE.out)).mono ?_
  rintro _ b10 ⟨va1, ra1, la1, vc1, rc1, lc1, rfl, hm, hl, hE9⟩
  have hA : Ext b10 (b10.alloc (.cells #[.int .i64 3, .slice va1 1 vc1, .slice ra1 1 rc1] 25)) := (Ext.refl _).alloc _
  have HM1 := Lib.hid (hm.ext hA)
  have HL1 := Lib.hid (hl.ext hA)
  have HO1 := Lib.hid (OutAt.new b10 (.int .i64 3) (.slice va1 1 vc1) (.slice ra1 1 rc1) 25)
  have HX : Hid (Ext b0 (b10.alloc (.cells #[.int .i64 3, .slice va1 1 vc1, .slice ra1 1 rc1] 25))) := Lib.hid ((HE.out.trans hE9).trans hA)
  clear hm hl hE9 hA
  dsimp only
  go_wp2_with fail
  generalize hb : b10.alloc (.cells #[.int .i64 3, .slice va1 1 vc1, .slice ra1 1 rc1] 25) = b1 at *
  clear hb
  have HE_b1 := Lib.hid (HE_b0.out.trans HX.out)
  have HF_b1 := Lib.hid (HF_b0.out.ext HX.out)
  have HP_b1 := Lib.hid (HP_b0.out.ext HX.out)
  have HL0_b1 := Lib.hid (HL0_b0.out.ext HX.out)
  clear HE HM HX HE_b0 HF_b0 HP_b0 HL0_b0
  have HM1_b1 := HM1
  have HL1_b1 := HL1
  have HO1_b1 := HO1
  clear HM1 HL1 HO1
  go_wp2_with fail
  refine (XE.out _).mono ?_
  rintro _ a2 ⟨va, ra, vc, rc, rfl, hm, hE⟩
  have HM := Lib.hid hm
  have HE := Lib.hid hE
  clear hm hE
  dsimp only
  go_wp2_with fail
  refine (X2.out _ va ra vc rc fa fc (HT.out.ext (HE_b1.out.trans HE.out)) HM.out (HF_b1.out.ext HE.out)).mono ?_
  rintro _ b20 ⟨va2, ra2, la2, vc2, rc2, lc2, rfl, hm, hl, hE9⟩
  have hA : Ext b20 (b20.alloc (.cells #[.int .i64 3, .slice va2 1 vc2, .slice ra2 1 rc2] 25)) := (Ext.refl _).alloc _
  have HM2 := Lib.hid (hm.ext hA)
  have HL2 := Lib.hid (hl.ext hA)
  have HO2 := Lib.hid (OutAt.new b20 (.int .i64 3) (.slice va2 1 vc2) (.slice ra2 1 rc2) 25)
  have HX : Hid (Ext b1 (b20.alloc (.cells #[.int .i64 3, .slice va2 1 vc2, .slice ra2 1 rc2] 25))) := Lib.hid ((HE.out.trans hE9).trans hA)
  clear hm hl hE9 hA
  dsimp only
  go_wp2_with fail
  generalize hb : b20.alloc (.cells #[.int .i64 3, .slice va2 1 vc2, .slice ra2 1 rc2] 25) = b2 at *
  clear hb
  have HE_b2 := Lib.hid (HE_b1.out.trans HX.out)
  have HF_b2 := Lib.hid (HF_b1.out.ext HX.out)
  have HP_b2 := Lib.hid (HP_b1.out.ext HX.out)
  have HL0_b2 := Lib.hid (HL0_b1.out.ext HX.out)
  have HM1_b2 := Lib.hid (HM1_b1.out.ext HX.out)
  have HL1_b2 := Lib.hid (HL1_b1.out.ext HX.out)
  have HO1_b2 := Lib.hid (HO1_b1.out.ext HX.out)
  clear HE HM HX HE_b1 HF_b1 HP_b1 HL0_b1 HM1_b1 HL1_b1 HO1_b1
  have HM2_b2 := HM2
  have HL2_b2 := HL2
  have HO2_b2 := HO2
  clear HM2 HL2 HO2
  go_wp2_with fail
  refine (XE.out _).mono ?_
  rintro _ a3 ⟨va, ra, vc, rc, rfl, hm, hE⟩
  have HM := Lib.hid hm
  have HE := Lib.hid hE
  clear hm hE
  dsimp only
  go_wp2_with fail
  refine (X3.out _ va ra vc rc pa pc (HT.out.ext (HE_b2.out.trans HE.out)) HM.out (HP_b2.out.ext HE.out)).mono ?_
  rintro _ b30 ⟨va3, ra3, la3, vc3, rc3, lc3, rfl, hm, hl, hE9⟩
  have hA : Ext b30 (b30.alloc (.cells #[.int .i64 2, .slice va3 1 vc3, .slice ra3 1 rc3] 25)) := (Ext.refl _).alloc _
  have HM3 := Lib.hid (hm.ext hA)
  have HL3 := Lib.hid (hl.ext hA)
  have HO3 := Lib.hid (OutAt.new b30 (.int .i64 2) (.slice va3 1 vc3) (.slice ra3 1 rc3) 25)
  have HX : Hid (Ext b2 (b30.alloc (.cells #[.int .i64 2, .slice va3 1 vc3, .slice ra3 1 rc3] 25))) := Lib.hid ((HE.out.trans hE9).trans hA)
  clear hm hl hE9 hA
  dsimp only
  go_wp2_with fail
  generalize hb : b30.alloc (.cells #[.int .i64 2, .slice va3 1 vc3, .slice ra3 1 rc3] 25) = b3 at *
  clear hb
  have HE_b3 := Lib.hid (HE_b2.out.trans HX.out)
  have HF_b3 := Lib.hid (HF_b2.out.ext HX.out)
  have HP_b3 := Lib.hid (HP_b2.out.ext HX.out)
  have HL0_b3 := Lib.hid (HL0_b2.out.ext HX.out)
  have HM1_b3 := Lib.hid (HM1_b2.out.ext HX.out)
  have HL1_b3 := Lib.hid (HL1_b2.out.ext HX.out)
  have HO1_b3 := Lib.hid (HO1_b2.out.ext HX.out)
  have HM2_b3 := Lib.hid (HM2_b2.out.ext HX.out)
  have HL2_b3 := Lib.hid (HL2_b2.out.ext HX.out)
  have HO2_b3 := Lib.hid (HO2_b2.out.ext HX.out)
  clear HE HM HX HE_b2 HF_b2 HP_b2 HL0_b2 HM1_b2 HL1_b2 HO1_b2 HM2_b2 HL2_b2 HO2_b2
  have HM3_b3 := HM3
  have HL3_b3 := HL3
  have HO3_b3 := HO3
  clear HM3 HL3 HO3
  go_wp2_with fail
  refine (XE.out _).mono ?_
  rintro _ a4 ⟨va, ra, vc, rc, rfl, hm, hE⟩
  have HM := Lib.hid hm
  have HE := Lib.hid hE
  clear hm hE
  dsimp only
  go_wp2_with fail
  refine (X4.out _ va ra vc rc pa pc (HT.out.ext (HE_b3.out.trans HE.out)) HM.out (HP_b3.out.ext HE.out)).mono ?_
  rintro _ b40 ⟨va4, ra4, la4, vc4, rc4, lc4, rfl, hm, hl, hE9⟩
  have hA : Ext b40 (b40.alloc (.cells #[.int .i64 2, .slice va4 1 vc4, .slice ra4 1 rc4] 25)) := (Ext.refl _).alloc _
  have HM4 := Lib.hid (hm.ext hA)
  have HL4 := Lib.hid (hl.ext hA)
  have HO4 := Lib.hid (OutAt.new b40 (.int .i64 2) (.slice va4 1 vc4) (.slice ra4 1 rc4) 25)
  have HX : Hid (Ext b3 (b40.alloc (.cells #[.int .i64 2, .slice va4 1 vc4, .slice ra4 1 rc4] 25))) := Lib.hid ((HE.out.trans hE9).trans hA)
  clear hm hl hE9 hA
  dsimp only
  go_wp2_with fail
  generalize hb : b40.alloc (.cells #[.int .i64 2, .slice va4 1 vc4, .slice ra4 1 rc4] 25) = b4 at *
  clear hb
  have HE_b4 := Lib.hid (HE_b3.out.trans HX.out)
  have HF_b4 := Lib.hid (HF_b3.out.ext HX.out)
  have HP_b4 := Lib.hid (HP_b3.out.ext HX.out)
  have HL0_b4 := Lib.hid (HL0_b3.out.ext HX.out)
  have HM1_b4 := Lib.hid (HM1_b3.out.ext HX.out)
  have HL1_b4 := Lib.hid (HL1_b3.out.ext HX.out)
  have HO1_b4 := Lib.hid (HO1_b3.out.ext HX.out)
  have HM2_b4 := Lib.hid (HM2_b3.out.ext HX.out)
  have HL2_b4 := Lib.hid (HL2_b3.out.ext HX.out)
  have HO2_b4 := Lib.hid (HO2_b3.out.ext HX.out)
  have HM3_b4 := Lib.hid (HM3_b3.out.ext HX.out)
  have HL3_b4 := Lib.hid (HL3_b3.out.ext HX.out)
  have HO3_b4 := Lib.hid (HO3_b3.out.ext HX.out)
  clear HE HM HX HE_b3 HF_b3 HP_b3 HL0_b3 HM1_b3 HL1_b3 HO1_b3 HM2_b3 HL2_b3 HO2_b3 HM3_b3 HL3_b3 HO3_b3
  have HM4_b4 := HM4
  have HL4_b4 := HL4
  have HO4_b4 := HO4
  clear HM4 HL4 HO4
  go_wp2_with fail
  refine (XE.out _).mono ?_
  rintro _ a5 ⟨va, ra, vc, rc, rfl, hm, hE⟩
  have HM := Lib.hid hm
  have HE := Lib.hid hE
  clear hm hE
  dsimp only
  go_wp2_with fail
  refine (X5.out _ va ra vc rc fa fc (HT.out.ext (HE_b4.out.trans HE.out)) HM.out (HF_b4.out.ext HE.out)).mono ?_
  rintro _ b50 ⟨va5, ra5, la5, vc5, rc5, lc5, rfl, hm, hl, hE9⟩
  have hA : Ext b50 (b50.alloc (.cells #[.int .i64 0, .slice va5 0 vc5, .slice ra5 0 rc5] 25)) := (Ext.refl _).alloc _
  have HM5 := Lib.hid (hm.ext hA)
  have HL5 := Lib.hid (hl.ext hA)
  have HO5 := Lib.hid (OutAt.new b50 (.int .i64 0) (.slice va5 0 vc5) (.slice ra5 0 rc5) 25)
  have HX : Hid (Ext b4 (b50.alloc (.cells #[.int .i64 0, .slice va5 0 vc5, .slice ra5 0 rc5] 25))) := Lib.hid ((HE.out.trans hE9).trans hA)
  clear hm hl hE9 hA
  dsimp only
  have HS5 : Hid ((b50.alloc (.cells #[.int .i64 0, .slice va5 0 vc5, .slice ra5 0 rc5] 25)).heap.size = b50.heap.size + 1) := Lib.hid (by simp)
  go_wp2_with fail
  generalize hb : b50.alloc (.cells #[.int .i64 0, .slice va5 0 vc5, .slice ra5 0 rc5] 25) = b5 at *
  clear hb
  have HE_b5 := Lib.hid (HE_b4.out.trans HX.out)
  have HF_b5 := Lib.hid (HF_b4.out.ext HX.out)
  have HP_b5 := Lib.hid (HP_b4.out.ext HX.out)
  have HL0_b5 := Lib.hid (HL0_b4.out.ext HX.out)
  have HM1_b5 := Lib.hid (HM1_b4.out.ext HX.out)
  have HL1_b5 := Lib.hid (HL1_b4.out.ext HX.out)
  have HO1_b5 := Lib.hid (HO1_b4.out.ext HX.out)
  have HM2_b5 := Lib.hid (HM2_b4.out.ext HX.out)
  have HL2_b5 := Lib.hid (HL2_b4.out.ext HX.out)
  have HO2_b5 := Lib.hid (HO2_b4.out.ext HX.out)
  have HM3_b5 := Lib.hid (HM3_b4.out.ext HX.out)
  have HL3_b5 := Lib.hid (HL3_b4.out.ext HX.out)
  have HO3_b5 := Lib.hid (HO3_b4.out.ext HX.out)
  have HM4_b5 := Lib.hid (HM4_b4.out.ext HX.out)
  have HL4_b5 := Lib.hid (HL4_b4.out.ext HX.out)
  have HO4_b5 := Lib.hid (HO4_b4.out.ext HX.out)
  clear HE HM HX HE_b4 HF_b4 HP_b4 HL0_b4 HM1_b4 HL1_b4 HO1_b4 HM2_b4 HL2_b4 HO2_b4 HM3_b4 HL3_b4 HO3_b4 HM4_b4 HL4_b4 HO4_b4
  have HM5_b5 := HM5
  have HL5_b5 := HL5
  have HO5_b5 := HO5
  clear HM5 HL5 HO5
  have HZ_b5 : Hid (Ext b5 b5) := Lib.hid (Ext.refl _)
  refine (r23Same_any [0, 0, 2, 3] la0 (some ⟨b50.heap.size + 1, 0, none⟩) lc0 4 (b5.alloc (.cells #[.int .i64 0, .int .i64 0, .int .i64 2, .int .i64 3] 3)) (HL0_b5.out.ext (HZ_b5.out.alloc _)) (by have h := RI.lit b5 (natI [0, 0, 2, 3]) #[.int .i64 0, .int .i64 0, .int .i64 2, .int .i64 3] 3 rfl (by decide); rw [HS5.out] at h; exact h)).mono ?_
  rintro _ d0 ⟨rfl, hE⟩
  have HZ_d0 : Hid (Ext b5 d0) := Lib.hid ((HZ_b5.out.alloc _).trans hE)
  clear hE
  dsimp only
  go_wp2_with fail
  refine (r23Same_any [0, 0, 1, 2] la1 (some ⟨d0.heap.size, 0, none⟩) lc1 4 (d0.alloc (.cells #[.int .i64 0, .int .i64 0, .int .i64 1, .int .i64 2] 3)) (HL1_b5.out.ext (HZ_d0.out.alloc _)) (RI.lit d0 (natI [0, 0, 1, 2]) #[.int .i64 0, .int .i64 0, .int .i64 1, .int .i64 2] 3 rfl (by decide))).mono ?_
  rintro _ d1 ⟨rfl, hE⟩
  have HZ_d1 : Hid (Ext b5 d1) := Lib.hid ((HZ_d0.out.alloc _).trans hE)
  clear hE
  dsimp only
  obtain ⟨o0, o1, o2, -⟩ := HO1_b5.out.ext HZ_d1.out
  have ol := (HO1_b5.out.ext HZ_d1.out).lt
  go_wp2_with fail
  clear o0 o1 o2 ol
  refine (has23_any 3 4#64 [3#64, 4#64, 0#64] va1 ra1 (some ⟨d1.heap.size, 0, none⟩) vc1 rc1 3 (d1.alloc (.cells #[.int .u64 3, .int .u64 4, .int .u64 0] 40)) (HM1_b5.out.ext (HZ_d1.out.alloc _)) (RU.lit d1 [3#64, 4#64, 0#64] #[.int .u64 3, .int .u64 4, .int .u64 0] 40 rfl (by decide))).mono ?_
  rintro _ d2 ⟨rfl, hE⟩
  have HZ_d2 : Hid (Ext b5 d2) := Lib.hid ((HZ_d1.out.alloc _).trans hE)
  clear hE
  dsimp only
  obtain ⟨o0, o1, o2, -⟩ := HO2_b5.out.ext HZ_d2.out
  have ol := (HO2_b5.out.ext HZ_d2.out).lt
  go_wp2_with fail
  clear o0 o1 o2 ol
  refine (has23_any 3 4#64 [3#64, 7#64, 3#64] va2 ra2 (some ⟨d2.heap.size, 0, none⟩) vc2 rc2 3 (d2.alloc (.cells #[.int .u64 3, .int .u64 7, .int .u64 3] 40)) (HM2_b5.out.ext (HZ_d2.out.alloc _)) (RU.lit d2 [3#64, 7#64, 3#64] #[.int .u64 3, .int .u64 7, .int .u64 3] 40 rfl (by decide))).mono ?_
  rintro _ d3 ⟨rfl, hE⟩
  have HZ_d3 : Hid (Ext b5 d3) := Lib.hid ((HZ_d2.out.alloc _).trans hE)
  clear hE
  dsimp only
  obtain ⟨o0, o1, o2, -⟩ := HO3_b5.out.ext HZ_d3.out
  have ol := (HO3_b5.out.ext HZ_d3.out).lt
  go_wp2_with fail
  clear o0 o1 o2 ol
  refine (has23_any 2 2#64 [3#64, 0#64] va3 ra3 (some ⟨d3.heap.size, 0, none⟩) vc3 rc3 2 (d3.alloc (.cells #[.int .u64 3, .int .u64 0] 40)) (HM3_b5.out.ext (HZ_d3.out.alloc _)) (RU.lit d3 [3#64, 0#64] #[.int .u64 3, .int .u64 0] 40 rfl (by decide))).mono ?_
  rintro _ d4 ⟨rfl, hE⟩
  have HZ_d4 : Hid (Ext b5 d4) := Lib.hid ((HZ_d3.out.alloc _).trans hE)
  clear hE
  dsimp only
  obtain ⟨o0, o1, o2, -⟩ := HO4_b5.out.ext HZ_d4.out
  have ol := (HO4_b5.out.ext HZ_d4.out).lt
  go_wp2_with fail
  clear o0 o1 o2 ol
  refine (has23_any 2 2#64 [3#64, 3#64] va4 ra4 (some ⟨d4.heap.size, 0, none⟩) vc4 rc4 2 (d4.alloc (.cells #[.int .u64 3, .int .u64 3] 40)) (HM4_b5.out.ext (HZ_d4.out.alloc _)) (RU.lit d4 [3#64, 3#64] #[.int .u64 3, .int .u64 3] 40 rfl (by decide))).mono ?_
  rintro _ d5 ⟨rfl, hE⟩
  have HZ_d5 : Hid (Ext b5 d5) := Lib.hid ((HZ_d4.out.alloc _).trans hE)
  clear hE
  dsimp only
  go_wp2_with fail
  go_ret
  exact ⟨rfl, HE_b5.out.trans HZ_d5.out⟩
end Wt

/- Leaving with marks; walk: relation.reversed. -/
namespace Wt
open Go Go.RowKit Go.Maps Go.Proofs Fm
attribute [local go_sem] Oper.semAt_some

/-- The mark of a range over a function among the deferred calls. -/
def markD (D : Nat) : Deferred := { target := .collected D, args := #[] }
/-- The marks' blocks are shut, nothing else has changed. -/
structure ShutD (Ds : List Nat) (W W' : World) : Prop where
  os : W'.os = W.os
  tape : W'.tape = W.tape
  output : W'.output = W.output
  size : W'.heap.size = W.heap.size
  block : ∀ k, k ∉ Ds → W'.heap[k]? = W.heap[k]?
theorem leaves_marks {F : Fence} {n : Nat} {P : Program} {fn : Func} {tmps : Array Value} {R : Ending → World → Prop} : ∀ (Ds : List Nat) (W : World), Ds.Nodup → (∀ D ∈ Ds, W.heap[D]? = some (.deferred (some []))) →
    (∀ W', ShutD Ds W W' → LeavesIn F n P fn tmps R [] .returning W') → LeavesInM F n P fn tmps R (Ds.map markD) .returning W
  | [], W, _, _, h => h W ⟨rfl, rfl, rfl, rfl, fun _ _ => rfl⟩
  | D :: Ds, W, hn, hD, h => by
    rw [List.nodup_cons] at hn
    refine ⟨by simp, .inl ⟨D, _, rfl, run_takeDeferred (hD D (by simp)), ?_⟩⟩
    refine leaves_marks Ds _ hn.2 (fun E hE => ?_) fun W' hs => h W' ?_
    · have hne : E ≠ D := fun e => hn.1 (e ▸ hE)
      rw [World.putObj_heap_other hne]
      exact hD E (by simp [hE])
    · refine ⟨hs.os, hs.tape, hs.output, by rw [hs.size]; simp [World.putObj], fun k hk => ?_⟩
      rw [hs.block k (fun h => hk (by simp [h])), World.putObj_heap_other (fun e => hk (by simp [e]))]
theorem ShutD.ext {Ds : List Nat} {w W W' : World} (h : ShutD Ds W W') (e : Ext w W) (hD : ∀ D ∈ Ds, w.heap.size ≤ D) : Ext w W' :=
  ⟨h.os.trans e.os, h.tape.trans e.tape, h.output.trans e.output, by rw [h.size]; exact e.size, fun k hk => (h.block k (fun hm => by have := hD k hm; omega)).trans (e.block k hk)⟩
/-! The reversed relation as it is filled. -/
def rvB (r : List (BitVec 64)) (k : Nat) (l : List Nat) (w v : Nat) : Bool := (decide (w < k) && bt (nth r w) v) || (decide (w = k) && decide (v ∈ l))
def rvL (r : List (BitVec 64)) (k : Nat) (l : List Nat) : List (BitVec 64) := (List.range r.length).map fun v => setTo (fun w => rvB r k l w v) r.length
theorem rvL_len (r : List (BitVec 64)) (k : Nat) (l : List Nat) : (rvL r k l).length = r.length := by simp [rvL]
theorem rvL_nth (r : List (BitVec 64)) (k : Nat) (l : List Nat) {v : Nat} (hv : v < r.length) : nth (rvL r k l) v = setTo (fun w => rvB r k l w v) r.length := nth_mapX _ hv
theorem rvL_ext {r : List (BitVec 64)} {k k' : Nat} {l l' : List Nat} (h : ∀ w v, w < r.length → v < r.length → rvB r k l w v = rvB r k' l' w v) : rvL r k l = rvL r k' l' := by
  refine nth_ext (by rw [rvL_len, rvL_len]) fun v hv => ?_
  rw [rvL_len] at hv
  rw [rvL_nth _ _ _ hv, rvL_nth _ _ _ hv]
  refine bt_ext fun j hj => ?_
  rw [bt_setTo _ hj, bt_setTo _ hj]
  by_cases hjl : j < r.length
  · rw [h j v hjl hv]
  · simp [hjl]
theorem rvL_step {r : List (BitVec 64)} {k v : Nat} {l : List Nat} (_h64 : r.length ≤ 64) (hk : k < r.length) (hv : v < r.length) : (rvL r k l).set v (nth (rvL r k l) v ||| 1#64 <<< k) = rvL r k (l ++ [v]) := by
  refine nth_ext (by rw [List.length_set, rvL_len, rvL_len]) fun u hu => ?_
  rw [List.length_set, rvL_len] at hu
  rw [nth_eq _ _ (by rw [List.length_set, rvL_len]; exact hu), List.getElem_set]
  by_cases e : v = u
  · subst e
    rw [if_pos rfl, rvL_nth _ _ _ hv, rvL_nth _ _ _ hv]
    refine bt_ext fun j hj => ?_
    rw [bt_or, bt_setTo _ hj, bt_setTo _ hj, bt_shl1]
    by_cases hjk : j = k
    · subst hjk
      simp [rvB, hj, hk]
    · simp [rvB, hjk]
  · rw [if_neg e, ← nth_eq _ _ (by rw [rvL_len]; exact hu), rvL_nth _ _ _ hu, rvL_nth _ _ _ hu]
    refine bt_ext fun j hj => ?_
    rw [bt_setTo _ hj, bt_setTo _ hj]
    have e2 : ¬ u = v := fun h => e h.symm
    simp [rvB, e2]
theorem rvL_next {r : List (BitVec 64)} {k : Nat} (h64 : r.length ≤ 64) : rvL r k (memL (nth r k)) = rvL r (k + 1) [] := rvL_ext fun w v hw hv => by
  unfold rvB
  by_cases h1 : w < k
  · have e1 : ¬ w = k := by omega
    have e2 : w < k + 1 := by omega
    simp [h1, e1, e2]
  · by_cases h2 : w = k
    · subst h2
      have hm : decide (v ∈ memL (nth r w)) = bt (nth r w) v := by
        rw [Bool.eq_iff_iff, decide_eq_true_iff, mem_memL]
        exact ⟨fun h => h.2, fun h => ⟨by omega, h⟩⟩
      simp [hm]
    · have e2 : ¬ w < k + 1 := by omega
      simp [h1, h2, e2]
theorem rvL_end (r : List (BitVec 64)) : rvL r r.length [] = revL r := by
  refine nth_ext (by simp [rvL, revL]) fun v hv => ?_
  rw [rvL_len] at hv
  rw [rvL_nth _ _ _ hv]
  unfold revL
  rw [nth_mapX _ hv]
  refine bt_ext fun j hj => ?_
  rw [bt_setTo _ hj, bt_setTo _ hj]
  by_cases hjl : j < r.length
  · simp [rvB, hjl]
  · simp [hjl]
theorem rvL_zero (r : List (BitVec 64)) : rvL r 0 [] = List.replicate r.length 0#64 := by
  refine nth_ext (by simp [rvL]) fun v hv => ?_
  rw [rvL_len] at hv
  rw [rvL_nth _ _ _ hv]
  have e : nth (List.replicate r.length 0#64) v = 0#64 := by rw [nth_eq _ _ (by simpa using hv)]; simp
  rw [e]
  refine bt_ext fun j hj => ?_
  rw [bt_setTo _ hj, bt_zero]
  simp [rvB]
/-- Between two rounds of the outer loop. -/
structure RvO (w : World) (r : List (BitVec 64)) (k : Nat) (l : List Nat) (Ds : List Nat) (W : World) : Prop where
  e : Ext w W
  row : OG W w.heap.size 40 uv w.heap.size r.length r.length (rvL r k l)
  ob : Bx1 W (w.heap.size + 1) (.slice (some ⟨w.heap.size, 0, none⟩) r.length r.length)
  dn : Ds.Nodup
  dl : ∀ D ∈ Ds, w.heap.size + 2 ≤ D ∧ W.heap[D]? = some (.deferred (some []))
theorem Bx1.keep {W W' : World} {b : Nat} {v : Value} (h : Bx1 W b v) (e : W'.heap[b]? = W.heap[b]?) : Bx1 W' b v :=
  ⟨(World.cell?_of_block e).trans h.c, (World.frozen?_of_block e).trans h.f⟩
theorem RvO.ext {w W W' : World} {r : List (BitVec 64)} {k : Nat} {l : List Nat} {Ds : List Nat} (h : RvO w r k l Ds W) (e : Ext W W') : RvO w r k l Ds W' :=
  ⟨h.e.trans e, h.row.ext e, h.ob.ext e, h.dn, fun D hD => ⟨(h.dl D hD).1, by rw [e.block D (Array.getElem?_eq_some_iff.1 (h.dl D hD).2).1]; exact (h.dl D hD).2⟩⟩
theorem RvO.grown {w W W' : World} {r : List (BitVec 64)} {k B : Nat} {l : List Nat} {Ds : List Nat} {row : Option Nat} (h : RvO w r k l Ds W) (g : W.grownBy W' row) (hr : ∀ r, row = some r → B ≤ r) (hB : w.heap.size + 1 < B) (hD : ∀ D ∈ Ds, D < B) : RvO w r k l Ds W' := by
  refine ⟨Below.grown h.e g h.e.size (fun j e => by have := hr j e; omega), ⟨h.row.len, h.row.row.kept g ?_⟩, h.ob.keep (g.block _ h.ob.lt (fun e => by have := hr _ e.symm; omega)), h.dn, fun D hD' => ⟨(h.dl D hD').1, ?_⟩⟩
  · right
    intro e
    have := hr w.heap.size (by rw [← e]; rfl)
    omega
  · rw [g.block D (Array.getElem?_eq_some_iff.1 (h.dl D hD').2).1 (fun e => by have := hr _ e.symm; have := hD D hD'; omega)]
    exact (h.dl D hD').2
theorem RvO.put {w W : World} {r : List (BitVec 64)} {k v : Nat} {l : List Nat} {Ds : List Nat} (h : RvO w r k l Ds W) (h64 : r.length ≤ 64) (hk : k < r.length) (hv : v < r.length) :
    RvO w r k (l ++ [v]) Ds (W.setCell ⟨w.heap.size, v, none⟩ (.int .u64 (un (nth (rvL r k l) v ||| 1#64 <<< k)))) := by
  have h2 := h.row.set v (nth (rvL r k l) v ||| 1#64 <<< k)
  rw [rvL_step h64 hk hv] at h2
  exact ⟨h.e.setCell (Nat.le_refl _) _, h2, h.ob.keep (heap_setCell_other _ ⟨w.heap.size, v, none⟩ _ _ (by simp)), h.dn, fun D hD => ⟨(h.dl D hD).1, by
    rw [heap_setCell_other _ ⟨w.heap.size, v, none⟩ _ _ (by have := (h.dl D hD).1; simp; omega)]; exact (h.dl D hD).2⟩⟩
theorem RvO.setBox {w W : World} {r : List (BitVec 64)} {k b : Nat} {l : List Nat} {Ds : List Nat} (h : RvO w r k l Ds W) (hb : w.heap.size + 1 < b) (hD : ∀ D ∈ Ds, D ≠ b) (v : Value) : RvO w r k l Ds (W.setCell ⟨b, 0, none⟩ v) :=
  ⟨h.e.setCell (by simp; omega) _, h.row.other 0 v (by omega), h.ob.keep (heap_setCell_other _ ⟨b, 0, none⟩ _ _ (by simp; omega)), h.dn, fun D hD' => ⟨(h.dl D hD').1, by
    rw [heap_setCell_other _ ⟨b, 0, none⟩ _ _ (hD D hD')]; exact (h.dl D hD').2⟩⟩
/-- Between two rounds of the inner one. -/
def RvI (w : World) (r : List (BitVec 64)) (k bw : Nat) (Ds : List Nat) (j : Nat) (W : World) : Prop := RvO w r k ((memL (nth r k)).take j) Ds W ∧ Bx1 W bw (.int .i64 (k : Int))
theorem RvI.own {w : World} {r : List (BitVec 64)} {k bw B : Nat} {Ds : List Nat} (hB : w.heap.size + 1 < B) (hb : bw < B) (hD : ∀ D ∈ Ds, D < B) : OwnFrom B (RvI w r k bw Ds) :=
  fun _ _ _ _ hs hg hr => ⟨hs.1.grown hg (fun r e => (hr r e).1) hB hD, hs.2.keep (hg.block _ hs.2.lt (fun e => by have := (hr _ e.symm).1; omega))⟩
theorem take_snoc {α : Type} [Inhabited α] (l : List α) {j : Nat} (h : j < l.length) : l.take (j + 1) = l.take j ++ [nth l j] := by
  rw [nth_eq _ _ h, List.take_add_one, List.getElem?_eq_getElem h]; rfl
theorem RvI_take {w W : World} {r : List (BitVec 64)} {k : Nat} {l m : List Nat} {Ds : List Nat} (h : l = m) : RvO w r k l Ds W = RvO w r k m Ds W := by rw [h]
set_option maxRecDepth 20000 in
set_option maxHeartbeats 8000000 in
theorem reversed_any (r : List (BitVec 64)) (a : Option Addr) (c : Nat) (w : World) (hT : Tab w) (hr : RU w a r) (hck : relCheck r = 0) :
    Calls Tryd.prog 44 #[.slice a r.length c] w fun e w' => (∃ g cp, e = .returned (.slice (some ⟨g, 0, none⟩) r.length cp) ∧ RU w' (some ⟨g, 0, none⟩) (revL r)) ∧ Ext w w' := by
  obtain ⟨h64, hin⟩ := relCheck_ok hck
  refine (callsIn_wide (n := 9)).1 ?_
  refine callsIn_of_wp_marks Tryd.func44 rfl trivial ?_ rfl
  simp only [Tryd.ntmps44, List.size_toArray, List.length_cons, List.length_nil, Nat.reduceAdd, Nat.reduceSub, Array.replicate_succ, Array.replicate_zero, List.push_toArray, List.append_toArray, List.nil_append, List.cons_append]
  have mk1 := fun (w : World) => run_make_row' (P := Tryd.prog) 22 40 (.int .u64 0) 8 Tryd.underlying22 u64_info rfl .i64 .i64 r.length (by omega) (by omega) w
  gi_wp2
  have hE2 : Ext w ((w.alloc (.cells (madeCells #[.int .u64 0] r.length) 40)).alloc (.cells #[.slice (some ⟨w.heap.size, 0, none⟩) r.length r.length] 22)) := ((Ext.refl w).alloc _).alloc _
  have hO : RvO w r 0 [] [] ((w.alloc (.cells (madeCells #[.int .u64 0] r.length) 40)).alloc (.cells #[.slice (some ⟨w.heap.size, 0, none⟩) r.length r.length] 22)) := by
    refine ⟨hE2, ?_, (Bx1.new (w.alloc (.cells (madeCells #[.int .u64 0] r.length) 40)) _ _).at (by simp), List.nodup_nil, fun D hD => by cases hD⟩
    rw [rvL_zero]
    exact (OG.made (enc := uv) w r.length 0#64 (Nat.le_refl _) (by omega)).ext ((Ext.refl _).alloc _)
  clear hE2 mk1
  generalize (w.alloc (.cells (madeCells #[.int .u64 0] r.length) 40)).alloc (.cells #[.slice (some ⟨w.heap.size, 0, none⟩) r.length r.length] 22) = w2 at *
  have HT := Lib.hid hT
  have HR := Lib.hid hr
  have HIN := Lib.hid hin
  clear hT hr hin
  refine wpIn_loop (fun ac W => ∃ (k : Nat) (Ds : List Nat) (u4 u5 u6 u13 u14 u15 u16 u17 u18 u19 u20 u21 u22 u23 u24 u25 u26 u27 u28 : Value), ac = { tmps := #[.slice a r.length c, undef, .slice none 0 0, .pointer (some ⟨w.heap.size + 1, 0, none⟩), u4, u5, u6, .slice a r.length c, .int .i64 (r.length : Int), .slice (some ⟨w.heap.size, 0, none⟩) r.length r.length, .slice a r.length c, .int .i64 (r.length : Int), .int .i64 (k : Int), u13, u14, u15, u16, u17, u18, u19, u20, u21, u22, u23, u24, u25, u26, u27, u28, undef], defers := Ds.map markD } ∧ k ≤ r.length ∧ Hid (RvO w r k [] Ds W)) (fun ac _ => r.length - (RowKit.intOf (ac.tmps.getD 12 undef)).toNat) ?start ?round
  case start => exact ⟨0, [], _, _, _, _, _, _, _, _, _, _, _, _, _, _, _, _, _, _, _, rfl, Nat.zero_le _, Lib.hid hO⟩
  case round =>
    clear hO
    rintro _ W ⟨k, Ds, u4, u5, u6, u13, u14, u15, u16, u17, u18, u19, u20, u21, u22, u23, u24, u25, u26, u27, u28, rfl, hk, HO⟩
    by_cases hkl : k < r.length
    · obtain ⟨b1, o1, ha, hb1, hc1⟩ := (HR.out.ext HO.out.e).get hkl
      subst ha
      gi_wp2_with (refine ⟨trivial, ?_⟩; gi_at_call 46; refine (callsIn_wide.2 (points_any (nth r k) _)).mono ?_; rintro _ _ ⟨rfl, rfl⟩)
      have hsW : W.heap.size + 1 + 1 ≤ ((W.alloc (.cells #[.int .i64 (k : Int)] 3)).alloc (.cells #[.int .u64 (un (nth r k))] 40)).heap.size := by simp
      have hEW : Ext W ((W.alloc (.cells #[.int .i64 (k : Int)] 3)).alloc (.cells #[.int .u64 (un (nth r k))] 40)) := ((Ext.refl W).alloc _).alloc _
      have bw := (Bx1.new W (.int .i64 (k : Int)) 3).ext ((Ext.refl _).alloc (.cells #[.int .u64 (un (nth r k))] 40))
      have bi := (Bx1.new (W.alloc (.cells #[.int .i64 (k : Int)] 3)) (.int .u64 (un (nth r k))) 40).at (b' := W.heap.size + 1) (by simp)
      have hI0 : RvI w r k W.heap.size Ds 0 ((W.alloc (.cells #[.int .i64 (k : Int)] 3)).alloc (.cells #[.int .u64 (un (nth r k))] 40)) := ⟨HO.out.ext hEW, bw⟩
      have hgW := HO.out.ob.lt
      have HDl : Hid (∀ D ∈ Ds, D < W.heap.size) := Lib.hid fun D hD => (Array.getElem?_eq_some_iff.1 (HO.out.dl D hD).2).1
      have hc3 : ((W.alloc (.cells #[.int .i64 (k : Int)] 3)).alloc (.cells #[.int .u64 (un (nth r k))] 40)).cell? ⟨W.heap.size + 1, 0, none⟩ = some (ptsSt (nth r k) 0) := bi.c
      have hf3 := bi.f
      clear bw bi hEW
      generalize (W.alloc (.cells #[.int .i64 (k : Int)] 3)).alloc (.cells #[.int .u64 (un (nth r k))] 40) = W3 at *
      refine wpIn_rangeFunc_pts rfl (by decide) (gf := 83) (b := W.heap.size + 1) rfl trivial (enters_of Tryd.func83 (by kernel_rfl) rfl) (points1_pts _ (by decide) _ (nth r k)) rfl hc3 hf3
        (RvI w r k W.heap.size Ds) (RvI.own (by omega) (by omega) (fun D hD => by have := HDl.out D hD; omega)) (fun j A v h => ⟨h.1.setBox (by omega) (fun D hD => by have := HDl.out D hD; omega) v, h.2.keep (heap_setCell_other _ ⟨W.heap.size + 1, 0, none⟩ _ _ (by simp))⟩) (fun j A h => ⟨h.1.ext (Ext.refl _).drew, h.2.ext (Ext.refl _).drew⟩) (fun j A h => HT.out.ext h.1.e) hI0
        (fun x => { tmps := #[.slice (some ⟨b1, o1, none⟩) r.length c, undef, .slice none 0 0, .pointer (some ⟨w.heap.size + 1, 0, none⟩), .pointer (some ⟨W.heap.size, 0, none⟩), .int .u64 (un (nth r k)), .int .i64 ((x : Nat) : Int), .slice (some ⟨b1, o1, none⟩) r.length c, .int .i64 (r.length : Int), .slice (some ⟨w.heap.size, 0, none⟩) r.length r.length, .slice (some ⟨b1, o1, none⟩) r.length c, .int .i64 (r.length : Int), .int .i64 (k : Int), .bool true, .int .i64 (k : Int), .pointer (some ⟨b1, o1 + k, none⟩), .int .u64 (un (nth r k)), .int .u64 (un (nth r k)), .func (.func 83) #[] #[.pointer (some ⟨W.heap.size + 1, 0, none⟩)], .int .i64 ((x : Nat) : Int), u20, u21, u22, u23, u24, u25, u26, u27, u28, undef], defers := [] }) ?assign ?body ?done
      case assign =>
        intro l j A K hK
        gi_wp2
        exact hK
      case body =>
        intro l j A hj hI
        have HII := Lib.hid hI
        have hv := memL_ltN (HIN.out k hkl) hj
        have hoc := hI.1.ob.c
        have hol := hI.1.ob.lt
        have hwc := hI.2.c
        have hwl := hI.2.lt
        have hrc := hI.1.row.cell hv
        have hrf := hI.1.row.frozen (nth (memL (nth r k)) j)
        have hrl := hI.1.row.lt
        have hk64 : k < 64 := by omega
        have HPP := Lib.hid (hI.1.put h64 hkl hv)
        have HTK := Lib.hid (take_snoc (memL (nth r k)) hj)
        clear hI
        change A.cell? ⟨w.heap.size, nth (memL (nth r k)) j, none⟩ = some (.int .u64 (un (nth (rvL r k ((memL (nth r k)).take j)) (nth (memL (nth r k)) j)))) at hrc
        have hmx : Tryd.prog.follows .mixedOrders = true := by kernel_rfl
        generalize nth (rvL r k ((memL (nth r k)).take j)) (nth (memL (nth r k)) j) = X at *
        gi_wp2
        gi_region_with_o (fail)
        all_goals gi_wp2
        all_goals (try go_bits)
        all_goals exact ⟨(KeepsOthers.setCell _ _ _).trans (KeepsOthers.drew _), ⟨(by rw [RvI_take HTK.out]; exact HPP.out.ext (Ext.refl _).drew), HII.out.2.keep (heap_setCell_other _ ⟨w.heap.size, _, none⟩ _ _ (by simp; omega))⟩, World.cell?_setCell_other _ _ _ _ (by first | (simp; done) | (simp; omega)), by rw [frozen_drew_own, World.frozen?_setCell]⟩
      case done =>
        intro D W4 hD hI hK
        have hO4 : RvO w r (k + 1) [] (D :: Ds) W4 := by
          have h := hI.1
          rw [List.take_length] at h
          exact ⟨h.e, by have h2 := h.row; rw [rvL_next h64] at h2; exact h2, h.ob, List.nodup_cons.2 ⟨fun hm => by have := HDl.out D hm; omega, h.dn⟩, fun E hE => by
            rcases List.mem_cons.1 hE with rfl | hE
            · exact ⟨by omega, hK⟩
            · exact h.dl E hE⟩
        have HO4 := Lib.hid hO4
        clear hI hK hO4
        gi_wp2
        refine ⟨⟨k + 1, D :: Ds, _, _, _, _, _, _, _, _, _, _, _, _, _, _, _, _, _, _, _, rfl, hkl, HO4⟩, ?_⟩
        simp [RowKit.intOf]
        omega
    · obtain rfl : k = r.length := by omega
      have hO := HO.out
      obtain ⟨o0, -⟩ := hO.ob
      have ol := hO.ob.lt
      have HO2 := Lib.hid hO
      clear hO
      gi_wp2
      refine leaves_marks Ds W HO2.out.dn (fun D hD => (HO2.out.dl D hD).2) fun W' hs => ?_
      refine ⟨_, results_tmp rfl _ _ _, ?_⟩
      refine ⟨⟨w.heap.size, r.length, rfl, ?_⟩, hs.ext HO2.out.e fun D hD => by have := (HO2.out.dl D hD).1; omega⟩
      have hrow := HO2.out.row
      rw [rvL_end] at hrow
      have hu := RU_of_OG hrow (by omega)
      refine ⟨hu.len, fun k hk => ⟨w.heap.size, 0, rfl, ?_⟩⟩
      rw [World.cell?_of_block (w := W) (a := ⟨w.heap.size, 0 + k, none⟩) (hs.block _ fun hm => by have := (HO2.out.dl _ hm).1; dsimp only at this; omega)]
      obtain ⟨b, o, e, hc⟩ := hu.at_ k hk
      simp only [Option.some.injEq, Addr.mk.injEq] at e
      obtain ⟨rfl, rfl, -⟩ := e
      exact hc
end Wt
