/- Walks: filter.look (printed by gen_fla.py). -/
import Derived.Test.YtbeaagnahldefaaDoorM7Av
import Derived.Test.YtbeaagnahldefaaDoorM7Ao
import Derived.Test.YtbeaagnahldefaaDoorM7Aw
import Derived.Test.YtbeaagnahldefaaDoorM7As
namespace Wt
open Go Go.RowKit Go.Maps Go.Proofs Fm

set_option maxRecDepth 100000 in
theorem andNot1 (k : Nat) (h : k < 512) : ((k &&& 4294967294 : Nat) = 0) ↔ k < 2 := by
  have : ∀ k : _root_.Fin 512, (((k.val &&& 4294967294 : Nat) = 0) ↔ k.val < 2) := by decide +kernel
  exact this ⟨k, h⟩
/-- A view that look has made. -/
def RetV5 (M : Mo) (va ra : Option Addr) (vc rc : Nat) (f : List Nd) (e : Ending) (w w' : World) : Prop := ∃ b ca sa cc sc, e = .returned (.tuple #[.pointer (some ⟨b, 0, none⟩), .int .i64 0]) ∧ w.heap.size ≤ b ∧ VwAt w' b M.worlds va ra ca sa M.val.length vc M.rel.length rc (fCompact f).length cc (subL M (rt f)).length sc ∧ RN w' ca (fCompact f) ∧ RU w' sa (subL M (rt f)) ∧ Ext w w'
set_option maxRecDepth 20000 in
set_option maxHeartbeats 4000000 in
theorem lookNo_any (M : Mo) (va ra : Option Addr) (vc rc : Nat) (fa : Option Addr) (fc : Nat) (f : List Nd) (w : World) (hm : RM w va ra M) (hf : RN w fa f) (hl : lookErr M f ≠ 0) :
    Calls Tryd.prog 30 #[.agg #[.int .i64 M.worlds, .slice va M.val.length vc, .slice ra M.rel.length rc], .slice fa f.length fc] w fun e w' => e = .returned (.tuple #[.pointer none, .int .i64 (lookErr M f)]) ∧ Ext w w' := by
  have hE0 := (Ext.refl w).alloc (.cells #[.int .i64 M.worlds, .slice va M.val.length vc, .slice ra M.rel.length rc] 25)
  have hm0 := hm.ext hE0
  obtain ⟨m0, m1, m2⟩ := MoBox.new w M.worlds M.val M.rel va vc ra rc 25
  have HE := Lib.hid hE0
  have HF := Lib.hid hf
  have HM := Lib.hid hm
  have hvl := hm.val.len
  have hrl := hm.rel.len
  clear hE0 hf hm
  have HCO : Hid (∀ W, RN W fa f → Calls Tryd.prog 36 #[.slice fa f.length fc] W fun e w' => RetN (fCompact f) e W w') := Lib.hid fun W h => compactF_any fa fc f W h
  have HSE : Hid (∀ W a c, RM W va ra M → RN W a (fCompact f) → Calls Tryd.prog 37 #[.agg #[.int .i64 M.worlds, .slice va M.val.length vc, .slice ra M.rel.length rc], .slice a (fCompact f).length c] W fun e w' => RetS M (fCompact f) e W w') := Lib.hid fun W a c h1 h2 => sets_any M va ra vc rc a c (fCompact f) W h1 h2
  by_cases h1 : moCheck M = 0
  · have H1 := Lib.hid h1
    by_cases h2 : fCheck f = 0
    · have H2 := Lib.hid h2
      have hfr2 : fFrags f < 512 := unionL_lt fragN fragN_lt (fCompact f)
      have han : bits .andNot .i64 (fFrags f : Int) 1 = ((fFrags f &&& 4294967294 : Nat) : Int) := andNot_nat (fFrags f) 1 (by omega) (by omega)
      by_cases h3 : 2 ≤ fFrags f
      · have hn : lookErr M f = 10 := by unfold lookErr; rw [if_neg (by simp [h1]), if_neg (by simp [h2]), if_pos h3]
        have HN := Lib.hid hn
        have hq : (((fFrags f &&& 4294967294 : Nat) : Int) != 0) = true := by
          have := andNot1 (fFrags f) hfr2
          simp; omega
        clear h1 h2 h3 hn hfr2 hl
        go_enter Tryd.func30, Tryd.ntmps30
        go_wp2_with (first | (go_at_call 48; refine (modelCheck_any M va ra vc rc _ hm0).mono ?_; rintro e w1 ⟨rfl, hE1⟩; rw [H1.out]; have q0 := hE1.cell m0; have q1 := hE1.cell m1; have q2 := hE1.cell m2; clear m0 m1 m2; skip) | (go_at_call 69; refine (check_any _ _ f _ (HF.out.ext (HE.out.trans hE1))).mono ?_; rintro e w2 ⟨rfl, hE2⟩; rw [H2.out]; have p0 := hE2.cell q0; have p1 := hE2.cell q1; have p2 := hE2.cell q2; clear q0 q1 q2; have hA := (HE.out.trans hE1).trans hE2) | (go_at_call 70; refine (frags_any _ _ f _ (HF.out.ext hA)).mono ?_; rintro e w3 ⟨rfl, hE3⟩; have s0 := hE3.cell p0; have s1 := hE3.cell p1; have s2 := hE3.cell p2; clear p0 p1 p2; have hB := hA.trans hE3))
        go_ret2
        exact ⟨by rw [HN.out]; rfl, hB⟩
      · have hq : (((fFrags f &&& 4294967294 : Nat) : Int) != 0) = false := by
          have := andNot1 (fFrags f) hfr2
          simp; omega
        have HR : Hid (reqErr M (fCompact f) = lookErr M f) := Lib.hid (look_req h1 h2 (by omega)).symm
        have hs0 : setsOf M (fCompact f) = [] := if_neg (by rw [HR.out]; exact hl)
        have hne : (lookErr M f != 0) = true := by simpa using hl
        have HS0 := Lib.hid hs0
        clear h1 h2 h3 hfr2 hl hs0
        generalize hle : lookErr M f = er at *
        go_enter Tryd.func30, Tryd.ntmps30
        go_wp2_with (first | (go_at_call 48; refine (modelCheck_any M va ra vc rc _ hm0).mono ?_; rintro e w1 ⟨rfl, hE1⟩; rw [H1.out]; have q0 := hE1.cell m0; have q1 := hE1.cell m1; have q2 := hE1.cell m2; clear m0 m1 m2; skip) | (go_at_call 69; refine (check_any _ _ f _ (HF.out.ext (HE.out.trans hE1))).mono ?_; rintro e w2 ⟨rfl, hE2⟩; rw [H2.out]; have p0 := hE2.cell q0; have p1 := hE2.cell q1; have p2 := hE2.cell q2; clear q0 q1 q2; have hA := (HE.out.trans hE1).trans hE2) | (go_at_call 70; refine (frags_any _ _ f _ (HF.out.ext hA)).mono ?_; rintro e w3 ⟨rfl, hE3⟩; have s0 := hE3.cell p0; have s1 := hE3.cell p1; have s2 := hE3.cell p2; clear p0 p1 p2; have hB := hA.trans hE3) | (go_at_call 36; refine (HCO.out _ (HF.out.ext hB)).mono ?_; rintro e w4 ⟨ca, cc, rfl, hc4, hE4⟩; have t0 := hE4.cell s0; have t1 := hE4.cell s1; have t2 := hE4.cell s2; clear s0 s1 s2; have hC := hB.trans hE4) | (go_at_call 37; refine (HSE.out _ ca cc (HM.out.ext hC) hc4).mono ?_; rintro e w5 ⟨sa, sc, rfl, hs5, hE5⟩; rw [HR.out]))
        go_ret2
        exact ⟨rfl, hC.trans hE5⟩
    · have hn : lookErr M f = fCheck f := by unfold lookErr; rw [if_neg (by simp [h1]), if_pos h2]
      have HN := Lib.hid hn
      have hq2 : (fCheck f != 0) = true := by simp [h2]
      clear h1 h2 hn hl
      go_enter Tryd.func30, Tryd.ntmps30
      go_wp2_with (first | (go_at_call 48; refine (modelCheck_any M va ra vc rc _ hm0).mono ?_; rintro e w1 ⟨rfl, hE1⟩; rw [H1.out]; have q0 := hE1.cell m0; have q1 := hE1.cell m1; have q2 := hE1.cell m2; clear m0 m1 m2; skip) | (go_at_call 69; refine (check_any _ _ f _ (HF.out.ext (HE.out.trans hE1))).mono ?_; rintro e w2 ⟨rfl, hE2⟩))
      go_ret2
      exact ⟨by rw [HN.out]; rfl, (HE.out.trans hE1).trans hE2⟩
  · have hn : lookErr M f = moCheck M := by unfold lookErr; rw [if_pos h1]
    have HN := Lib.hid hn
    have hq2 : (moCheck M != 0) = true := by simp [h1]
    clear h1 hn hl
    go_enter Tryd.func30, Tryd.ntmps30
    go_wp2_with (go_at_call 48; refine (modelCheck_any M va ra vc rc _ hm0).mono ?_; rintro e w1 ⟨rfl, hE1⟩)
    go_ret2
    exact ⟨by rw [HN.out]; rfl, HE.out.trans hE1⟩
set_option maxRecDepth 20000 in
set_option maxHeartbeats 4000000 in
theorem look_any (M : Mo) (va ra : Option Addr) (vc rc : Nat) (fa : Option Addr) (fc : Nat) (f : List Nd) (w : World) (hm : RM w va ra M) (hf : RN w fa f) (hl : lookErr M f = 0) :
    Calls Tryd.prog 30 #[.agg #[.int .i64 M.worlds, .slice va M.val.length vc, .slice ra M.rel.length rc], .slice fa f.length fc] w fun e w' => RetV5 M va ra vc rc f e w w' := by
  have hE0 := (Ext.refl w).alloc (.cells #[.int .i64 M.worlds, .slice va M.val.length vc, .slice ra M.rel.length rc] 25)
  have hm0 := hm.ext hE0
  obtain ⟨m0, m1, m2⟩ := MoBox.new w M.worlds M.val M.rel va vc ra rc 25
  have HE := Lib.hid hE0
  have HF := Lib.hid hf
  have HM := Lib.hid hm
  have hvl := hm.val.len
  have hrl := hm.rel.len
  clear hE0 hf hm
  have HCO : Hid (∀ W, RN W fa f → Calls Tryd.prog 36 #[.slice fa f.length fc] W fun e w' => RetN (fCompact f) e W w') := Lib.hid fun W h => compactF_any fa fc f W h
  have HSE : Hid (∀ W a c, RM W va ra M → RN W a (fCompact f) → Calls Tryd.prog 37 #[.agg #[.int .i64 M.worlds, .slice va M.val.length vc, .slice ra M.rel.length rc], .slice a (fCompact f).length c] W fun e w' => RetS M (fCompact f) e W w') := Lib.hid fun W a c h1 h2 => sets_any M va ra vc rc a c (fCompact f) W h1 h2
  obtain ⟨h1, h2, h3, h4⟩ := lookErr_ok hl
  have H1 := Lib.hid h1
  have H2 := Lib.hid h2
  have hfr2 : fFrags f < 512 := unionL_lt fragN fragN_lt (fCompact f)
  have han : bits .andNot .i64 (fFrags f : Int) 1 = ((fFrags f &&& 4294967294 : Nat) : Int) := andNot_nat (fFrags f) 1 (by omega) (by omega)
  have hq : (((fFrags f &&& 4294967294 : Nat) : Int) != 0) = false := by
    have := andNot1 (fFrags f) hfr2
    simp; omega
  have HR : Hid (reqErr M (fCompact f) = 0) := Lib.hid (by rw [← look_req h1 h2 h3]; exact hl)
  have HS0 := Lib.hid (look_sets hl).1
  clear h1 h2 h3 h4 hfr2 hl
  go_enter Tryd.func30, Tryd.ntmps30
  go_wp2_with (first | (go_at_call 48; refine (modelCheck_any M va ra vc rc _ hm0).mono ?_; rintro e w1 ⟨rfl, hE1⟩; rw [H1.out]; have q0 := hE1.cell m0; have q1 := hE1.cell m1; have q2 := hE1.cell m2; clear m0 m1 m2; skip) | (go_at_call 69; refine (check_any _ _ f _ (HF.out.ext (HE.out.trans hE1))).mono ?_; rintro e w2 ⟨rfl, hE2⟩; rw [H2.out]; have p0 := hE2.cell q0; have p1 := hE2.cell q1; have p2 := hE2.cell q2; clear q0 q1 q2; have hA := (HE.out.trans hE1).trans hE2) | (go_at_call 70; refine (frags_any _ _ f _ (HF.out.ext hA)).mono ?_; rintro e w3 ⟨rfl, hE3⟩; have s0 := hE3.cell p0; have s1 := hE3.cell p1; have s2 := hE3.cell p2; clear p0 p1 p2; have hB := hA.trans hE3) | (go_at_call 36; refine (HCO.out _ (HF.out.ext hB)).mono ?_; rintro e w4 ⟨ca, cc, rfl, hc4, hE4⟩; have t0 := hE4.cell s0; have t1 := hE4.cell s1; have t2 := hE4.cell s2; clear s0 s1 s2; have hC := hB.trans hE4) | (go_at_call 37; refine (HSE.out _ ca cc (HM.out.ext hC) hc4).mono ?_; rintro e w5 ⟨sa, sc, rfl, hs5, hE5⟩; rw [HR.out]; rw [HS0.out] at hs5 ⊢; have u0 := hE5.cell t0; have u1 := hE5.cell t1; have u2 := hE5.cell t2; clear t0 t1 t2; have hD := hC.trans hE5; have hRN5 := hc4.ext hE5))
  go_ret2
  have hX : Ext w5 (w5.alloc (.cells #[.int .i64 M.worlds, .slice va M.val.length vc, .slice ra M.rel.length rc, .slice ca (fCompact f).length cc, .slice sa (subL M (rt f)).length sc] 107)) := (Ext.refl w5).alloc _
  exact ⟨w5.heap.size, ca, sa, cc, sc, rfl, hD.size, VwAt.new _ _ _ _ _ _ _ _ _ _ _ _ _ _ _, hRN5.ext hX, hs5.ext hX, hD.trans hX⟩
end Wt

/- Plain and small walks for (*view).build: a row of the filtration as it grows; the class of a world as an index. -/
namespace Wt
open Go Go.RowKit Go.Maps Go.Proofs Fm

section
variable (reps : List Nat) (R : Nat → Nat → Nat → Bool) (a : Nat)
/-- Row a, of which c entries are done and d steps of the next. -/
def rwP (c d : Nat) : List (BitVec 64) := (List.range reps.length).map fun i => setTo (fun e => R a (nth reps i) (nth reps e)) (if i < c then reps.length else if i = c then d else 0)
theorem rwP_len (c d : Nat) : (rwP reps R a c d).length = reps.length := by simp [rwP]
theorem rwP_zero : rwP reps R a 0 0 = List.replicate reps.length 0#64 := by
  unfold rwP
  rw [show (fun i => setTo (fun e => R a (nth reps i) (nth reps e)) (if i < 0 then reps.length else if i = 0 then 0 else 0)) = fun _ => 0#64 from funext fun i => by simp [setTo]]
  simp [List.map_const']
theorem rwP_next (c : Nat) : rwP reps R a c reps.length = rwP reps R a (c + 1) 0 := by
  unfold rwP
  refine List.map_congr_left fun i _ => ?_
  congr 1
  by_cases h1 : i < c
  · rw [if_pos h1, if_pos (by omega)]
  · by_cases h2 : i = c
    · rw [if_neg h1, if_pos h2, if_pos (by omega)]
    · rw [if_neg h1, if_neg h2, if_neg (by omega)]
      split <;> rfl
theorem rwP_nth {c : Nat} (d : Nat) (hc : c < reps.length) : nth (rwP reps R a c d) c = setTo (fun e => R a (nth reps c) (nth reps e)) d := by
  unfold rwP
  rw [nth_mapX _ hc, if_neg (by omega), if_pos rfl]
theorem rwP_set {c : Nat} (d : Nat) (hc : c < reps.length) : (rwP reps R a c d).set c (setTo (fun e => R a (nth reps c) (nth reps e)) (d + 1)) = rwP reps R a c (d + 1) := by
  refine nth_ext (by simp [rwP]) fun i hi => ?_
  have hi : i < reps.length := by simpa [rwP] using hi
  rw [nth_eq _ _ (by rw [List.length_set, rwP_len]; exact hi), List.getElem_set]
  by_cases e : c = i
  · subst e; rw [if_pos rfl, rwP_nth _ _ _ _ hc]
  · rw [if_neg e, ← nth_eq _ _ (by rw [rwP_len]; exact hi)]
    unfold rwP
    rw [nth_mapX _ hi, nth_mapX _ hi]
    have e2 : ¬ i = c := fun h => e h.symm
    simp only [e2, if_false]
theorem rwP_no {c d : Nat} (h : R a (nth reps c) (nth reps d) = false) : rwP reps R a c (d + 1) = rwP reps R a c d := by
  unfold rwP
  refine List.map_congr_left fun i _ => ?_
  by_cases e : i = c
  · subst e
    rw [if_neg (by omega), if_pos rfl, if_neg (by omega), if_pos rfl]
    show (if R a (nth reps i) (nth reps d) = true then _ else _) = _
    rw [h]; simp
  · simp [e]
theorem rwP_yes {c d : Nat} (hc : c < reps.length) (h : R a (nth reps c) (nth reps d) = true) : (rwP reps R a c d).set c (nth (rwP reps R a c d) c ||| 1#64 <<< d) = rwP reps R a c (d + 1) := by
  rw [← rwP_set _ _ _ _ hc, rwP_nth _ _ _ _ hc]
  congr 1
  show _ = if R a (nth reps c) (nth reps d) = true then _ else _
  rw [if_pos h]
theorem rwP_all : rwP reps R a reps.length 0 = reps.map fun x => setTo (fun d => R a x (nth reps d)) reps.length := by
  refine nth_ext (by simp [rwP]) fun i hi => ?_
  have hi : i < reps.length := by simpa [rwP] using hi
  rw [nth_mapN _ _ hi]
  unfold rwP
  rw [nth_mapX _ hi, if_pos hi]
end
theorem idx_first {L : List (BitVec 64)} {N k j : Nat} (hj : j < clsOf L N k) (hk : k < N) : nth (repL L N) j ≠ lowOf L k := by
  intro e
  have hl := clsOf_lt L hk
  have h1 := clsOf_rep (L := L) (N := N) (c := j) (by omega)
  have h2 : clsOf L N (nth (repL L N) j) = clsOf L N k := by
    unfold clsOf
    rw [e, lowOf_idem]
  omega
set_option maxHeartbeats 1000000 in
theorem index_cls (L : List (BitVec 64)) (N k : Nat) (a : Option Addr) (c : Nat) (w : World) (hN : N ≤ 1000) (hk : k < N) (hr : RI w a (natI (repL L N))) :
    Calls Tryd.prog 75 #[.slice a (repL L N).length c, .int .i64 ((lowOf L k : Nat) : Int)] w fun e w' => e = .returned (.int .i64 ((clsOf L N k : Nat) : Int)) ∧ w = w' := by
  have HR := Lib.hid hr
  have hcl := clsOf_lt L hk
  have hrl := repL_len L N
  have HI := Lib.hid (fun j (hj : j < clsOf L N k) => idx_first hj hk)
  have HE := Lib.hid (clsOf_nth L hk)
  have hll : (natI (repL L N)).length = (repL L N).length := by simp [natI]
  generalize clsOf L N k = p at *
  generalize lowOf L k = x at *
  generalize repL L N = l at *
  clear hr
  go_enter Tryd.func75, Tryd.ntmps75
  go_wp2
  go_loop [8] (fun i => ∃ k : Nat, k ≤ p ∧ i = .int .i64 (k : Int)) (fun i => l.length - (RowKit.intOf i).toNat)
  case atStart => exact ⟨0, Nat.zero_le _, rfl⟩
  case round =>
    obtain ⟨k, hk, rfl⟩ := hrel
    have hlt : k < l.length := by omega
    obtain ⟨b, off, rfl, hb, hc⟩ := HR.out.get (k := k) (by omega)
    rw [nth_natI hlt] at hc
    by_cases he : k = p
    · subst he
      rw [HE.out] at hc
      have hq : ((x : Int) == (x : Int)) = true := by simp
      go_wp2
      go_ret
      exact ⟨rfl, rfl⟩
    · have hq : ((x : Int) == ((nth l k : Nat) : Int)) = false := by
        have := HI.out k (by omega)
        simp; omega
      have hk2 : k + 1 ≤ p := by omega
      clear he
      go_wp2
      go_round
      case rel => exact ⟨k + 1, hk2, by go_num⟩
      case measure => simp [RowKit.intOf]; omega
theorem results_cell_tmp {fn : Func} {p u : Tmp} {ty : TypeId} (h : fn.results = #[.cell p ty, .tmp u]) (tmps : Array Value) (P : Program) (w : World) :
    (results fn tmps).run P w = ((asAddr (tmps.getD p undef)).run P w).andThen fun a w₁ => ((loadVar ty a).run P w₁).andThen fun x w₂ => .ok (.tuple #[x, tmps.getD u undef]) w₂ := by
  simp only [results, h]
  simp [Sem.run_bind, Result.andThen]
/-- A model and a list that the call has made. -/
def RetFil (A : Mo) (l : List Nat) (e : Ending) (w w' : World) : Prop := ∃ va ra la vc rc lc, e = .returned (.tuple #[.agg #[.int .i64 A.worlds, .slice va A.val.length vc, .slice ra A.rel.length rc], .slice la l.length lc]) ∧ (∀ w'', Agree w.heap.size w' w'' → RM w'' va ra A ∧ RI w'' la (natI l)) ∧ Ext w w'
end Wt
