/- Plain: the trees of the lists that wittingref05's constructors make; walks: short, One. -/
import Derived.Test.YtoacdccachhjdaaGreatDoorMAEe
import Derived.Test.YtoacdccachhjdaaGreatDoorMAAt
import Derived.Test.YtoacdccachhjdaaGreatDoorMAAq
import Derived.Test.YtoacdccachhjdaaGreatDoorMAAs
namespace Wt
open Go Go.RowKit Go.Maps Go.Proofs Fm

section
variable {f g : List Nd} {a b : Fm} {o i e q : Int}
/-! What the program's constructors make, as canonical lists. -/
theorem fB_un {o i e q : Int} (h : IsF f a) (hk : fok (.un o i e q a)) (hs : fsize (.un o i e q a) ≤ 200) : fB ⟨o, i, e, q, 0, 0⟩ [f] = canon (.un o i e q a) := by
  obtain ⟨k1, k2, k3, k4, k5, k6⟩ := hk
  have hm : (canon a).length = fsize a := canon_length a
  have hp := fsize_pos a
  have e1 : bF [f] 1 = (canon a).map (shN 0) := by rw [← h.compact]; rfl
  have l1 : (bF [f] 1).length = fsize a := by rw [e1]; simp
  have e2 : bX ⟨o, i, e, q, 0, 0⟩ [f] 1 = ⟨o, i, e, q, (fsize a : Int) - 1, 0⟩ := by
    show Nd.mk o i e q (((bF [f] 1).length : Int) - 1) 0 = _
    rw [l1]
  have hn : nodeErr ⟨o, i, e, q, (fsize a : Int) - 1, 0⟩ (bF [f] 1).length = 0 := by
    refine nodeErr_zero k1 ?_ ?_ k4 k5
    · show opnd (useOf o).1.x ((fsize a : Int) - 1) _ = true
      rw [k2, l1]; simp [opnd]; omega
    · show opnd (useOf o).1.y 0 _ = true
      rw [k3]; simp [opnd]
  have hw : Wf (bF [f] 1 ++ [⟨o, i, e, q, (fsize a : Int) - 1, 0⟩]) := (bF_wf [f] 1).snoc hn
  have ht : bT ⟨o, i, e, q, 0, 0⟩ [f] = .un o i e q a := by
    show trAt (bF [f] 1 ++ [bX _ [f] 1]) (bF [f] 1).length = _
    rw [e2]
    have hl : (bF [f] 1).length < (bF [f] 1 ++ [Nd.mk o i e q ((fsize a : Int) - 1) 0]).length := by simp
    have en : nth (bF [f] 1 ++ [Nd.mk o i e q ((fsize a : Int) - 1) 0]) (bF [f] 1).length = ⟨o, i, e, q, (fsize a : Int) - 1, 0⟩ := by
      have := nth_appR (bF [f] 1) [Nd.mk o i e q ((fsize a : Int) - 1) 0] (k := 0) (by simp)
      rw [Nat.add_zero] at this; rw [this]; rfl
    rw [trAt_un hw hl (by rw [en]; exact k2) (by rw [en]; exact k3), en]
    show Fm.un o i e q (trAt _ ((fsize a : Int) - 1).toNat) = _
    congr 1
    have hs := trAt_sh (l := bF [f] 1 ++ [Nd.mk o i e q ((fsize a : Int) - 1) 0]) (C := canon a) (s := 0) (canon_wf a k6) (fun j hj => by
      rw [Nat.zero_add, nth_appL _ _ (by rw [l1]; omega), e1, nth_mapN _ _ hj]) (k := fsize a - 1) (by omega)
    rw [show ((fsize a : Int) - 1).toNat = 0 + (fsize a - 1) by omega, hs]
    have := trAt_canon a k6; rwa [hm] at this
  have hB : fB ⟨o, i, e, q, 0, 0⟩ [f] = canon (.un o i e q a) := by
    unfold fB
    rw [ht]
    have c1 : nodeErr (bX ⟨o, i, e, q, 0, 0⟩ [f] [f].length) (bF [f] [f].length).length = 0 := by
      show nodeErr (bX _ [f] 1) (bF [f] 1).length = 0
      rw [e2]; exact hn
    rw [c1]
    simp [h.ok]
    omega
  exact hB
theorem fB_bin {o i e q : Int} (h : IsF f a) (h2 : IsF g b) (hk : fok (.bin o i e q a b)) (hs : fsize (.bin o i e q a b) ≤ 200) (hx : (useOf o).1.x = true) : fB ⟨o, i, e, q, 0, 0⟩ [f, g] = canon (.bin o i e q a b) := by
  obtain ⟨k1, k3, k4, k5, k6, k7⟩ := hk
  have hm : (canon a).length = fsize a := canon_length a
  have hm2 : (canon b).length = fsize b := canon_length b
  have hp := fsize_pos a
  have hp2 := fsize_pos b
  have e1 : bF [f, g] 1 = (canon a).map (shN 0) := by rw [← h.compact]; rfl
  have l1 : (bF [f, g] 1).length = fsize a := by rw [e1]; simp
  have e3 : bF [f, g] 2 = bF [f, g] 1 ++ (canon b).map (shN (fsize a)) := by rw [← h2.compact, ← l1]; rfl
  have l2 : (bF [f, g] 2).length = fsize a + fsize b := by rw [e3]; simp [l1]
  have e2 : bX ⟨o, i, e, q, 0, 0⟩ [f, g] 2 = ⟨o, i, e, q, (fsize a : Int) - 1, (fsize a : Int) + fsize b - 1⟩ := by
    show Nd.mk o i e q (((bF [f, g] 1).length : Int) - 1) (((bF [f, g] 2).length : Int) - 1) = _
    rw [l1, l2]; simp
  have hn : nodeErr ⟨o, i, e, q, (fsize a : Int) - 1, (fsize a : Int) + fsize b - 1⟩ (bF [f, g] 2).length = 0 := by
    refine nodeErr_zero k1 ?_ ?_ k4 k5
    · show opnd (useOf o).1.x ((fsize a : Int) - 1) _ = true
      rw [hx, l2]; simp [opnd]; omega
    · show opnd (useOf o).1.y ((fsize a : Int) + fsize b - 1) _ = true
      rw [k3, l2]; simp [opnd]; omega
  have hw : Wf (bF [f, g] 2 ++ [⟨o, i, e, q, (fsize a : Int) - 1, (fsize a : Int) + fsize b - 1⟩]) := (bF_wf [f, g] 2).snoc hn
  have ht : bT ⟨o, i, e, q, 0, 0⟩ [f, g] = .bin o i e q a b := by
    show trAt (bF [f, g] 2 ++ [bX _ [f, g] 2]) (bF [f, g] 2).length = _
    rw [e2]
    generalize hn' : Nd.mk o i e q ((fsize a : Int) - 1) ((fsize a : Int) + fsize b - 1) = nd at *
    have hl : (bF [f, g] 2).length < (bF [f, g] 2 ++ [nd]).length := by simp
    have en : nth (bF [f, g] 2 ++ [nd]) (bF [f, g] 2).length = nd := by
      have := nth_appR (bF [f, g] 2) [nd] (k := 0) (by simp)
      rw [Nat.add_zero] at this; rw [this]; rfl
    rw [trAt_bin hw hl (by rw [en, ← hn']; exact k3), en, ← hn']
    show Fm.bin o i e q (trAt _ ((fsize a : Int) - 1).toNat) (trAt _ ((fsize a : Int) + fsize b - 1).toNat) = _
    have hs1 := trAt_sh (l := bF [f, g] 2 ++ [Nd.mk o i e q ((fsize a : Int) - 1) ((fsize a : Int) + fsize b - 1)]) (C := canon a) (s := 0) (canon_wf a k6) (fun j hj => by
      rw [Nat.zero_add, nth_appL _ _ (by rw [l2]; omega), e3, nth_appL _ _ (by rw [l1]; omega), e1, nth_mapN _ _ hj]) (k := fsize a - 1) (by omega)
    have hs2 := trAt_sh (l := bF [f, g] 2 ++ [Nd.mk o i e q ((fsize a : Int) - 1) ((fsize a : Int) + fsize b - 1)]) (C := canon b) (s := fsize a) (canon_wf b k7) (fun j hj => by
      have := nth_appR (bF [f, g] 1) ((canon b).map (shN (fsize a))) (k := j) (by simpa using hj)
      rw [l1] at this
      rw [nth_appL _ _ (by rw [l2]; omega), e3, this, nth_mapN _ _ hj]) (k := fsize b - 1) (by omega)
    rw [show ((fsize a : Int) - 1).toNat = 0 + (fsize a - 1) by omega, hs1, show ((fsize a : Int) + fsize b - 1).toNat = fsize a + (fsize b - 1) by omega, hs2]
    have r1 := trAt_canon a k6
    have r2 := trAt_canon b k7
    rw [hm] at r1; rw [hm2] at r2
    rw [r1, r2]
  have hB : fB ⟨o, i, e, q, 0, 0⟩ [f, g] = canon (.bin o i e q a b) := by
    unfold fB
    rw [ht]
    have c1 : nodeErr (bX ⟨o, i, e, q, 0, 0⟩ [f, g] [f, g].length) (bF [f, g] [f, g].length).length = 0 := by
      show nodeErr (bX _ [f, g] 2) (bF [f, g] 2).length = 0
      rw [e2]; exact hn
    rw [c1]
    simp [h.ok, h2.ok]
    omega
  exact hB
/-- A node behind a formula. -/
theorem ru_tree (h : IsF f a) (hk : fok (.un o i e q a)) : nodeErr ⟨o, i, e, q, (f.length : Int) - 1, 0⟩ f.length = 0 ∧ Wf (f ++ [⟨o, i, e, q, (f.length : Int) - 1, 0⟩]) ∧ trAt (f ++ [⟨o, i, e, q, (f.length : Int) - 1, 0⟩]) f.length = .un o i e q a := by
  obtain ⟨k1, k2, k3, k4, k5, k6⟩ := hk
  obtain ⟨h0, _, hw⟩ := fCheck_ok.1 h.ok
  have hn : nodeErr ⟨o, i, e, q, (f.length : Int) - 1, 0⟩ f.length = 0 := by
    refine nodeErr_zero k1 ?_ ?_ k4 k5
    · show opnd (useOf o).1.x ((f.length : Int) - 1) _ = true
      rw [k2]; simp [opnd]; omega
    · show opnd (useOf o).1.y 0 _ = true
      rw [k3]; simp [opnd]
  have hw2 := hw.snoc hn
  refine ⟨hn, hw2, ?_⟩
  have hl : f.length < (f ++ [Nd.mk o i e q ((f.length : Int) - 1) 0]).length := by simp
  have en : nth (f ++ [Nd.mk o i e q ((f.length : Int) - 1) 0]) f.length = ⟨o, i, e, q, (f.length : Int) - 1, 0⟩ := by
    have := nth_appR f [Nd.mk o i e q ((f.length : Int) - 1) 0] (k := 0) (by simp)
    rw [Nat.add_zero] at this; rw [this]; rfl
  rw [trAt_un hw2 hl (by rw [en]; exact k2) (by rw [en]; exact k3), en]
  show Fm.un o i e q (trAt _ ((f.length : Int) - 1).toNat) = _
  congr 1
  have hs := trAt_sh (l := f ++ [Nd.mk o i e q ((f.length : Int) - 1) 0]) (C := f) (s := 0) hw (fun j hj => by
    rw [Nat.zero_add, nth_appL _ _ hj]; simp [shN]) (k := f.length - 1) (by omega)
  rw [show ((f.length : Int) - 1).toNat = 0 + (f.length - 1) by omega, hs]
  exact h.tree
/-- A node behind two formulas. -/
theorem rb_tree (h : IsF f a) (h2 : IsF g b) (hk : fok (.bin o i e q a b)) (hx : (useOf o).1.x = true) : nodeErr ⟨o, i, e, q, (f.length : Int) - 1, (f.length : Int) + g.length - 1⟩ (f.length + g.length : Nat) = 0 ∧ Wf ((f ++ g.map (shN f.length)) ++ [⟨o, i, e, q, (f.length : Int) - 1, (f.length : Int) + g.length - 1⟩]) ∧ trAt ((f ++ g.map (shN f.length)) ++ [⟨o, i, e, q, (f.length : Int) - 1, (f.length : Int) + g.length - 1⟩]) (f.length + g.length) = .bin o i e q a b := by
  obtain ⟨k1, k3, k4, k5, k6, k7⟩ := hk
  obtain ⟨h0, _, hw⟩ := fCheck_ok.1 h.ok
  obtain ⟨h3, _, hwg⟩ := fCheck_ok.1 h2.ok
  have hwa : Wf (f ++ g.map (shN f.length)) := hw.appSh hwg
  have hla : (f ++ g.map (shN f.length)).length = f.length + g.length := by simp
  have hn : nodeErr ⟨o, i, e, q, (f.length : Int) - 1, (f.length : Int) + g.length - 1⟩ (f.length + g.length : Nat) = 0 := by
    refine nodeErr_zero k1 ?_ ?_ k4 k5
    · show opnd (useOf o).1.x ((f.length : Int) - 1) _ = true
      rw [hx]; simp [opnd]; omega
    · show opnd (useOf o).1.y ((f.length : Int) + g.length - 1) _ = true
      rw [k3]; simp [opnd]; omega
  have hw2 : Wf ((f ++ g.map (shN f.length)) ++ [⟨o, i, e, q, (f.length : Int) - 1, (f.length : Int) + g.length - 1⟩]) := hwa.snoc (by rw [hla]; exact hn)
  refine ⟨hn, hw2, ?_⟩
  generalize hnd : Nd.mk o i e q ((f.length : Int) - 1) ((f.length : Int) + g.length - 1) = nd at *
  have hl : f.length + g.length < ((f ++ g.map (shN f.length)) ++ [nd]).length := by simp
  have en : nth ((f ++ g.map (shN f.length)) ++ [nd]) (f.length + g.length) = nd := by
    have := nth_appR (f ++ g.map (shN f.length)) [nd] (k := 0) (by simp)
    rw [Nat.add_zero, hla] at this; rw [this]; rfl
  rw [trAt_bin hw2 hl (by rw [en, ← hnd]; exact k3), en, ← hnd]
  show Fm.bin o i e q (trAt _ ((f.length : Int) - 1).toNat) (trAt _ ((f.length : Int) + g.length - 1).toNat) = _
  have hs1 := trAt_sh (l := (f ++ g.map (shN f.length)) ++ [Nd.mk o i e q ((f.length : Int) - 1) ((f.length : Int) + g.length - 1)]) (C := f) (s := 0) hw (fun j hj => by
    rw [Nat.zero_add, nth_appL _ _ (by rw [hla]; omega), nth_appL _ _ hj]; simp [shN]) (k := f.length - 1) (by omega)
  have hs2 := trAt_sh (l := (f ++ g.map (shN f.length)) ++ [Nd.mk o i e q ((f.length : Int) - 1) ((f.length : Int) + g.length - 1)]) (C := g) (s := f.length) hwg (fun j hj => by
    have := nth_appR f (g.map (shN f.length)) (k := j) (by simpa using hj)
    rw [nth_appL _ _ (by rw [hla]; omega), this, nth_mapN _ _ hj]) (k := g.length - 1) (by omega)
  rw [show ((f.length : Int) - 1).toNat = 0 + (f.length - 1) by omega, hs1, show ((f.length : Int) + g.length - 1).toNat = f.length + (g.length - 1) by omega, hs2]
  have r1 := h.tree
  have r2 := h2.tree
  unfold rt at r1 r2
  rw [r1, r2]
end
theorem RS.sliceF {w : World} {wb g c : Nat} {l : List Nd} {W : World} {L : List Fm} {v : Value} {D : List Int} (h : RS w wb g c l W L v D) (hl : l.length ≤ 1000) : ∃ va vc, v = .slice va L.length vc ∧ RN W va (encL L) ∧ Fresh va wb := by
  obtain ⟨va, vc, hv, hrn, hf⟩ := RN_fresh (l := encL L) (by rw [encL_length]; exact h.own) (by rw [encL_length]; have := h.len; omega)
  rw [encL_length] at hv
  exact ⟨va, vc, hv, hrn, fun b off e => by have := hf b off e; omega⟩
theorem Fresh.mono' {a : Option Addr} {n m : Nat} (h : Fresh a n) (hm : m ≤ n) : Fresh a m := fun b off e => Nat.le_trans hm (h b off e)
set_option maxRecDepth 20000 in
set_option maxHeartbeats 2000000 in
theorem r5short_any (fa : Option Addr) (fc : Nat) (l : List Nd) (w : World) (hr : RN w fa l) (hw : Wf l) (hl0 : 0 < l.length) (hl4 : l.length ≤ 401) (hs : fsize (trAt l (l.length - 1)) ≤ 200) :
    Calls Tryz.prog 130 #[.slice fa l.length fc] w fun e w' => RetNF (canon (trAt l (l.length - 1))) e w w' := by
  have HW := Lib.hid hw
  have HR := Lib.hid hr
  have HSZ := Lib.hid hs
  obtain ⟨i0, hi1, hz0, hz1, hz2⟩ := info_parts int_infoG
  clear hr hw hs
  go_enter Tryz.func130, Tryz.ntmps130
  go_wp2
  go_loopw [4] (fun i wr => ∃ k : Nat, k ≤ l.length ∧ i = .int .i64 k ∧ PSE w.heap.size w k wr) (fun i _ => l.length - (intOf i).toNat)
  case atStart => exact ⟨0, Nat.zero_le _, rfl, _, PS.start w _⟩
  case round =>
    obtain ⟨q, hq, rfl, vd, hp⟩ := hrel
    by_cases hlt : q < l.length
    · have c0 := hp.c0
      have c1 := hp.c1
      have hz := hp.hi
      have HP := Lib.hid hp
      have HO : Hid (∀ o, (wr.alloc o).ownsRow (w.heap.size + 1) 3 1 vd q (List.replicate q (.int .i64 (-1)))) := fun o => (hp.ext' ((Ext.refl wr).alloc o)).own
      have HPA : Hid (∀ o, PS w.heap.size w q (wr.alloc o) vd) := fun o => hp.ext' ((Ext.refl wr).alloc o)
      have hvb := hp.own.lt
      have HNV : Hid (some w.heap.size ≠ vd.ownBlock) := fun e => by have := (hvb _ e.symm).1; omega
      have HFZ : Hid (∀ o W1, (wr.alloc o).grownBy W1 vd.ownBlock → W1.frozen? ⟨w.heap.size, 1, none⟩ = false) := by
        intro o W1 hg
        have hlt : w.heap.size < (wr.alloc o).heap.size := by
          have : (wr.alloc o).heap.size = wr.heap.size + 1 := by simp
          omega
        rw [World.frozen?_of_block (hg.block w.heap.size hlt HNV.out)]
        exact (HPA.out o).fz 1
      have HONE : Hid (∀ u ∈ [Value.int .i64 (-1)], u.oneCell' = true) := fun u hu => by
        rcases List.mem_singleton.1 hu with rfl
        rfl
      have hsz1 : w.heap.size + 1 ≤ wr.heap.size := hz
      clear hp hvb
      go_wp2_with (at_builtin; go_loud (refine wpList_append_lies _ rfl _ _ 22 rfl (w.heap.size + 1) 3 i0 _ 1 8 Tryz.underlying22 hi1 hz0 hz1 hz2 rfl (by decide) vd q (List.replicate q (.int .i64 (-1))) rfl (HO.out _) ⟨wr.heap.size, 0, none⟩ 1 1 [.int .i64 (-1)] rfl rfl (cell_one_new _ _ _) HONE.out (by decide) (by unfold maxLen; omega) (by omega) (Nat.le_trans hsz1 (by simp)) (wr.heap.size + 1) (by simp) ?_; intro gx cap W1 hown hgrow hat hlt2; have y1 := hgrow.cell ((HPA.out _).c1) HNV.out; have fz1 := HFZ.out _ _ hgrow; have hpush := (HPA.out _).push (Nat.le_refl _) hown hgrow; have HPU := Lib.hid hpush; clear hpush hown hgrow hat))
      go_roundw
      case rel => exact ⟨q + 1, hlt, by go_num, _, HPU.out⟩
      case measure => simp [intOf]; omega
    · obtain rfl : q = l.length := by omega
      obtain ⟨g, c, rfl, hrs⟩ := hp.ready (w := w) (Ext.refl w) (Nat.le_refl _) hl0
      have hl1 : l.length - 1 < l.length := by omega
      have HF := Lib.hid (r5finish_any (fc := fc) HR.out HW.out (by omega) (l.length - 1 + 1) (l.length - 1) (by omega) hl1 _ _ _ _ hrs)
      have c0 := hp.c0
      have hi1' : ((l.length : Int) - 1) = ((l.length - 1 : Nat) : Int) := by omega
      generalize hm1 : l.length - 1 = m at *
      have HM1 := Lib.hid hm1
      clear hrs hp hm1
      have h200 : (addT (trAt l m) []).length ≤ 200 := HSZ.out
      have hcl : (canon (trAt l m)).length = (addT (trAt l m) []).length := by simp [canon, encL]
      have HCL := Lib.hid hcl
      clear hcl
      go_wp2_with (go_at_call 165; refine HF.out.mono ?_; rintro e w2 ⟨v', D', rfl, hR2, hF2⟩; have c2 := hR2.co; obtain ⟨va, vc, rfl, hrn, hfr⟩ := hR2.sliceF (by omega); have HRN := Lib.hid hrn; have HFR := Lib.hid hfr; have HEX := Lib.hid hR2.ext; clear hR2 hF2 hrn hfr)
      go_ret
      rw [HM1.out]
      exact ⟨va, vc, by rw [HCL.out]; rfl, HRN.out, HFR.out, HEX.out⟩
theorem ccFact_one : ∀ i : _root_.Fin 8, ccFact ((i.val : Nat) : Int) = [⟨3, ((i.val : Nat) : Int), 0, 0, 0, 0⟩] ∧ nodeErr ⟨3, ((i.val : Nat) : Int), 0, 0, 0, 0⟩ 0 = 0 := by decide +kernel
end Wt

/- Walks: wittingref05.Unary, Not, Dist (printed by gen_r5b.py). -/
namespace Wt
open Go Go.RowKit Go.Maps Go.Proofs Fm

theorem r5shortQ (fa : Option Addr) (fc : Nat) (l : List Nd) (n : Nat) (t : Fm) (w : World) (hr : RN w fa l) (hw : Wf l) (hn : l.length = n) (hl0 : 0 < n) (hl4 : n ≤ 401) (ht : trAt l (n - 1) = t) (hs : fsize t ≤ 200) :
    Calls Tryz.prog 130 #[.slice fa n fc] w fun e w' => RetNF (canon t) e w w' := by
  subst hn; subst ht; exact r5short_any fa fc l w hr hw hl0 hl4 hs
theorem take_app {f : List Nd} {k : Nat} (hk : k < f.length) : f.take (k + 1) = f.take k ++ [nth f k] := by
  rw [List.take_succ_eq_append_getElem hk, nth_eq _ _ hk]
theorem ndCells_one (n : Nd) : ∀ u ∈ ndCells n, u.oneCell' = true := fun u hu' => by
  simp [ndCells] at hu'
  rcases hu' with rfl | rfl | rfl | rfl | rfl | rfl <;> rfl
set_option maxRecDepth 20000 in
set_option maxHeartbeats 4000000 in
theorem r5Unary_any (o i e q : Int) (fa : Option Addr) (fc : Nat) (f : List Nd) (a : Fm) (w : World) (hf : RN w fa f) (h : IsF f a) (hk : fok (.un o i e q a)) (hs : fsize (.un o i e q a) ≤ 200) :
    Calls Tryz.prog 131 #[.agg #[.int .i64 o, .int .i64 i, .int .i64 e, .int .i64 q, .int .i64 0, .int .i64 0], .slice fa f.length fc] w fun en w' => RetNF (canon (.un o i e q a)) en w w' := by
  obtain ⟨i0, hi1, hz0, hz1, hz2⟩ := info_parts node_info
  obtain ⟨t1, t2, t3⟩ := ru_tree h hk
  obtain ⟨hl0, hl2, -⟩ := fCheck_ok.1 h.ok
  have HCK := Lib.hid h.ok
  have HB0 : Hid (BS w w.heap.size ⟨o, i, e, q, 0, 0⟩ [] (.slice none 0 0) (w.alloc (.cells #[.int .i64 o, .int .i64 i, .int .i64 e, .int .i64 q, .int .i64 0, .int .i64 0] 109))) :=
    Lib.hid ⟨Nat.le_refl _, (Ext.refl w).alloc _, by simp, NdAt.new w ⟨o, i, e, q, 0, 0⟩ _, fun o => by simp, World.ownsRow_nil _ _ _ _⟩
  have HF := Lib.hid hf
  have HT2 := Lib.hid t2
  have HT3 := Lib.hid t3
  have HSZ0 := Lib.hid hs
  have HNE := Lib.hid (r5node_any ⟨o, i, e, q, (f.length : Int) - 1, 0⟩ (f.length : Int))
  rw [t1] at HNE
  clear hf h hk hs t1 t2 t3
  go_enter Tryz.func131, Tryz.ntmps131
  go_wp2_with fail
  refine (r5Check_any fa fc f _ (HF.out.ext ((Ext.refl w).alloc _))).mono ?_
  rintro _ w1 ⟨rfl, hE1⟩
  rw [HCK.out]
  have HB1 := Lib.hid (HB0.out.ext' hE1)
  obtain ⟨b0, b1, b2, b3, b4, b5⟩ := HB1.out.box
  simp only [Nat.zero_add] at b1 b2 b3 b4 b5
  have bl := HB1.out.lt
  have bf := HB1.out.fz 4
  clear hE1
  dsimp only
  go_wp2_with fail
  have HB2 := Lib.hid (HB1.out.setX ((f.length : Int) - 1))
  clear b0 b1 b2 b3 b4 b5 bl bf
  refine (HNE.out _).mono ?_
  rintro _ w2 ⟨rfl, hE2⟩
  have HB3 := Lib.hid (HB2.out.ext' hE2)
  clear hE2
  dsimp only
  go_wp2_with fail
  go_loopw [5, 6] (fun vf ix wr => ∃ k : Nat, k ≤ f.length ∧ ix = .int .i64 (k : Int) ∧ Hid (BS w w.heap.size ⟨o, i, e, q, (f.length : Int) - 1, 0⟩ (f.take k) vf wr)) (fun _ ix _ => f.length - (intOf ix).toNat)
  case atStart => exact ⟨0, Nat.zero_le _, rfl, by simpa using HB3⟩
  case round =>
    obtain ⟨k, hk, rfl, HBS⟩ := hrel
    have hkl : (f.take k).length = k := by rw [List.length_take]; omega
    have HLN : Hid ((f.take k).length = k) := Lib.hid hkl
    have HPA : Hid (∀ W2, Ext wr W2 → BS w w.heap.size ⟨o, i, e, q, (f.length : Int) - 1, 0⟩ (f.take k) u5 W2) := fun W2 e => HBS.out.ext' e
    have HSZ : Hid (∀ W2, Ext wr W2 → w.heap.size + 1 ≤ W2.heap.size) := fun W2 e => Nat.le_trans HBS.out.lt e.size
    by_cases hlt : k < f.length
    · obtain ⟨b, off, rfl, hb, n0, n1, n2, n3, n4, n5⟩ := (HF.out.ext HBS.out.e).get hlt
      have HPO : Hid (∀ W2, Ext wr W2 → W2.ownsRow (w.heap.size + 1) 109 6 u5 k (rowN (f.take k))) := fun W2 e => by have h := (HPA.out W2 e).own; rw [HLN.out] at h; exact h
      have HTK := Lib.hid (take_app hlt)
      generalize nth f k = nk at *
      clear hkl
      go_wp2_with (at_builtin; go_loud (refine wpList_append_lies _ rfl _ _ 44 rfl (w.heap.size + 1) 109 i0 _ 6 48 Tryz.underlying44 hi1 hz0 hz1 hz2 rfl (by decide) u5 k _ rfl (HPO.out _ ((Ext.refl wr).alloc _)) _ 1 1 (ndCells nk) rfl rfl (news_at _ nk _ _ (by simp)) (ndCells_one _) (by decide) (by unfold maxLen; omega) (by omega) (HSZ.out _ ((Ext.refl wr).alloc _)) _ rfl ?_; intro gx cap W1 hown hgrow hat hlt2; have hpush := (HPA.out _ ((Ext.refl wr).alloc _)).push (v' := .slice (some ⟨gx, 0, none⟩) (k + 1) cap) (m := nk) (by rw [HLN.out]; exact hown) hgrow; have HPU := Lib.hid hpush; clear hpush hown hgrow hat))
      go_roundw
      case rel => exact ⟨k + 1, hlt, by go_num, by rw [HTK.out]; exact HPU.out⟩
      case measure => simp [intOf]; omega
    · obtain rfl : k = f.length := by omega
      rw [List.take_length] at HBS HLN HPA
      obtain ⟨va, vc, hve, -⟩ := RN_of_own HBS.out.own (by omega)
      subst hve
      obtain ⟨b0, b1, b2, b3, b4, b5⟩ := HBS.out.box
      simp only [Nat.zero_add] at b1 b2 b3 b4 b5
      have bl := HBS.out.lt
      have HPO : Hid (∀ W2, Ext wr W2 → W2.ownsRow (w.heap.size + 1) 109 6 (.slice va f.length vc) f.length (rowN f)) := fun W2 e => (HPA.out W2 e).own
      have HL2 : Hid ((f ++ [(⟨o, i, e, q, (f.length : Int) - 1, 0⟩ : Nd)]).length = f.length + 1) := Lib.hid (by simp)
      clear hkl
      go_wp2_with (first | (at_builtin; go_loud (refine wpList_append_lies _ rfl _ _ 44 rfl (w.heap.size + 1) 109 i0 _ 6 48 Tryz.underlying44 hi1 hz0 hz1 hz2 rfl (by decide) (.slice va f.length vc) f.length _ rfl (HPO.out _ ((Ext.refl wr).alloc _)) _ 1 1 (ndCells (⟨o, i, e, q, (f.length : Int) - 1, 0⟩ : Nd)) rfl rfl (news_at _ (⟨o, i, e, q, (f.length : Int) - 1, 0⟩ : Nd) _ _ (by simp)) (ndCells_one _) (by decide) (by unfold maxLen; omega) (by omega) (HSZ.out _ ((Ext.refl wr).alloc _)) _ rfl ?_; intro gx cap W1 hown hgrow hat hlt2; have hpush := (HPA.out _ ((Ext.refl wr).alloc _)).push (v' := .slice (some ⟨gx, 0, none⟩) (f.length + 1) cap) (m := (⟨o, i, e, q, (f.length : Int) - 1, 0⟩ : Nd)) (by rw [HLN.out]; exact hown) hgrow; have HPU := Lib.hid hpush; have HRF : Hid (RN W1 (some ⟨gx, 0, none⟩) (f ++ [(⟨o, i, e, q, (f.length : Int) - 1, 0⟩ : Nd)])) := own_RN hpush.own HL2.out (by rw [HL2.out]; omega); clear hpush hown hgrow hat)) | (go_at_call 130; refine (r5shortQ (some ⟨gx, 0, none⟩) cap _ (f.length + 1) _ _ HRF.out HT2.out HL2.out (by omega) (by omega) (by rw [Nat.add_sub_cancel]; exact HT3.out) HSZ0.out).mono ?_; rintro _ w5 ⟨ra, rc, rfl, hr5, hf5, hE5⟩; have HE5 := Lib.hid (HPU.out.e.trans hE5); have HF5 := Lib.hid (hf5.mono' HPU.out.e.size)))
      go_ret
      exact ⟨ra, rc, by rw [canon_length]; rfl, hr5, HF5.out, HE5.out⟩
end Wt

/- Walks: wittingref05.Binary, And, Iff (printed by gen_r5b.py). -/
namespace Wt
open Go Go.RowKit Go.Maps Go.Proofs Fm

set_option maxRecDepth 20000 in
set_option maxHeartbeats 8000000 in
theorem r5Binary_any (o i e q : Int) (fa : Option Addr) (fc : Nat) (f : List Nd) (ga : Option Addr) (gc : Nat) (g : List Nd) (a b : Fm) (w : World) (hf : RN w fa f) (hg : RN w ga g) (h : IsF f a) (h2 : IsF g b) (hk : fok (.bin o i e q a b)) (hx : (useOf o).1.x = true) (hs : fsize (.bin o i e q a b) ≤ 200) :
    Calls Tryz.prog 84 #[.agg #[.int .i64 o, .int .i64 i, .int .i64 e, .int .i64 q, .int .i64 0, .int .i64 0], .slice fa f.length fc, .slice ga g.length gc] w fun en w' => RetNF (canon (.bin o i e q a b)) en w w' := by
  obtain ⟨i0, hi1, hz0, hz1, hz2⟩ := info_parts node_info
  obtain ⟨t1, t2, t3⟩ := rb_tree h h2 hk hx
  obtain ⟨hl0, hl2, -⟩ := fCheck_ok.1 h.ok
  obtain ⟨hm0, hm2, hwg⟩ := fCheck_ok.1 h2.ok
  have HCK := Lib.hid h.ok
  have HCG := Lib.hid h2.ok
  have HWG := Lib.hid hwg
  have HB0 : Hid (BS w w.heap.size ⟨o, i, e, q, 0, 0⟩ [] (.slice none 0 0) (w.alloc (.cells #[.int .i64 o, .int .i64 i, .int .i64 e, .int .i64 q, .int .i64 0, .int .i64 0] 109))) :=
    Lib.hid ⟨Nat.le_refl _, (Ext.refl w).alloc _, by simp, NdAt.new w ⟨o, i, e, q, 0, 0⟩ _, fun o => by simp, World.ownsRow_nil _ _ _ _⟩
  have HF := Lib.hid hf
  have HG := Lib.hid hg
  have HT2 := Lib.hid t2
  have HT3 := Lib.hid t3
  have HSZ0 := Lib.hid hs
  have HNE : Hid (∀ W, Calls Tryz.prog 129 #[.agg #[.int .i64 o, .int .i64 i, .int .i64 e, .int .i64 q, .int .i64 ((f.length : Int) - 1), .int .i64 ((f.length : Int) + g.length - 1)], .int .i64 ((f.length : Int) + g.length)] W fun e w' => e = .returned (.int .i64 0) ∧ Ext W w') := Lib.hid fun W => by
    have hh := r5node_any (⟨o, i, e, q, (f.length : Int) - 1, (f.length : Int) + g.length - 1⟩ : Nd) ((f.length + g.length : Nat) : Int) W
    rw [t1] at hh
    rw [show ((f.length : Int) + g.length) = ((f.length + g.length : Nat) : Int) by omega]
    exact hh
  clear hf hg h h2 hk hx hs t1 t2 t3 hwg
  go_enter Tryz.func84, Tryz.ntmps84
  go_wp2_with fail
  refine (r5Check_any fa fc f _ (HF.out.ext ((Ext.refl w).alloc _))).mono ?_
  rintro _ w1 ⟨rfl, hE1⟩
  rw [HCK.out]
  have HB1 := Lib.hid (HB0.out.ext' hE1)
  clear hE1
  dsimp only
  go_wp2_with fail
  refine (r5Check_any ga gc g _ (HG.out.ext HB1.out.e)).mono ?_
  rintro _ w2 ⟨rfl, hE2⟩
  rw [HCG.out]
  have HB2 := Lib.hid (HB1.out.ext' hE2)
  clear hE2
  dsimp only
  go_wp2_with fail
  go_loopw [7, 8] (fun vf ix wr => ∃ k : Nat, k ≤ f.length ∧ ix = .int .i64 (k : Int) ∧ Hid (BS w w.heap.size ⟨o, i, e, q, 0, 0⟩ (f.take k) vf wr)) (fun _ ix _ => f.length - (intOf ix).toNat)
  case atStart => exact ⟨0, Nat.zero_le _, rfl, by simpa using HB2⟩
  case round =>
    obtain ⟨k, hk, rfl, HBS⟩ := hrel
    have hkl : (f.take k).length = k := by rw [List.length_take]; omega
    have HLN : Hid ((f.take k).length = k) := Lib.hid hkl
    have HPA : Hid (∀ W2, Ext wr W2 → BS w w.heap.size ⟨o, i, e, q, 0, 0⟩ (f.take k) u7 W2) := fun W2 e => HBS.out.ext' e
    have HSZ : Hid (∀ W2, Ext wr W2 → w.heap.size + 1 ≤ W2.heap.size) := fun W2 e => Nat.le_trans HBS.out.lt e.size
    by_cases hlt : k < f.length
    · obtain ⟨b1, off, rfl, hb, n0, n1, n2, n3, n4, n5⟩ := (HF.out.ext HBS.out.e).get hlt
      have HPO : Hid (∀ W2, Ext wr W2 → W2.ownsRow (w.heap.size + 1) 109 6 u7 k (rowN (f.take k))) := fun W2 e => by have h := (HPA.out W2 e).own; rw [HLN.out] at h; exact h
      have HTK := Lib.hid (take_app hlt)
      generalize nth f k = nk at *
      clear hkl
      go_wp2_with (at_builtin; go_loud (refine wpList_append_lies _ rfl _ _ 44 rfl (w.heap.size + 1) 109 i0 _ 6 48 Tryz.underlying44 hi1 hz0 hz1 hz2 rfl (by decide) u7 k _ rfl (HPO.out _ ((Ext.refl wr).alloc _)) _ 1 1 (ndCells nk) rfl rfl (news_at _ nk _ _ (by simp)) (ndCells_one _) (by decide) (by unfold maxLen; omega) (by omega) (HSZ.out _ ((Ext.refl wr).alloc _)) _ rfl ?_; intro gx cap W1 hown hgrow hat hlt2; have hpush := (HPA.out _ ((Ext.refl wr).alloc _)).push (v' := .slice (some ⟨gx, 0, none⟩) (k + 1) cap) (m := nk) (by rw [HLN.out]; exact hown) hgrow; have HPU := Lib.hid hpush; clear hpush hown hgrow hat))
      go_roundw
      case rel => exact ⟨k + 1, hlt, by go_num, by rw [HTK.out]; exact HPU.out⟩
      case measure => simp [intOf]; omega
    · obtain rfl : k = f.length := by omega
      rw [List.take_length] at HBS HLN HPA
      have HBF := HBS
      clear hkl HLN HPA HSZ HBS HB0 HB1 HB2
      go_wp2_with fail
      go_loopw [7, 9] (fun vf ix wr => ∃ k : Nat, k ≤ g.length ∧ ix = .int .i64 (k : Int) ∧ Hid (BS w w.heap.size ⟨o, i, e, q, 0, 0⟩ (f ++ (g.take k).map (shN f.length)) vf wr)) (fun _ ix _ => g.length - (intOf ix).toNat)
      case atStart => exact ⟨0, Nat.zero_le _, rfl, by simpa using HBF⟩
      case round =>
        rename World => wz
        obtain ⟨k, hk, rfl, HBS⟩ := hrel
        have hkl : (f ++ (g.take k).map (shN f.length)).length = f.length + k := by simp; omega
        have HLN : Hid ((f ++ (g.take k).map (shN f.length)).length = f.length + k) := Lib.hid hkl
        have HPA : Hid (∀ W2, Ext wz W2 → BS w w.heap.size ⟨o, i, e, q, 0, 0⟩ (f ++ (g.take k).map (shN f.length)) u7 W2) := fun W2 e => HBS.out.ext' e
        have HSZ : Hid (∀ W2, Ext wz W2 → w.heap.size + 1 ≤ W2.heap.size) := fun W2 e => Nat.le_trans HBS.out.lt e.size
        by_cases hlt : k < g.length
        · obtain ⟨b1, off, rfl, hb, n0, n1, n2, n3, n4, n5⟩ := (HG.out.ext HBS.out.e).get hlt
          have HPO : Hid (∀ W2, Ext wz W2 → W2.ownsRow (w.heap.size + 1) 109 6 u7 (f.length + k) (rowN (f ++ (g.take k).map (shN f.length)))) := fun W2 e => by have h := (HPA.out W2 e).own; rw [HLN.out] at h; exact h
          have HTK := Lib.hid (take_sh f g hlt)
          have hnk : nth g k = ⟨(nth g k).op, (nth g k).i, (nth g k).e, (nth g k).g, (nth g k).x, (nth g k).y⟩ := rfl
          cases hux : (useOf (nth g k).op).1.x
          · have huy : (useOf (nth g k).op).1.y = false := by
              cases hy : (useOf (nth g k).op).1.y
              · rfl
              · have := useOf_yx (nth g k).op hy
                rw [hux] at this; cases this
            have HSH : Hid (shN f.length (nth g k) = (⟨(nth g k).op, (nth g k).i, (nth g k).e, (nth g k).g, (nth g k).x, (nth g k).y⟩ : Nd)) := by show _ = _; unfold shN; rw [hux, huy]; simp []
            clear hkl hnk
            go_wp2_with (first | (go_at_call 127; refine (r5X_any _ _).mono ?_; rintro _ _ ⟨rfl, rfl⟩; rw [hux]) | (go_at_call 128; refine (r5Y_any _ _).mono ?_; rintro _ _ ⟨rfl, rfl⟩; rw [huy]) | (at_builtin; go_loud (refine wpList_append_lies _ rfl _ _ 44 rfl (w.heap.size + 1) 109 i0 _ 6 48 Tryz.underlying44 hi1 hz0 hz1 hz2 rfl (by decide) u7 (f.length + k) _ rfl (HPO.out _ (((Ext.refl wz).alloc _).alloc _)) _ 1 1 (ndCells (⟨(nth g k).op, (nth g k).i, (nth g k).e, (nth g k).g, (nth g k).x, (nth g k).y⟩ : Nd)) rfl rfl (news_at _ (⟨(nth g k).op, (nth g k).i, (nth g k).e, (nth g k).g, (nth g k).x, (nth g k).y⟩ : Nd) _ _ (by simp)) (ndCells_one _) (by decide) (by unfold maxLen; omega) (by omega) (HSZ.out _ (((Ext.refl wz).alloc _).alloc _)) _ rfl ?_; intro gx cap W1 hown hgrow hat hlt2; have hpush := (HPA.out _ (((Ext.refl wz).alloc _).alloc _)).push (v' := .slice (some ⟨gx, 0, none⟩) ((f.length + k) + 1) cap) (m := (⟨(nth g k).op, (nth g k).i, (nth g k).e, (nth g k).g, (nth g k).x, (nth g k).y⟩ : Nd)) (by rw [HLN.out]; exact hown) hgrow; have HPU := Lib.hid hpush; clear hpush hown hgrow hat)) | fail)
            go_roundw
            case rel => exact ⟨k + 1, hlt, by go_num, by rw [HTK.out, HSH.out]; exact HPU.out⟩
            case measure => simp [intOf]; omega
          · obtain ⟨hx0, hxl⟩ := HWG.out.x_lt hlt hux
            obtain ⟨X, hX⟩ := Int.eq_ofNat_of_zero_le hx0
            rw [hX, Int.toNat_natCast] at hxl
            cases huy : (useOf (nth g k).op).1.y
            · have HSH : Hid (shN f.length (nth g k) = (⟨(nth g k).op, (nth g k).i, (nth g k).e, (nth g k).g, (X : Int) + (f.length : Int), (nth g k).y⟩ : Nd)) := by show _ = _; unfold shN; rw [hux, huy]; simp [hX]
              rw [hX] at n4
              clear hx0 hX hkl hnk
              go_wp2_with (first | (go_at_call 127; refine (r5X_any _ _).mono ?_; rintro _ _ ⟨rfl, rfl⟩; rw [hux]) | (go_at_call 128; refine (r5Y_any _ _).mono ?_; rintro _ _ ⟨rfl, rfl⟩; rw [huy]) | (at_builtin; go_loud (refine wpList_append_lies _ rfl _ _ 44 rfl (w.heap.size + 1) 109 i0 _ 6 48 Tryz.underlying44 hi1 hz0 hz1 hz2 rfl (by decide) u7 (f.length + k) _ rfl (HPO.out _ (((Ext.refl wz).alloc _).alloc _)) _ 1 1 (ndCells (⟨(nth g k).op, (nth g k).i, (nth g k).e, (nth g k).g, (X : Int) + (f.length : Int), (nth g k).y⟩ : Nd)) rfl rfl (news_at _ (⟨(nth g k).op, (nth g k).i, (nth g k).e, (nth g k).g, (X : Int) + (f.length : Int), (nth g k).y⟩ : Nd) _ _ (by simp)) (ndCells_one _) (by decide) (by unfold maxLen; omega) (by omega) (HSZ.out _ (((Ext.refl wz).alloc _).alloc _)) _ rfl ?_; intro gx cap W1 hown hgrow hat hlt2; have hpush := (HPA.out _ (((Ext.refl wz).alloc _).alloc _)).push (v' := .slice (some ⟨gx, 0, none⟩) ((f.length + k) + 1) cap) (m := (⟨(nth g k).op, (nth g k).i, (nth g k).e, (nth g k).g, (X : Int) + (f.length : Int), (nth g k).y⟩ : Nd)) (by rw [HLN.out]; exact hown) hgrow; have HPU := Lib.hid hpush; clear hpush hown hgrow hat)) | fail)
              go_roundw
              case rel => exact ⟨k + 1, hlt, by go_num, by rw [HTK.out, HSH.out]; exact HPU.out⟩
              case measure => simp [intOf]; omega
            · obtain ⟨hy0, hyl⟩ := HWG.out.y_lt hlt huy
              obtain ⟨Y, hY⟩ := Int.eq_ofNat_of_zero_le hy0
              rw [hY, Int.toNat_natCast] at hyl
              have HSH : Hid (shN f.length (nth g k) = (⟨(nth g k).op, (nth g k).i, (nth g k).e, (nth g k).g, (X : Int) + (f.length : Int), (Y : Int) + (f.length : Int)⟩ : Nd)) := by show _ = _; unfold shN; rw [hux, huy]; simp [hX, hY]
              rw [hX] at n4
              rw [hY] at n5
              clear hx0 hX hy0 hY hkl hnk
              go_wp2_with (first | (go_at_call 127; refine (r5X_any _ _).mono ?_; rintro _ _ ⟨rfl, rfl⟩; rw [hux]) | (go_at_call 128; refine (r5Y_any _ _).mono ?_; rintro _ _ ⟨rfl, rfl⟩; rw [huy]) | (at_builtin; go_loud (refine wpList_append_lies _ rfl _ _ 44 rfl (w.heap.size + 1) 109 i0 _ 6 48 Tryz.underlying44 hi1 hz0 hz1 hz2 rfl (by decide) u7 (f.length + k) _ rfl (HPO.out _ (((Ext.refl wz).alloc _).alloc _)) _ 1 1 (ndCells (⟨(nth g k).op, (nth g k).i, (nth g k).e, (nth g k).g, (X : Int) + (f.length : Int), (Y : Int) + (f.length : Int)⟩ : Nd)) rfl rfl (news_at _ (⟨(nth g k).op, (nth g k).i, (nth g k).e, (nth g k).g, (X : Int) + (f.length : Int), (Y : Int) + (f.length : Int)⟩ : Nd) _ _ (by simp)) (ndCells_one _) (by decide) (by unfold maxLen; omega) (by omega) (HSZ.out _ (((Ext.refl wz).alloc _).alloc _)) _ rfl ?_; intro gx cap W1 hown hgrow hat hlt2; have hpush := (HPA.out _ (((Ext.refl wz).alloc _).alloc _)).push (v' := .slice (some ⟨gx, 0, none⟩) ((f.length + k) + 1) cap) (m := (⟨(nth g k).op, (nth g k).i, (nth g k).e, (nth g k).g, (X : Int) + (f.length : Int), (Y : Int) + (f.length : Int)⟩ : Nd)) (by rw [HLN.out]; exact hown) hgrow; have HPU := Lib.hid hpush; clear hpush hown hgrow hat)) | fail)
              go_roundw
              case rel => exact ⟨k + 1, hlt, by go_num, by rw [HTK.out, HSH.out]; exact HPU.out⟩
              case measure => simp [intOf]; omega
        · obtain rfl : k = g.length := by omega
          rw [List.take_length] at HBS HLN HPA hkl
          obtain ⟨va, vc, hve, -⟩ := RN_of_own HBS.out.own (by rw [hkl]; omega)
          rw [hkl] at hve
          subst hve
          have hb0' := HBS.out.box
          obtain ⟨b0, b1, b2, b3, b4, b5⟩ := hb0'
          simp only [Nat.zero_add] at b1 b2 b3 b4 b5
          have bl := HBS.out.lt
          have bf4 := HBS.out.fz 4
          have bf5 := HBS.out.fz 5
          have HBY := Lib.hid ((HBS.out.setX ((f.length : Int) - 1)).setY ((f.length : Int) + g.length - 1))
          have HEW : Hid (Ext w wz) := Lib.hid HBS.out.e
          have HLF : Hid ((f ++ g.map (shN f.length)).length = f.length + g.length) := Lib.hid hkl
          have HL2 : Hid (((f ++ g.map (shN f.length)) ++ [(⟨o, i, e, q, (f.length : Int) - 1, (f.length : Int) + g.length - 1⟩ : Nd)]).length = f.length + g.length + 1) := Lib.hid (by rw [List.length_append, hkl]; rfl)
          generalize f ++ g.map (shN f.length) = L at *
          clear hkl HPA HSZ HBS HBF HLN
          go_wp2_with fail
          clear b0 b1 b2 b3 b4 b5 bl bf4 bf5
          refine (HNE.out _).mono ?_
          rintro _ w3 ⟨rfl, hE3⟩
          have HB3 := Lib.hid (HBY.out.ext' hE3)
          have HLN : Hid (L.length = f.length + g.length) := HLF
          have HPA : Hid (∀ W2, Ext w3 W2 → BS w w.heap.size (⟨o, i, e, q, (f.length : Int) - 1, (f.length : Int) + g.length - 1⟩ : Nd) L (.slice va (f.length + g.length) vc) W2) := fun W2 e => HB3.out.ext' e
          have HSZ : Hid (∀ W2, Ext w3 W2 → w.heap.size + 1 ≤ W2.heap.size) := fun W2 e => Nat.le_trans HB3.out.lt e.size
          have HPO : Hid (∀ W2, Ext w3 W2 → W2.ownsRow (w.heap.size + 1) 109 6 (.slice va (f.length + g.length) vc) (f.length + g.length) (rowN L)) := fun W2 e => by have h := (HPA.out W2 e).own; rw [HLN.out] at h; exact h
          obtain ⟨b0, b1, b2, b3, b4, b5⟩ := HB3.out.box
          simp only [Nat.zero_add] at b1 b2 b3 b4 b5
          have bl := HB3.out.lt
          clear hE3
          dsimp only
          go_wp2_with (first | (at_builtin; go_loud (refine wpList_append_lies _ rfl _ _ 44 rfl (w.heap.size + 1) 109 i0 _ 6 48 Tryz.underlying44 hi1 hz0 hz1 hz2 rfl (by decide) (.slice va (f.length + g.length) vc) (f.length + g.length) _ rfl (HPO.out _ ((Ext.refl w3).alloc _)) _ 1 1 (ndCells (⟨o, i, e, q, (f.length : Int) - 1, (f.length : Int) + g.length - 1⟩ : Nd)) rfl rfl (news_at _ (⟨o, i, e, q, (f.length : Int) - 1, (f.length : Int) + g.length - 1⟩ : Nd) _ _ (by simp)) (ndCells_one _) (by decide) (by unfold maxLen; omega) (by omega) (HSZ.out _ ((Ext.refl w3).alloc _)) _ rfl ?_; intro gx cap W1 hown hgrow hat hlt2; have hpush := (HPA.out _ ((Ext.refl w3).alloc _)).push (v' := .slice (some ⟨gx, 0, none⟩) ((f.length + g.length) + 1) cap) (m := (⟨o, i, e, q, (f.length : Int) - 1, (f.length : Int) + g.length - 1⟩ : Nd)) (by rw [HLN.out]; exact hown) hgrow; have HPU := Lib.hid hpush; have HRF : Hid (RN W1 (some ⟨gx, 0, none⟩) (L ++ [(⟨o, i, e, q, (f.length : Int) - 1, (f.length : Int) + g.length - 1⟩ : Nd)])) := own_RN hpush.own HL2.out (by rw [HL2.out]; omega); clear hpush hown hgrow hat)) | (go_at_call 130; refine (r5shortQ (some ⟨gx, 0, none⟩) cap _ (f.length + g.length + 1) _ _ HRF.out HT2.out HL2.out (by omega) (by omega) (by rw [Nat.add_sub_cancel]; exact HT3.out) HSZ0.out).mono ?_; rintro _ w5 ⟨ra, rc, rfl, hr5, hf5, hE5⟩; have HE5 := Lib.hid (HPU.out.e.trans hE5); have HF5 := Lib.hid (hf5.mono' HPU.out.e.size)))
          go_ret
          exact ⟨ra, rc, by rw [canon_length]; rfl, hr5, HF5.out, HE5.out⟩
end Wt
