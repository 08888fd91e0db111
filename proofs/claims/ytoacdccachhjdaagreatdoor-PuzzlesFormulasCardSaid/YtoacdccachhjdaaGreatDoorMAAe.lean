/- Walk: formula.compact$1, a node that is not done yet. (Written by gen_fmg.py.) -/
import Derived.Test.YtoacdccachhjdaaGreatDoorMAAd
namespace Wt
open Go Go.RowKit Go.Maps Go.Proofs Fm

theorem NdAt.new (W : World) (n : Nd) (T : Nat) : NdAt (W.alloc (.cells #[.int .i64 n.op, .int .i64 n.i, .int .i64 n.e, .int .i64 n.g, .int .i64 n.x, .int .i64 n.y] T)) W.heap.size 0 n :=
  ⟨by simp, by simp, by simp, by simp, by simp, by simp⟩
theorem NdAt.keep {W W' : World} {b o : Nat} {n : Nd} (h : NdAt W b o n) (e : W'.heap[b]? = W.heap[b]?) : NdAt W' b o n := by
  obtain ⟨h0, h1, h2, h3, h4, h5⟩ := h
  refine ⟨?_, ?_, ?_, ?_, ?_, ?_⟩
  all_goals (rw [World.cell?_of_block (w := W) e]; assumption)
theorem NdAt.setX {W : World} {b : Nat} {n : Nd} (h : NdAt W b 0 n) (x : Int) : NdAt (W.setCell ⟨b, 4, none⟩ (.int .i64 x)) b 0 { n with x := x } := by
  obtain ⟨h0, h1, h2, h3, h4, h5⟩ := h
  refine ⟨?_, ?_, ?_, ?_, ?_, ?_⟩
  · rw [World.cell?_setCell_other _ _ _ _ (by simp)]; exact h0
  · rw [World.cell?_setCell_other _ _ _ _ (by simp)]; exact h1
  · rw [World.cell?_setCell_other _ _ _ _ (by simp)]; exact h2
  · rw [World.cell?_setCell_other _ _ _ _ (by simp)]; exact h3
  · exact World.cell?_setCell_same _ _ _ h4
  · rw [World.cell?_setCell_other _ _ _ _ (by simp)]; exact h5
theorem NdAt.setY {W : World} {b : Nat} {n : Nd} (h : NdAt W b 0 n) (y : Int) : NdAt (W.setCell ⟨b, 5, none⟩ (.int .i64 y)) b 0 { n with y := y } := by
  obtain ⟨h0, h1, h2, h3, h4, h5⟩ := h
  refine ⟨?_, ?_, ?_, ?_, ?_, ?_⟩
  · rw [World.cell?_setCell_other _ _ _ _ (by simp)]; exact h0
  · rw [World.cell?_setCell_other _ _ _ _ (by simp)]; exact h1
  · rw [World.cell?_setCell_other _ _ _ _ (by simp)]; exact h2
  · rw [World.cell?_setCell_other _ _ _ _ (by simp)]; exact h3
  · rw [World.cell?_setCell_other _ _ _ _ (by simp)]; exact h4
  · exact World.cell?_setCell_same _ _ _ h5
theorem Fr.setNew {h : Nat} {v v1 : Value} {W W1 : World} (a : Fr h v W W1 v1) {b : Nat} (hb : W.heap.size ≤ b) (o : Nat) (u : Value) : Fr h v W (W1.setCell ⟨b, o, none⟩ u) v1 :=
  ⟨by have := a.size; simpa [World.setCell] using this, fun k h1 h2 h3 => (Below.heap_setCell _ _ _ _ (by simp; omega)).trans (a.keep k h1 h2 h3), a.own⟩
theorem Fr.xb {h : Nat} {v v1 : Value} {W W1 : World} (a : Fr h v W W1 v1) {b : Nat} (hb : b < W.heap.size) (hv : some b ≠ v.ownBlock) : some b ≠ v1.ownBlock := by
  rcases a.own with e | e
  · rw [e]; exact hv
  · intro e2; have := e b e2.symm; omega
theorem node_info : (Tryz.prog.info? 109).map (fun i => (i.zero, i.size, i.bytes)) = some (some (.agg #[.int .i64 0, .int .i64 0, .int .i64 0, .int .i64 0, .int .i64 0, .int .i64 0]), 6, 48) := by kernel_rfl
theorem fok_fields {t : Fm} (h : fok t) {L : List Fm} (hl : L.length ≤ 1000) (hk : ∀ c, kid c t → c ∈ L) : ndGood (ndOf L t) := by
  have key : ∀ o i e g : Int, (useOf o).2 = true → needless (useOf o).1 ⟨o, i, e, g, 0, 0⟩ = false → wide (useOf o).1 ⟨o, i, e, g, 0, 0⟩ = false → igood o ∧ igood i ∧ igood e ∧ igood g := by
    intro o i e g h1 h2 h3
    have ho : 1 ≤ o ∧ o ≤ 21 := by have := useOf_cases o h1; omega
    have hi : 0 ≤ i ∧ i ≤ 7 ∧ 0 ≤ e ∧ e ≤ 7 ∧ 0 ≤ g ∧ g ≤ 15 := by
      obtain ⟨fr, h' | h' | h' | h' | h' | h' | h' | h' | h'⟩ := useOf_pat o h1 <;> rw [h'] at h2 h3 <;> simp [needless, wide, outs] at h2 h3 <;> omega
    exact ⟨igood_of (by omega), igood_of (by omega), igood_of (by omega), igood_of (by omega)⟩
  cases t with
  | leaf o i e g =>
    obtain ⟨a, b, c, d⟩ := key o i e g h.1 h.2.2.1 h.2.2.2
    exact ⟨a, b, c, d, igood_of (by simp [ndOf]), igood_of (by simp [ndOf])⟩
  | un o i e g x =>
    obtain ⟨a, b, c, d⟩ := key o i e g h.1 h.2.2.2.1 h.2.2.2.2.1
    have := idx_lt (hk x rfl)
    exact ⟨a, b, c, d, igood_of (by simp [ndOf]; omega), igood_of (by simp [ndOf])⟩
  | bin o i e g x y =>
    obtain ⟨a, b, c, d⟩ := key o i e g h.1 h.2.2.1 h.2.2.2.1
    have := idx_lt (hk x (.inl rfl))
    have := idx_lt (hk y (.inr rfl))
    exact ⟨a, b, c, d, igood_of (by simp [ndOf]; omega), igood_of (by simp [ndOf]; omega)⟩
theorem CS.lookFound {w : World} {fa : Option Addr} {fc : Nat} {l : List Nd} {W : World} {L : List Fm} {v : Value} {D : Int → Option Int} (h : CS w fa fc l W L v D) (hl : l.length ≤ 1000) {t : Fm} {n : Nd} (ht : fok t) (hk : ∀ c, kid c t → c ∈ L) (hn : ndOf L t = n) (hm : t ∈ L) :
    (Instr.lookup 158 (.map (some (w.heap.size + 2))) n.val true).run Tryz.prog W = .ok (.tuple #[.int .i64 (idx L t : Int), .bool true]) W := by
  have hgd := fok_fields ht (L := L) (by have := h.len; omega) hk
  have hlk := h.lookN n (by rw [← hn]; exact hgd)
  have h1 : n ∈ encL L := by rw [← hn]; exact (mem_encL h.ok h.cl ht hk).2 hm
  have h2 : (encL L).idxOf n = idx L t := by rw [← hn]; exact idxOf_encL h.nd h.ok h.cl hm
  rw [if_pos h1, h2] at hlk
  exact hlk
theorem CS.lookNew {w : World} {fa : Option Addr} {fc : Nat} {l : List Nd} {W : World} {L : List Fm} {v : Value} {D : Int → Option Int} (h : CS w fa fc l W L v D) (hl : l.length ≤ 1000) {t : Fm} {n : Nd} (ht : fok t) (hk : ∀ c, kid c t → c ∈ L) (hn : ndOf L t = n) (hm : t ∉ L) :
    (Instr.lookup 158 (.map (some (w.heap.size + 2))) n.val true).run Tryz.prog W = .ok (.tuple #[.int .i64 0, .bool false]) W := by
  have hgd := fok_fields ht (L := L) (by have := h.len; omega) hk
  have hlk := h.lookN n (by rw [← hn]; exact hgd)
  have h1 : n ∉ encL L := fun hh => hm ((mem_encL h.ok h.cl ht hk).1 (by rw [hn]; exact hh))
  rw [if_neg h1] at hlk
  exact hlk
/-- Above a node the done ones are the same. -/
def Abv (i : Nat) (A B : Int → Option Int) : Prop := ∀ j : Int, (i : Int) < j → A j = B j
theorem Abv.ins {i : Nat} {A B : Int → Option Int} (h : Abv i A B) (n : Int) : Abv i (fun x => if x = (i : Int) then some n else A x) B :=
  fun j hj => (if_neg (show ¬ j = (i : Int) by omega)).trans (h j hj)
def FinPost (w : World) (fa : Option Addr) (fc : Nat) (l : List Nd) (i : Nat) (W : World) (L : List Fm) (v : Value) (D : Int → Option Int) (e : Ending) (W' : World) : Prop :=
  ∃ v' D', e = .returned (.int .i64 (idx (addT (trAt l i) L) (trAt l i))) ∧ CS w fa fc l W' (addT (trAt l i) L) v' D' ∧ Fr w.heap.size v W W' v' ∧ Abv i D' D
/-- What a call of the closure at a node does. -/
def Fin (w : World) (fa : Option Addr) (fc : Nat) (l : List Nd) (i : Nat) : Prop :=
  ∀ W L v D, CS w fa fc l W L v D →
    Calls Tryz.prog 162 #[.int .i64 (i : Int), .pointer (some ⟨w.heap.size + 5, 0, none⟩), .pointer (some ⟨w.heap.size, 0, none⟩), .pointer (some ⟨w.heap.size + 6, 0, none⟩), .pointer (some ⟨w.heap.size + 3, 0, none⟩), .pointer (some ⟨w.heap.size + 1, 0, none⟩)] W (FinPost w fa fc l i W L v D)

set_option maxRecDepth 20000 in
set_option maxHeartbeats 2000000 in
theorem finish_leaf {w : World} {fa : Option Addr} {fc : Nat} {l : List Nd} {W : World} {L : List Fm} {v : Value} {D : Int → Option Int} (hr : RN w fa l) (hw : Wf l) (hc : CS w fa fc l W L v D) (i : Nat) (hi : i < l.length) (hD : D i = none) (hl : l.length ≤ 1000)
    (fr : Int) (bf ba bg be : Bool) (hu : useOf (nth l i).op = (⟨false, false, bf, ba, bg, be, fr⟩, true)) :
    Calls Tryz.prog 162 #[.int .i64 (i : Int), .pointer (some ⟨w.heap.size + 5, 0, none⟩), .pointer (some ⟨w.heap.size, 0, none⟩), .pointer (some ⟨w.heap.size + 6, 0, none⟩), .pointer (some ⟨w.heap.size + 3, 0, none⟩), .pointer (some ⟨w.heap.size + 1, 0, none⟩)] W (FinPost w fa fc l i W L v D) := by
  have hok : fok (trAt l i) := fok_trAt hw _ i (Nat.lt_succ_self i) hi
  have ht : trAt l i = .leaf (nth l i).op (nth l i).i (nth l i).e (nth l i).g := trAt_leaf hi (by rw [hu])
  have hnd : ndOf L (trAt l i) = nth l i := by
    rw [ht]
    have hx := hw.x_zero hi (by rw [hu])
    have hy := hw.y_zero hi (by rw [hu])
    have : nth l i = ⟨(nth l i).op, (nth l i).i, (nth l i).e, (nth l i).g, (nth l i).x, (nth l i).y⟩ := rfl
    rw [this, hx, hy]; rfl
  have hkid : ∀ c, kid c (trAt l i) → c ∈ L := fun c h => by rw [ht] at h; exact h.elim
  have hadd : addT (trAt l i) L = put (trAt l i) L := by rw [ht]; rfl
  have hrange : trAt l i ∈ (List.range l.length).map (trAt l) := List.mem_map.2 ⟨i, by simpa using hi, rfl⟩
  have hlk := hc.lookD i (igood_of (by omega))
  rw [hD] at hlk
  simp only [Option.getD_none, Option.isSome_none] at hlk
  have c1 := hc.cd
  have c2 := hc.cf
  have c3 := hc.cg
  have c4 := hc.cn
  have c5 := hc.co
  have HL := Lib.hid hlk
  have HD := Lib.hid hD
  have HU := Lib.hid hu
  have HT := Lib.hid ht
  have HN := Lib.hid hnd
  have HA := Lib.hid hadd
  have HK := Lib.hid hkid
  have HVB := Lib.hid hc.vb
  have HC := Lib.hid hc
  clear hlk hD hu ht hnd hadd hkid
  obtain ⟨i0, hi1, hz0, hz1, hz2⟩ := info_parts node_info
  have hsz := hc.sz
  obtain ⟨b, off, rfl, hb, n0, n1, n2, n3, n4, n5⟩ := (hr.ext hc.ext).get hi
  clear hr hw hc
  go_enter Tryz.func162, Tryz.ntmps162
  go_wp2_with (at_lookup; refine wpList_look_on _ rfl _ _ _ rfl _ rfl _ rfl _ HL.out ?_)
  refine (uses_any _ _ _ HU.out _).mono ?_
  rintro e w1 ⟨rfl, hE⟩
  dsimp only
  have hE0 : Ext W w1 := ((Ext.refl W).alloc _).trans hE
  have hcw := HC.out.ext' hE0
  have hszw := hcw.sz
  have qx : W.heap.size < w1.heap.size := by have := Ext.size hE; simp at this; omega
  have hx := (NdAt.new W (nth l i) 109).ext hE
  have hxf : ∀ o, w1.frozen? ⟨W.heap.size, o, none⟩ = false := fun o => by
    rw [World.frozen?_of_block (w := W.alloc (.cells #[.int .i64 (nth l i).op, .int .i64 (nth l i).i, .int .i64 (nth l i).e, .int .i64 (nth l i).g, .int .i64 (nth l i).x, .int .i64 (nth l i).y] 109)) (hE.block W.heap.size (by simp))]; simp
  clear c1 c2 c3 c4 c5 n0 n1 n2 n3 n4 n5
  by_cases hm : trAt l i ∈ L
  · have HM := Lib.hid hm
    clear hm
    have HCT := Lib.hid (hcw.ext' ((Ext.refl w1).alloc (.cells #[.bool false, .bool false, .bool bf, .bool ba, .bool bg, .bool be, .int .i64 fr] 138)))
    have HX := Lib.hid (hx.ext ((Ext.refl w1).alloc (.cells #[.bool false, .bool false, .bool bf, .bool ba, .bool bg, .bool be, .int .i64 fr] 138)))
    have HFR := Lib.hid (((Fr.refl w.heap.size v W).ext hE0).ext ((Ext.refl w1).alloc (.cells #[.bool false, .bool false, .bool bf, .bool ba, .bool bg, .bool be, .int .i64 fr] 138)))
    have HDD := HD
    have HJ : Hid (Abv i D D) := fun _ _ => rfl
    have HXB : Hid (some W.heap.size ≠ v.ownBlock) := fun e => by have := (HVB.out _ e.symm).2; omega
    have p4 := hcw.cn
    have p3 : w.heap.size + 3 < w1.heap.size := by omega
    obtain ⟨z0, z1, z2, z3, z4, z5⟩ := hx
    go_wp2_with (first
      | (at_lookup
         generalize w1.alloc (.cells #[.bool false, .bool false, .bool bf, .bool ba, .bool bg, .bool be, .int .i64 fr] 138) = WT at HCT HX HFR ⊢
         have hcT := HCT.out
         have d1 := hcT.cd
         have d4 := hcT.cn
         have d5 := hcT.co
         have f5 := hcT.fz
         obtain ⟨x0, x1, x2, x3, x4, x5⟩ := HX.out
         have HLF := Lib.hid (hcT.lookFound hl hok HK.out HN.out HM.out)
         refine wpList_look_on _ rfl _ _ 158 rfl _ rfl _ rfl _ HLF.out ?_)
      | (at_mapUpdate
         refine wpList_upd_on _ rfl _ _ _ 159 rfl _ rfl _ rfl _ rfl _ (HCT.out.mD.ins int_keyed' Tryz.underlying159 key_int i_inj _ (igood_of (by omega)) HDD.out _) ?_
         intro W2 hW2))
    go_ret
    unfold FinPost
    rw [HA.out, put_of_mem HM.out]
    exact ⟨_, _, rfl, HCT.out.done hW2.1 hW2.2 (by omega) (by simpa using hi) (by simpa using HM.out) (by simp), HFR.out.trans (HCT.out.done_fr hW2.2), HJ.out.ins _⟩
  · have HM := Lib.hid hm
    clear hm
    have HCT := Lib.hid (hcw.ext' ((Ext.refl w1).alloc (.cells #[.bool false, .bool false, .bool bf, .bool ba, .bool bg, .bool be, .int .i64 fr] 138)))
    have HX := Lib.hid (hx.ext ((Ext.refl w1).alloc (.cells #[.bool false, .bool false, .bool bf, .bool ba, .bool bg, .bool be, .int .i64 fr] 138)))
    have HFR := Lib.hid (((Fr.refl w.heap.size v W).ext hE0).ext ((Ext.refl w1).alloc (.cells #[.bool false, .bool false, .bool bf, .bool ba, .bool bg, .bool be, .int .i64 fr] 138)))
    have HDD := HD
    have HJ : Hid (Abv i D D) := fun _ _ => rfl
    have HXB : Hid (some W.heap.size ≠ v.ownBlock) := fun e => by have := (HVB.out _ e.symm).2; omega
    have p4 := hcw.cn
    have p3 : w.heap.size + 3 < w1.heap.size := by omega
    obtain ⟨z0, z1, z2, z3, z4, z5⟩ := hx
    go_wp2_with (first
      | (at_lookup
         generalize w1.alloc (.cells #[.bool false, .bool false, .bool bf, .bool ba, .bool bg, .bool be, .int .i64 fr] 138) = WT at HCT HX HFR ⊢
         have hcT := HCT.out
         have d1 := hcT.cd
         have d4 := hcT.cn
         have d5 := hcT.co
         have f5 := hcT.fz
         obtain ⟨x0, x1, x2, x3, x4, x5⟩ := HX.out
         have q1 : w.heap.size + 1 < WT.heap.size := by have := hcT.sz; omega
         have q3 : w.heap.size + 3 < WT.heap.size := by have := hcT.sz; omega
         have qb : W.heap.size < WT.heap.size := World.block_lt_of_cell? _ _ x0
         obtain ⟨va, vc, hv, hrn⟩ := RN_of_own (l := encL L) (by rw [encL_length]; exact hcT.own) (by rw [encL_length]; have := hcT.len; omega)
         rw [encL_length] at hv
         subst hv
         have HLF := Lib.hid (hcT.lookNew hl hok HK.out HN.out HM.out)
         refine wpList_look_on _ rfl _ _ 158 rfl _ rfl _ rfl _ HLF.out ?_)
      | (at_builtin
         refine wpList_append_own_at _ rfl _ _ 44 rfl (w.heap.size + 7) 109 i0 _ 6 48 Tryz.underlying44 hi1 hz0 hz1 hz2 rfl (by decide) _ _ _ rfl (HCT.out.own.alloc _) ⟨WT.heap.size, 0, none⟩ 1 1 (ndCells (nth l i)) rfl rfl ?c1 ?c2 ?c3 ?c4 ?c5 ?_))
    case c1 =>
      intro j u hj
      have hjl : j < 6 := by have := (List.getElem?_eq_some_iff.1 hj).1; simpa [ndCells] using this
      rw [← hj]
      rcases (show j = 0 ∨ j = 1 ∨ j = 2 ∨ j = 3 ∨ j = 4 ∨ j = 5 by omega) with rfl | rfl | rfl | rfl | rfl | rfl <;> simp [Addr.add, ndCells]
    case c2 =>
      intro u hu'
      simp [ndCells] at hu'
      rcases hu' with rfl | rfl | rfl | rfl | rfl | rfl <;> rfl
    case c3 => have := HCT.out.len; unfold maxLen; omega
    case c4 => have := HCT.out.len; omega
    case c5 => have := HCT.out.sz; simp; omega
    intro v' W3 hown hgr hnil hloc
    have hlen := HCT.out.len
    have hgd := fok_fields hok (L := L) (by omega) HK.out
    rw [HN.out] at hgd
    generalize HWN : WT.alloc (.cells (ndCells (nth l i)).toArray 109) = WN
    have hE2 : Ext WT WN := by rw [← HWN]; exact (Ext.refl _).alloc _
    have hgr2 : WN.grownBy W3 (Value.slice va (L).length vc).ownBlock := by rw [← HWN]; exact hgr
    have hloc1 : v'.ownBlock = (Value.slice va (L).length vc).ownBlock ∨ v'.ownBlock = some (WT.heap.size + 1) := by simpa using hloc
    have hszN : WT.heap.size ≤ WN.heap.size := hE2.size
    clear hgr hloc
    have hc2 := HCT.out.ext' hE2
    have hvb := HCT.out.vb
    have r1 := hgr2.cell hc2.co (by intro e; have := (hvb _ e.symm).1; simp at this)
    have r3 := hgr2.cell hc2.cn (by intro e; have := (hvb _ e.symm).1; simp at this)
    have g1 : W3.frozen? ⟨w.heap.size + 1, 0, none⟩ = false := by
      rw [World.frozen?_of_block (hgr2.block (w.heap.size + 1) (by have := hc2.sz; omega) (by intro e; have := (hvb _ e.symm).1; omega))]; exact hc2.fz
    have y0 := hgr2.cell (hE2.cell x0) HXB.out
    have y1 := hgr2.cell (hE2.cell x1) HXB.out
    have y2 := hgr2.cell (hE2.cell x2) HXB.out
    have y3 := hgr2.cell (hE2.cell x3) HXB.out
    have y4 := hgr2.cell (hE2.cell x4) HXB.out
    have y5 := hgr2.cell (hE2.cell x5) HXB.out
    have hmN3 : MapOn ndGood Nd.val (W3.setCell ⟨w.heap.size + 1, 0, none⟩ v') (w.heap.size + 2) (fun n => if n ∈ encL (L) then some ((encL (L)).idxOf n : Int) else none) :=
      hc2.mN.kept (by
        rw [Below.heap_setCell _ _ _ _ (by simp)]
        exact hgr2.block _ (by have := hc2.sz; omega) (by intro e; have := (hvb _ e.symm).1; omega))
    have hni : (nth l i) ∉ encL (L) := fun hh => HM.out ((mem_encL HCT.out.ok HCT.out.cl hok HK.out).1 (by rw [HN.out]; exact hh))
    have hni2 : (if (nth l i) ∈ encL (L) then some ((encL (L)).idxOf (nth l i) : Int) else none) = none := if_neg hni
    have hloc2 : v'.ownBlock = (Value.slice va (L).length vc).ownBlock ∨ ∀ g, v'.ownBlock = some g → WN.heap.size ≤ g := by
      rcases hloc1 with e | e
      · exact .inl e
      · refine .inr fun g hg => ?_
        rw [e] at hg; cases hg
        rw [← HWN]; simp
    have hown2 : W3.ownsRow (w.heap.size + 7) 109 6 v' ((L).length + 1) (rowN (encL (L)) ++ ndCells (ndOf (L) (trAt l i))) := by rw [HN.out]; exact hown
    have hlen3 : (encL (L) ++ [(nth l i)]).length = (L).length + 1 := by simp
    obtain ⟨va', vc', hv', _⟩ := RN_of_own (l := encL (L) ++ [(nth l i)]) (by rw [hlen3, rowN_append]; simpa [rowN] using hown) (by rw [hlen3]; omega)
    rw [hlen3] at hv'
    have HNI := Lib.hid hni2
    have HO := Lib.hid hown2
    have HLO := Lib.hid hloc2
    have HGR := Lib.hid hgr2
    have HC2 := Lib.hid hc2
    have HMN := Lib.hid hmN3
    have HE2 := Lib.hid hE2
    clear hni2 hown2 hloc2 hgr2 hc2 hmN3 hown hloc1 hnil hE2 x0 x1 x2 x3 x4 x5 d1 d4 d5 f5 hni
    subst hv'
    have n13 : W.heap.size ≠ w.heap.size + 1 := by omega
    go_wp2_with (first | (at_mapUpdate; refine wpList_upd_on _ rfl _ _ _ 158 rfl _ rfl _ rfl _ rfl _ (HMN.out.ins node_keyed Tryz.underlying158 key_node nd_inj (nth l i) hgd HNI.out _) ?_; intro W4 hW4; obtain ⟨hm4, hg4⟩ := hW4; have hp := HC2.out.push HM.out HK.out hok hrange HO.out HGR.out HLO.out (by rw [HN.out]; exact hm4) hg4; obtain ⟨hc4, hf4⟩ := hp; have s5 := hc4.cd; clear r1 r3 g1 y0 y1 y2 y3 y4 y5) | (at_mapUpdate; refine wpList_upd_on _ rfl _ _ _ 159 rfl _ rfl _ rfl _ rfl _ (hc4.mD.ins int_keyed' Tryz.underlying159 key_int i_inj _ (igood_of (by omega)) HDD.out _) ?_; intro W5 hW5))
    go_ret
    unfold FinPost
    have hput : addT (trAt l i) L = L ++ [trAt l i] := by rw [HA.out]; unfold put; rw [if_neg HM.out]
    rw [hput]
    have hidx : idx (L ++ [trAt l i]) (trAt l i) = (L).length := idx_new HM.out
    rw [hidx]
    refine ⟨_, _, rfl, hc4.done hW5.1 hW5.2 (by omega) (by simpa using hi) (by simp) (by simp only [Int.toNat_natCast]; rw [hidx]), ?_, HJ.out.ins _⟩
    exact (HFR.out.ext HE2.out).trans (hf4.trans (hc4.done_fr hW5.2))
set_option maxRecDepth 20000 in
set_option maxHeartbeats 2000000 in
theorem finish_un {w : World} {fa : Option Addr} {fc : Nat} {l : List Nd} {W : World} {L : List Fm} {v : Value} {D : Int → Option Int} (hr : RN w fa l) (hw : Wf l) (hc : CS w fa fc l W L v D) (i : Nat) (hi : i < l.length) (hD : D i = none) (hl : l.length ≤ 1000)
    (fr : Int) (bf ba bg be : Bool) (hu : useOf (nth l i).op = (⟨true, false, bf, ba, bg, be, fr⟩, true)) (ihx : Fin w fa fc l (nth l i).x.toNat) :
    Calls Tryz.prog 162 #[.int .i64 (i : Int), .pointer (some ⟨w.heap.size + 5, 0, none⟩), .pointer (some ⟨w.heap.size, 0, none⟩), .pointer (some ⟨w.heap.size + 6, 0, none⟩), .pointer (some ⟨w.heap.size + 3, 0, none⟩), .pointer (some ⟨w.heap.size + 1, 0, none⟩)] W (FinPost w fa fc l i W L v D) := by
  have hok : fok (trAt l i) := fok_trAt hw _ i (Nat.lt_succ_self i) hi
  have ht := trAt_un hw hi (by rw [hu]) (by rw [hu])
  obtain ⟨hx0, hxl⟩ := hw.x_lt hi (by rw [hu])
  obtain ⟨kx, hkx⟩ := Int.eq_ofNat_of_zero_le hx0
  rw [hkx, Int.toNat_natCast] at ht ihx hxl
  have hnd : ndOf (addT (trAt l kx) L) (trAt l i) = { (nth l i) with x := (idx (addT (trAt l kx) L) (trAt l kx) : Int) } := by
    rw [ht]
    have hy := hw.y_zero hi (by rw [hu])
    have : nth l i = ⟨(nth l i).op, (nth l i).i, (nth l i).e, (nth l i).g, (nth l i).x, (nth l i).y⟩ := rfl
    rw [this, hy]; rfl
  have hkid : ∀ c, kid c (trAt l i) → c ∈ addT (trAt l kx) L := fun c h => by rw [ht] at h; rw [show c = trAt l kx from h]; exact addT_mem _ _
  have hadd : addT (trAt l i) L = put (trAt l i) (addT (trAt l kx) L) := by rw [ht]; rfl
  have HKX := Lib.hid hkx
  clear hkx hx0
  have hrange : trAt l i ∈ (List.range l.length).map (trAt l) := List.mem_map.2 ⟨i, by simpa using hi, rfl⟩
  have hlk := hc.lookD i (igood_of (by omega))
  rw [hD] at hlk
  simp only [Option.getD_none, Option.isSome_none] at hlk
  have c1 := hc.cd
  have c2 := hc.cf
  have c3 := hc.cg
  have c4 := hc.cn
  have c5 := hc.co
  have HL := Lib.hid hlk
  have HD := Lib.hid hD
  have HU := Lib.hid hu
  have HT := Lib.hid ht
  have HN := Lib.hid hnd
  have HA := Lib.hid hadd
  have HK := Lib.hid hkid
  have HVB := Lib.hid hc.vb
  have HC := Lib.hid hc
  have Hihx := Lib.hid ihx
  clear ihx
  clear hlk hD hu ht hnd hadd hkid
  obtain ⟨i0, hi1, hz0, hz1, hz2⟩ := info_parts node_info
  have hsz := hc.sz
  obtain ⟨b, off, rfl, hb, n0, n1, n2, n3, n4, n5⟩ := (hr.ext hc.ext).get hi
  clear hr hw hc
  go_enter Tryz.func162, Tryz.ntmps162
  go_wp2_with (at_lookup; refine wpList_look_on _ rfl _ _ _ rfl _ rfl _ rfl _ HL.out ?_)
  refine (uses_any _ _ _ HU.out _).mono ?_
  rintro e w1 ⟨rfl, hE⟩
  dsimp only
  have hE0 : Ext W w1 := ((Ext.refl W).alloc _).trans hE
  have hcw := HC.out.ext' hE0
  have hszw := hcw.sz
  have qx : W.heap.size < w1.heap.size := by have := Ext.size hE; simp at this; omega
  have hx := (NdAt.new W (nth l i) 109).ext hE
  have hxf : ∀ o, w1.frozen? ⟨W.heap.size, o, none⟩ = false := fun o => by
    rw [World.frozen?_of_block (w := W.alloc (.cells #[.int .i64 (nth l i).op, .int .i64 (nth l i).i, .int .i64 (nth l i).e, .int .i64 (nth l i).g, .int .i64 (nth l i).x, .int .i64 (nth l i).y] 109)) (hE.block W.heap.size (by simp))]; simp
  clear c1 c2 c3 c4 c5 n0 n1 n2 n3 n4 n5
  by_cases hm : trAt l i ∈ (addT (trAt l kx) L)
  · have HM := Lib.hid hm
    clear hm
    have HCU := Lib.hid (hcw.ext' ((Ext.refl w1).alloc (.cells #[.bool true, .bool false, .bool bf, .bool ba, .bool bg, .bool be, .int .i64 fr] 138)))
    have HFU := Lib.hid (((Fr.refl w.heap.size v W).ext hE0).ext ((Ext.refl w1).alloc (.cells #[.bool true, .bool false, .bool bf, .bool ba, .bool bg, .bool be, .int .i64 fr] 138)))
    have HXU := Lib.hid (hx.ext ((Ext.refl w1).alloc (.cells #[.bool true, .bool false, .bool bf, .bool ba, .bool bg, .bool be, .int .i64 fr] 138)))
    have HXB0 : Hid (some W.heap.size ≠ v.ownBlock) := fun e => by have := (HVB.out _ e.symm).2; omega
    have HUB0 : Hid (some w1.heap.size ≠ v.ownBlock) := fun e => by have := (HVB.out _ e.symm).2; omega
    have p4 := hcw.cn
    have p6 := hcw.cg
    have p3 : w.heap.size + 3 < w1.heap.size := by omega
    have p7 : w.heap.size + 6 < w1.heap.size := by omega
    have x4 := hx.2.2.2.2.1
    rw [HKX.out] at x4
    clear hcw hx
    go_wp2_with (first
      | (go_at_call 162
         refine (Hihx.out _ _ _ _ HCU.out).mono ?_
         rintro e w2 ⟨v1, D1, rfl, hc2, hf2, hj2⟩
         clear Hihx
         have HKB := Lib.hid (hf2.keep W.heap.size (by omega) (by simp; omega) HXB0.out)
         have HUB := Lib.hid (hf2.keep w1.heap.size (by omega) (by simp) HUB0.out)
         have hx2 := HXU.out.keep HKB.out
         have hxf2 : ∀ o, w2.frozen? ⟨W.heap.size, o, none⟩ = false := fun o => by rw [World.frozen?_of_block (w := w1.alloc (.cells #[.bool true, .bool false, .bool bf, .bool ba, .bool bg, .bool be, .int .i64 fr] 138)) HKB.out, World.frozen?_of_block (w := w1) (((Ext.refl w1).alloc (.cells #[.bool true, .bool false, .bool bf, .bool ba, .bool bg, .bool be, .int .i64 fr] 138)).block _ qx)]; exact hxf o
         have hub : w2.cell? ⟨w1.heap.size, 1, none⟩ = some (.bool false) := by rw [World.cell?_of_block (w := w1.alloc (.cells #[.bool true, .bool false, .bool bf, .bool ba, .bool bg, .bool be, .int .i64 fr] 138)) HUB.out]; simp
         have r4 := hc2.cn
         have r6 := hc2.cg
         have bx1 : w1.heap.size ≠ W.heap.size := by omega
         have bx2 : w.heap.size + 3 ≠ W.heap.size := by omega
         have bx3 : w.heap.size + 6 ≠ W.heap.size := by omega
         have HX2 := Lib.hid hx2
         have HF2 := Lib.hid (HFU.out.trans hf2)
         have HC2 := Lib.hid hc2
         have HJ2 := Lib.hid hj2
         have HXB1 := Lib.hid (hf2.xb (b := W.heap.size) (by simp; omega) HXB0.out)
         obtain ⟨z0, z1, z2, z3, z4, z5⟩ := hx2
         have HCT := Lib.hid (HC2.out.setBox (b := W.heap.size) (by omega) HXB1.out 4 (.int .i64 (idx (addT (trAt l kx) L) (trAt l kx) : Int)))
         have HX := Lib.hid (HX2.out.setX (idx (addT (trAt l kx) L) (trAt l kx) : Int))
         have HFR := Lib.hid (HF2.out.setNew (b := W.heap.size) (Nat.le_refl _) 4 (.int .i64 (idx (addT (trAt l kx) L) (trAt l kx) : Int)))
         have HDD : Hid (D1 (i : Int) = none) := (HJ2.out i (by omega)).trans HD.out
         have HJ : Hid (Abv i D1 D) := fun j hj => HJ2.out j (by omega)
         have HXB := HXB1
         clear hf2 hc2 hj2 p4 p6 x4)
      | (at_lookup
         generalize w2.setCell ⟨W.heap.size, 4, none⟩ (.int .i64 (idx (addT (trAt l kx) L) (trAt l kx) : Int)) = WT at HCT HX HFR ⊢
         have hcT := HCT.out
         have d1 := hcT.cd
         have d4 := hcT.cn
         have d5 := hcT.co
         have f5 := hcT.fz
         obtain ⟨x0, x1, x2, x3, x4, x5⟩ := HX.out
         have HLF := Lib.hid (hcT.lookFound hl hok HK.out HN.out HM.out)
         refine wpList_look_on _ rfl _ _ 158 rfl _ rfl _ rfl _ HLF.out ?_)
      | (at_mapUpdate
         refine wpList_upd_on _ rfl _ _ _ 159 rfl _ rfl _ rfl _ rfl _ (HCT.out.mD.ins int_keyed' Tryz.underlying159 key_int i_inj _ (igood_of (by omega)) HDD.out _) ?_
         intro W2 hW2))
    go_ret
    unfold FinPost
    rw [HA.out, put_of_mem HM.out]
    exact ⟨_, _, rfl, HCT.out.done hW2.1 hW2.2 (by omega) (by simpa using hi) (by simpa using HM.out) (by simp), HFR.out.trans (HCT.out.done_fr hW2.2), HJ.out.ins _⟩
  · have HM := Lib.hid hm
    clear hm
    have HCU := Lib.hid (hcw.ext' ((Ext.refl w1).alloc (.cells #[.bool true, .bool false, .bool bf, .bool ba, .bool bg, .bool be, .int .i64 fr] 138)))
    have HFU := Lib.hid (((Fr.refl w.heap.size v W).ext hE0).ext ((Ext.refl w1).alloc (.cells #[.bool true, .bool false, .bool bf, .bool ba, .bool bg, .bool be, .int .i64 fr] 138)))
    have HXU := Lib.hid (hx.ext ((Ext.refl w1).alloc (.cells #[.bool true, .bool false, .bool bf, .bool ba, .bool bg, .bool be, .int .i64 fr] 138)))
    have HXB0 : Hid (some W.heap.size ≠ v.ownBlock) := fun e => by have := (HVB.out _ e.symm).2; omega
    have HUB0 : Hid (some w1.heap.size ≠ v.ownBlock) := fun e => by have := (HVB.out _ e.symm).2; omega
    have p4 := hcw.cn
    have p6 := hcw.cg
    have p3 : w.heap.size + 3 < w1.heap.size := by omega
    have p7 : w.heap.size + 6 < w1.heap.size := by omega
    have x4 := hx.2.2.2.2.1
    rw [HKX.out] at x4
    clear hcw hx
    go_wp2_with (first
      | (go_at_call 162
         refine (Hihx.out _ _ _ _ HCU.out).mono ?_
         rintro e w2 ⟨v1, D1, rfl, hc2, hf2, hj2⟩
         clear Hihx
         have HKB := Lib.hid (hf2.keep W.heap.size (by omega) (by simp; omega) HXB0.out)
         have HUB := Lib.hid (hf2.keep w1.heap.size (by omega) (by simp) HUB0.out)
         have hx2 := HXU.out.keep HKB.out
         have hxf2 : ∀ o, w2.frozen? ⟨W.heap.size, o, none⟩ = false := fun o => by rw [World.frozen?_of_block (w := w1.alloc (.cells #[.bool true, .bool false, .bool bf, .bool ba, .bool bg, .bool be, .int .i64 fr] 138)) HKB.out, World.frozen?_of_block (w := w1) (((Ext.refl w1).alloc (.cells #[.bool true, .bool false, .bool bf, .bool ba, .bool bg, .bool be, .int .i64 fr] 138)).block _ qx)]; exact hxf o
         have hub : w2.cell? ⟨w1.heap.size, 1, none⟩ = some (.bool false) := by rw [World.cell?_of_block (w := w1.alloc (.cells #[.bool true, .bool false, .bool bf, .bool ba, .bool bg, .bool be, .int .i64 fr] 138)) HUB.out]; simp
         have r4 := hc2.cn
         have r6 := hc2.cg
         have bx1 : w1.heap.size ≠ W.heap.size := by omega
         have bx2 : w.heap.size + 3 ≠ W.heap.size := by omega
         have bx3 : w.heap.size + 6 ≠ W.heap.size := by omega
         have HX2 := Lib.hid hx2
         have HF2 := Lib.hid (HFU.out.trans hf2)
         have HC2 := Lib.hid hc2
         have HJ2 := Lib.hid hj2
         have HXB1 := Lib.hid (hf2.xb (b := W.heap.size) (by simp; omega) HXB0.out)
         obtain ⟨z0, z1, z2, z3, z4, z5⟩ := hx2
         have HCT := Lib.hid (HC2.out.setBox (b := W.heap.size) (by omega) HXB1.out 4 (.int .i64 (idx (addT (trAt l kx) L) (trAt l kx) : Int)))
         have HX := Lib.hid (HX2.out.setX (idx (addT (trAt l kx) L) (trAt l kx) : Int))
         have HFR := Lib.hid (HF2.out.setNew (b := W.heap.size) (Nat.le_refl _) 4 (.int .i64 (idx (addT (trAt l kx) L) (trAt l kx) : Int)))
         have HDD : Hid (D1 (i : Int) = none) := (HJ2.out i (by omega)).trans HD.out
         have HJ : Hid (Abv i D1 D) := fun j hj => HJ2.out j (by omega)
         have HXB := HXB1
         clear hf2 hc2 hj2 p4 p6 x4)
      | (at_lookup
         generalize w2.setCell ⟨W.heap.size, 4, none⟩ (.int .i64 (idx (addT (trAt l kx) L) (trAt l kx) : Int)) = WT at HCT HX HFR ⊢
         have hcT := HCT.out
         have d1 := hcT.cd
         have d4 := hcT.cn
         have d5 := hcT.co
         have f5 := hcT.fz
         obtain ⟨x0, x1, x2, x3, x4, x5⟩ := HX.out
         have q1 : w.heap.size + 1 < WT.heap.size := by have := hcT.sz; omega
         have q3 : w.heap.size + 3 < WT.heap.size := by have := hcT.sz; omega
         have qb : W.heap.size < WT.heap.size := World.block_lt_of_cell? _ _ x0
         obtain ⟨va, vc, hv, hrn⟩ := RN_of_own (l := encL (addT (trAt l kx) L)) (by rw [encL_length]; exact hcT.own) (by rw [encL_length]; have := hcT.len; omega)
         rw [encL_length] at hv
         subst hv
         have HLF := Lib.hid (hcT.lookNew hl hok HK.out HN.out HM.out)
         refine wpList_look_on _ rfl _ _ 158 rfl _ rfl _ rfl _ HLF.out ?_)
      | (at_builtin
         refine wpList_append_own_at _ rfl _ _ 44 rfl (w.heap.size + 7) 109 i0 _ 6 48 Tryz.underlying44 hi1 hz0 hz1 hz2 rfl (by decide) _ _ _ rfl (HCT.out.own.alloc _) ⟨WT.heap.size, 0, none⟩ 1 1 (ndCells { (nth l i) with x := (idx (addT (trAt l kx) L) (trAt l kx) : Int) }) rfl rfl ?c1 ?c2 ?c3 ?c4 ?c5 ?_))
    case c1 =>
      intro j u hj
      have hjl : j < 6 := by have := (List.getElem?_eq_some_iff.1 hj).1; simpa [ndCells] using this
      rw [← hj]
      rcases (show j = 0 ∨ j = 1 ∨ j = 2 ∨ j = 3 ∨ j = 4 ∨ j = 5 by omega) with rfl | rfl | rfl | rfl | rfl | rfl <;> simp [ndCells]
    case c2 =>
      intro u hu'
      simp [ndCells] at hu'
      rcases hu' with rfl | rfl | rfl | rfl | rfl | rfl <;> rfl
    case c3 => have := HCT.out.len; unfold maxLen; omega
    case c4 => have := HCT.out.len; omega
    case c5 => have := HCT.out.sz; simp; omega
    intro v' W3 hown hgr hnil hloc
    have hlen := HCT.out.len
    have hgd := fok_fields hok (L := (addT (trAt l kx) L)) (by omega) HK.out
    rw [HN.out] at hgd
    generalize HWN : WT.alloc (.cells (ndCells { (nth l i) with x := (idx (addT (trAt l kx) L) (trAt l kx) : Int) }).toArray 109) = WN
    have hE2 : Ext WT WN := by rw [← HWN]; exact (Ext.refl _).alloc _
    have hgr2 : WN.grownBy W3 (Value.slice va ((addT (trAt l kx) L)).length vc).ownBlock := by rw [← HWN]; exact hgr
    have hloc1 : v'.ownBlock = (Value.slice va ((addT (trAt l kx) L)).length vc).ownBlock ∨ v'.ownBlock = some (WT.heap.size + 1) := by simpa using hloc
    have hszN : WT.heap.size ≤ WN.heap.size := hE2.size
    clear hgr hloc
    have hc2 := HCT.out.ext' hE2
    have hvb := HCT.out.vb
    have r1 := hgr2.cell hc2.co (by intro e; have := (hvb _ e.symm).1; simp at this)
    have r3 := hgr2.cell hc2.cn (by intro e; have := (hvb _ e.symm).1; simp at this)
    have g1 : W3.frozen? ⟨w.heap.size + 1, 0, none⟩ = false := by
      rw [World.frozen?_of_block (hgr2.block (w.heap.size + 1) (by have := hc2.sz; omega) (by intro e; have := (hvb _ e.symm).1; omega))]; exact hc2.fz
    have y0 := hgr2.cell (hE2.cell x0) HXB.out
    have y1 := hgr2.cell (hE2.cell x1) HXB.out
    have y2 := hgr2.cell (hE2.cell x2) HXB.out
    have y3 := hgr2.cell (hE2.cell x3) HXB.out
    have y4 := hgr2.cell (hE2.cell x4) HXB.out
    have y5 := hgr2.cell (hE2.cell x5) HXB.out
    have hmN3 : MapOn ndGood Nd.val (W3.setCell ⟨w.heap.size + 1, 0, none⟩ v') (w.heap.size + 2) (fun n => if n ∈ encL ((addT (trAt l kx) L)) then some ((encL ((addT (trAt l kx) L))).idxOf n : Int) else none) :=
      hc2.mN.kept (by
        rw [Below.heap_setCell _ _ _ _ (by simp)]
        exact hgr2.block _ (by have := hc2.sz; omega) (by intro e; have := (hvb _ e.symm).1; omega))
    have hni : { (nth l i) with x := (idx (addT (trAt l kx) L) (trAt l kx) : Int) } ∉ encL ((addT (trAt l kx) L)) := fun hh => HM.out ((mem_encL HCT.out.ok HCT.out.cl hok HK.out).1 (by rw [HN.out]; exact hh))
    have hni2 : (if { (nth l i) with x := (idx (addT (trAt l kx) L) (trAt l kx) : Int) } ∈ encL ((addT (trAt l kx) L)) then some ((encL ((addT (trAt l kx) L))).idxOf { (nth l i) with x := (idx (addT (trAt l kx) L) (trAt l kx) : Int) } : Int) else none) = none := if_neg hni
    have hloc2 : v'.ownBlock = (Value.slice va ((addT (trAt l kx) L)).length vc).ownBlock ∨ ∀ g, v'.ownBlock = some g → WN.heap.size ≤ g := by
      rcases hloc1 with e | e
      · exact .inl e
      · refine .inr fun g hg => ?_
        rw [e] at hg; cases hg
        rw [← HWN]; simp
    have hown2 : W3.ownsRow (w.heap.size + 7) 109 6 v' (((addT (trAt l kx) L)).length + 1) (rowN (encL ((addT (trAt l kx) L))) ++ ndCells (ndOf ((addT (trAt l kx) L)) (trAt l i))) := by rw [HN.out]; exact hown
    have hlen3 : (encL ((addT (trAt l kx) L)) ++ [{ (nth l i) with x := (idx (addT (trAt l kx) L) (trAt l kx) : Int) }]).length = ((addT (trAt l kx) L)).length + 1 := by simp
    obtain ⟨va', vc', hv', _⟩ := RN_of_own (l := encL ((addT (trAt l kx) L)) ++ [{ (nth l i) with x := (idx (addT (trAt l kx) L) (trAt l kx) : Int) }]) (by rw [hlen3, rowN_append]; simpa [rowN] using hown) (by rw [hlen3]; omega)
    rw [hlen3] at hv'
    have HNI := Lib.hid hni2
    have HO := Lib.hid hown2
    have HLO := Lib.hid hloc2
    have HGR := Lib.hid hgr2
    have HC2 := Lib.hid hc2
    have HMN := Lib.hid hmN3
    have HE2 := Lib.hid hE2
    clear hni2 hown2 hloc2 hgr2 hc2 hmN3 hown hloc1 hnil hE2 x0 x1 x2 x3 x4 x5 d1 d4 d5 f5 hni
    subst hv'
    have n13 : W.heap.size ≠ w.heap.size + 1 := by omega
    go_wp2_with (first | (at_mapUpdate; refine wpList_upd_on _ rfl _ _ _ 158 rfl _ rfl _ rfl _ rfl _ (HMN.out.ins node_keyed Tryz.underlying158 key_node nd_inj { (nth l i) with x := (idx (addT (trAt l kx) L) (trAt l kx) : Int) } hgd HNI.out _) ?_; intro W4 hW4; obtain ⟨hm4, hg4⟩ := hW4; have hp := HC2.out.push HM.out HK.out hok hrange HO.out HGR.out HLO.out (by rw [HN.out]; exact hm4) hg4; obtain ⟨hc4, hf4⟩ := hp; have s5 := hc4.cd; clear r1 r3 g1 y0 y1 y2 y3 y4 y5) | (at_mapUpdate; refine wpList_upd_on _ rfl _ _ _ 159 rfl _ rfl _ rfl _ rfl _ (hc4.mD.ins int_keyed' Tryz.underlying159 key_int i_inj _ (igood_of (by omega)) HDD.out _) ?_; intro W5 hW5))
    go_ret
    unfold FinPost
    have hput : addT (trAt l i) L = (addT (trAt l kx) L) ++ [trAt l i] := by rw [HA.out]; unfold put; rw [if_neg HM.out]
    rw [hput]
    have hidx : idx ((addT (trAt l kx) L) ++ [trAt l i]) (trAt l i) = ((addT (trAt l kx) L)).length := idx_new HM.out
    rw [hidx]
    refine ⟨_, _, rfl, hc4.done hW5.1 hW5.2 (by omega) (by simpa using hi) (by simp) (by simp only [Int.toNat_natCast]; rw [hidx]), ?_, HJ.out.ins _⟩
    exact (HFR.out.ext HE2.out).trans (hf4.trans (hc4.done_fr hW5.2))
end Wt
