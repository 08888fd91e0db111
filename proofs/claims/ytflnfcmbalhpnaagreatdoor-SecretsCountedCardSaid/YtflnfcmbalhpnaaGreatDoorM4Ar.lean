/- The state of wittingref05's walk (the canonical list so far, the numbers of the nodes that are done), and what a call of put does to it: plain facts. -/
import Derived.Test.YtflnfcmbalhpnaaGreatDoorM4Ai
import Derived.Test.YtflnfcmbalhpnaaGreatDoorM4Al
import Derived.Laws.StructEq
import Derived.Test.YtflnfcmbalhpnaaGreatDoorM4Aj
import Derived.Deep.RegionHeld3
import Derived.Deep.RegionLaw
import Derived.Deep.AppendLies
namespace Wt
open Go Go.RowKit Go.Maps Go.Proofs Fm

theorem node_fields : (Tryz.prog.fieldsOf 73).toList.map (fun f => (f.name == "_", f.type, f.offset)) = [(false, 3, 0), (false, 3, 1), (false, 3, 2), (false, 3, 3), (false, 3, 4), (false, 3, 5)] := by kernel_rfl
theorem node_struct : Tryz.prog.underlying 73 = some (.struct (Tryz.prog.fieldsOf 73)) := by kernel_rfl
theorem node_held : Tryz.prog.stoodInHeld 73 = false := by kernel_rfl
theorem eqFields_ints {P : Program} {w : World} (d : Nat) (h3 : P.underlying 3 = some (.int .i64)) (hp3 : P.plainKey 3 = true) (xs ys : Array Value) : ∀ (fs : List Field) (o : Nat) (us bs : List Int), fs.map (fun f => (f.name == "_", f.type, f.offset)) = (List.range' o us.length).map (fun k => (false, 3, k)) →
    us.length = bs.length → (∀ k, k < us.length → xs[o + k]? = some (.int .i64 (us.getD k 0))) → (∀ k, k < us.length → ys[o + k]? = some (.int .i64 (bs.getD k 0))) →
    (Op.eqFields (d + 1) xs ys fs).run P w = .ok (decide (us = bs)) w
  | [], o, us, bs, hf, hl, _, _ => by
    have : us = [] := by cases us with | nil => rfl | cons a us => simp [List.range'] at hf
    subst this
    have : bs = [] := by cases bs with | nil => rfl | cons b bs => simp at hl
    subst this
    simp [Op.eqFields]
  | f :: fs, o, [], bs, hf, hl, _, _ => by simp at hf
  | f :: fs, o, a :: us, [], hf, hl, _, _ => by simp at hl
  | f :: fs, o, a :: us, b :: bs, hf, hl, hx, hy => by
    simp only [List.map_cons, List.length_cons, List.range'_succ, List.cons.injEq, Prod.mk.injEq] at hf
    obtain ⟨⟨h1, h2, h4⟩, hf⟩ := hf
    have ih := eqFields_ints (w := w) d h3 hp3 xs ys fs (o + 1) us bs hf (by simpa using hl) (fun k hk => by have := hx (k + 1) (by simp; omega); rw [show o + (k + 1) = o + 1 + k by omega] at this; simpa using this) (fun k hk => by have := hy (k + 1) (by simp; omega); rw [show o + (k + 1) = o + 1 + k by omega] at this; simpa using this)
    have hx0 := hx 0 (by simp)
    have hy0 := hy 0 (by simp)
    simp at hx0 hy0
    unfold Op.eqFields
    rw [if_pos (by simpa using h1), h2, h4]
    have p1 := run_part_plain (P := P) (w := w) (e := 3) (xs := xs) (off := o) hp3 hx0
    have p2 := run_part_plain (P := P) (w := w) (e := 3) (xs := ys) (off := o) hp3 hy0
    have p3 := run_equalIn_int (P := P) (w := w) d 3 .i64 .i64 a b h3
    simp only [Sem.run_bind, p1, p2, p3, Result.andThen]
    by_cases hab : a = b
    · subst hab
      simp [ih]
    · simp [hab]
theorem int_plain : Tryz.prog.plainKey 3 = true := by kernel_rfl
theorem run_nd_eql (a b : Nd) (W : World) : (binOp .eql 73 a.val b.val).run Tryz.prog W = .ok (.bool (decide (a = b))) W := by
  have h := eqFields_ints (P := Tryz.prog) (w := W) 9998 Tryz.underlying3 int_plain #[.int .i64 a.op, .int .i64 a.i, .int .i64 a.e, .int .i64 a.g, .int .i64 a.x, .int .i64 a.y] #[.int .i64 b.op, .int .i64 b.i, .int .i64 b.e, .int .i64 b.g, .int .i64 b.x, .int .i64 b.y] (Tryz.prog.fieldsOf 73).toList 0 [a.op, a.i, a.e, a.g, a.x, a.y] [b.op, b.i, b.e, b.g, b.x, b.y] (by rw [node_fields]; rfl) rfl
    (fun k hk => by
      rcases (show k = 0 ∨ k = 1 ∨ k = 2 ∨ k = 3 ∨ k = 4 ∨ k = 5 by simp at hk; omega) with rfl | rfl | rfl | rfl | rfl | rfl <;> rfl)
    (fun k hk => by
      rcases (show k = 0 ∨ k = 1 ∨ k = 2 ∨ k = 3 ∨ k = 4 ∨ k = 5 by simp at hk; omega) with rfl | rfl | rfl | rfl | rfl | rfl <;> rfl)
  unfold Nd.val
  rw [run_eql_struct, run_equalIn_agg (P := Tryz.prog) (w := W) (t := 73) (ht := node_struct) (hp := node_held), h]
  have : decide (a = b) = decide ([a.op, a.i, a.e, a.g, a.x, a.y] = [b.op, b.i, b.e, b.g, b.x, b.y]) := by
    cases a; cases b; simp
  rw [this]
  rfl

structure FR (wb g : Nat) (v : Value) (W W' : World) (v' : Value) : Prop where
  size : W.heap.size ≤ W'.heap.size
  keep : ∀ k, k < W.heap.size → k ≠ wb → k ≠ g → some k ≠ v.ownBlock → W'.heap[k]? = W.heap[k]?
  own : v'.ownBlock = v.ownBlock ∨ ∀ b, v'.ownBlock = some b → W.heap.size ≤ b
theorem FR.refl (wb g : Nat) (v : Value) (W : World) : FR wb g v W W v := ⟨Nat.le_refl _, fun _ _ _ _ _ => rfl, .inl rfl⟩
theorem FR.trans {wb g : Nat} {v v1 v2 : Value} {W W1 W2 : World} (a : FR wb g v W W1 v1) (b : FR wb g v1 W1 W2 v2) : FR wb g v W W2 v2 where
  size := Nat.le_trans a.size b.size
  keep k h1 h2 h3 h4 := by
    have hne : some k ≠ v1.ownBlock := by
      rcases a.own with e | e
      · rw [e]; exact h4
      · intro e2
        have := e k e2.symm
        omega
    exact (b.keep k (Nat.lt_of_lt_of_le h1 a.size) h2 h3 hne).trans (a.keep k h1 h2 h3 h4)
  own := by
    rcases b.own with e | e
    · rw [e]; exact a.own
    · exact .inr fun g hg => Nat.le_trans a.size (e g hg)
theorem FR.ext {wb g : Nat} {v v1 : Value} {W W1 W2 : World} (a : FR wb g v W W1 v1) (b : Ext W1 W2) : FR wb g v W W2 v1 :=
  a.trans ⟨b.size, fun k h1 _ _ _ => b.block k h1, .inl rfl⟩
theorem FR.pre {wb g : Nat} {v v1 : Value} {W W1 W2 : World} (b : Ext W W1) (a : FR wb g v W1 W2 v1) : FR wb g v W W2 v1 :=
  FR.trans (v1 := v) ⟨b.size, fun k h1 _ _ _ => b.block k h1, .inl rfl⟩ a
theorem FR.block {wb g : Nat} {v v1 : Value} {W W1 : World} (a : FR wb g v W W1 v1) {k : Nat} (h1 : k < W.heap.size) (h2 : k ≠ wb) (h3 : k ≠ g) (h4 : some k ≠ v.ownBlock) : W1.heap[k]? = W.heap[k]? := a.keep k h1 h2 h3 h4
theorem FR.xb {wb g : Nat} {v v1 : Value} {W W1 : World} (a : FR wb g v W W1 v1) {b : Nat} (hb : b < W.heap.size) (hv : some b ≠ v.ownBlock) : some b ≠ v1.ownBlock := by
  rcases a.own with e | e
  · rw [e]; exact hv
  · intro e2; have := e b e2.symm; omega

section
variable (w : World) (wb g c : Nat) (l : List Nd)
structure RS (W : World) (L : List Fm) (v : Value) (D : List Int) : Prop where
  lo : w.heap.size ≤ wb
  hi : wb < W.heap.size
  ext : Ext w W
  co : W.cell? ⟨wb, 0, none⟩ = some v
  cd : W.cell? ⟨wb, 1, none⟩ = some (.slice (some ⟨g, 0, none⟩) l.length c)
  fz : ∀ o, W.frozen? ⟨wb, o, none⟩ = false
  own : W.ownsRow (wb + 1) 73 6 v L.length (rowN (encL L))
  dn : OG W (wb + 1) 3 (.int .i64) g l.length c D
  ne : v.ownBlock ≠ some g
  dD : ∀ i, i < l.length → nth D i = -1 ∨ (trAt l i ∈ L ∧ nth D i = idx L (trAt l i))
  nd : L.Nodup
  cl : Cl L
  ok : AllOk L
  sub : ∀ t ∈ L, t ∈ (List.range l.length).map (trAt l)
variable {w wb g c l} {W : World} {L : List Fm} {v : Value} {D : List Int}
theorem RS.len (h : RS w wb g c l W L v D) : L.length ≤ l.length := by
  have := nodup_sub_len h.nd h.sub
  simpa using this
theorem RS.vb (h : RS w wb g c l W L v D) : ∀ b, v.ownBlock = some b → wb + 1 ≤ b ∧ b < W.heap.size := h.own.lt
theorem RS.gb (h : RS w wb g c l W L v D) : wb + 1 ≤ g ∧ g < W.heap.size := ⟨h.dn.base_le, h.dn.lt⟩
theorem RS.ext' (h : RS w wb g c l W L v D) {W' : World} (e : Ext W W') : RS w wb g c l W' L v D := by
  have hz := h.hi
  refine ⟨h.lo, by have := e.size; omega, h.ext.trans e, e.cell h.co, e.cell h.cd, fun o => ?_, ?_, h.dn.ext e, h.ne, h.dD, h.nd, h.cl, h.ok, h.sub⟩
  · rw [World.frozen?_of_block (w := W) (e.block _ hz)]; exact h.fz o
  · exact h.own.kept (row := none) ⟨e.os, e.tape, e.output, e.size, fun k hk _ => e.block k hk⟩ (by cases v.ownBlock <;> simp)
theorem RS.slice (h : RS w wb g c l W L v D) (hl : l.length ≤ 1000) : ∃ va vc, v = .slice va L.length vc ∧ RN W va (encL L) := by
  obtain ⟨va, vc, hv, hrn⟩ := RN_of_own (l := encL L) (by rw [encL_length]; exact h.own) (by rw [encL_length]; have := h.len; omega)
  rw [encL_length] at hv
  exact ⟨va, vc, hv, hrn⟩
theorem RS.push (h : RS w wb g c l W L v D) {t : Fm} (hn : t ∉ L) (hk : ∀ c, kid c t → c ∈ L) (ht : fok t) (hs : t ∈ (List.range l.length).map (trAt l)) {W1 : World} {v' : Value}
    (ho : W1.ownsRow (wb + 1) 73 6 v' (L.length + 1) (rowN (encL L) ++ ndCells (ndOf L t))) (g1 : W.grownBy W1 v.ownBlock) (hv : v'.ownBlock = v.ownBlock ∨ ∀ b, v'.ownBlock = some b → W.heap.size ≤ b) :
    RS w wb g c l (W1.setCell ⟨wb, 0, none⟩ v') (L ++ [t]) v' D ∧ FR wb g v W (W1.setCell ⟨wb, 0, none⟩ v') v' := by
  have hz := h.hi
  have hlo := h.lo
  have hgb := h.gb
  have hvb := h.vb
  have hz1 : W.heap.size ≤ W1.heap.size := g1.size
  have hwv : some wb ≠ v.ownBlock := fun e => by have := (hvb wb e.symm).1; omega
  have hgv : some g ≠ v.ownBlock := fun e => h.ne e.symm
  have co1 : W1.cell? ⟨wb, 0, none⟩ = some v := g1.cell h.co (by simpa using hwv)
  have cd1 : W1.cell? ⟨wb, 1, none⟩ = some (.slice (some ⟨g, 0, none⟩) l.length c) := g1.cell h.cd (by simpa using hwv)
  have hlt : ∀ b, v'.ownBlock = some b → wb + 1 ≤ b ∧ b < W1.heap.size := ho.lt
  have hwv' : v'.ownBlock ≠ some wb := fun e => by have := (hlt wb e).1; omega
  have dn1 : OG W1 (wb + 1) 3 (.int .i64) g l.length c D := ⟨h.dn.len, h.dn.row.kept g1 (by simpa [Value.ownBlock] using hgv)⟩
  have e1 : (L ++ [t]).length = L.length + 1 := by simp
  have e2 : rowN (encL (L ++ [t])) = rowN (encL L) ++ ndCells (ndOf L t) := by rw [encL_snoc h.cl hk, rowN_append]; simp [rowN]
  refine ⟨⟨hlo, by simp [World.setCell]; omega, ?_, World.cell?_setCell_same _ _ _ co1, ?_, fun o => ?_, ?_, dn1.other 0 v' (by omega), ?_, ?_, ?_, h.cl.snoc' hn hk, ?_, ?_⟩, ⟨by simpa [World.setCell] using hz1, fun k h1 h2 h3 h4 => ?_, hv⟩⟩
  · exact (ext_of_grown h.ext g1 (fun k hk => by have := (hvb k hk).1; omega)).setCell (by simp; omega) _
  · rw [World.cell?_setCell_other _ _ _ _ (by simp)]; exact cd1
  · rw [World.frozen?_setCell, World.frozen?_of_block (g1.block wb hz hwv)]; exact h.fz o
  · rw [e1, e2]
    exact ho.kept (row := some wb) ⟨rfl, rfl, rfl, by simp, fun j _ hj => heap_setCell_other W1 ⟨wb, 0, none⟩ j v' (fun e => hj (by simp [e]))⟩ (.inr hwv')
  · intro e
    rcases hv with hv | hv
    · rw [hv] at e; exact h.ne e
    · have := hv g e; omega
  · intro i hi
    rcases h.dD i hi with h1 | ⟨h1, h2⟩
    · exact .inl h1
    · exact .inr ⟨by simp [h1], by rw [idx_append h1]; exact h2⟩
  · rw [List.nodup_append]
    refine ⟨h.nd, by simp, fun a ha b hb => ?_⟩
    simp at hb
    subst hb
    rintro rfl
    exact hn ha
  · intro s hs'
    simp only [List.mem_append, List.mem_singleton] at hs'
    rcases hs' with h1 | rfl
    · exact h.ok s h1
    · exact ht
  · intro s hs'
    simp only [List.mem_append, List.mem_singleton] at hs'
    rcases hs' with h1 | rfl
    · exact h.sub s h1
    · exact hs
  · rw [Below.heap_setCell _ _ _ _ (by simpa using h2)]
    exact g1.block k h1 h4
theorem RS.mark (h : RS w wb g c l W L v D) {i : Nat} (hi : i < l.length) (hm : trAt l i ∈ L) : RS w wb g c l (W.setCell ⟨g, i, none⟩ (.int .i64 (idx L (trAt l i)))) L v (D.set i (idx L (trAt l i) : Int)) ∧ FR wb g v W (W.setCell ⟨g, i, none⟩ (.int .i64 (idx L (trAt l i)))) v := by
  have hz := h.hi
  have hlo := h.lo
  have hgb := h.gb
  have hdl := h.dn.len
  refine ⟨⟨hlo, by simpa [World.setCell] using hz, h.ext.setCell (by simp; omega) _, ?_, ?_, fun o => ?_, ?_, h.dn.set i _, h.ne, ?_, h.nd, h.cl, h.ok, h.sub⟩, ⟨by simp [World.setCell], fun k h1 h2 h3 h4 => ?_, .inl rfl⟩⟩
  · rw [World.cell?_setCell_other _ _ _ _ (by simp; try omega)]; exact h.co
  · rw [World.cell?_setCell_other _ _ _ _ (by simp; try omega)]; exact h.cd
  · rw [World.frozen?_setCell]; exact h.fz o
  · exact h.own.kept (row := some g) ⟨rfl, rfl, rfl, by simp, fun j _ hj => heap_setCell_other W ⟨g, i, none⟩ j _ (fun e => hj (by simp [e]))⟩ (.inr h.ne)
  · intro j hj
    by_cases hij : i = j
    · subst hij
      refine .inr ⟨hm, ?_⟩
      rw [nth_eq _ _ (by rw [List.length_set]; omega)]
      simp
    · have : nth (D.set i (idx L (trAt l i) : Int)) j = nth D j := by
        rw [nth_eq _ _ (by rw [List.length_set]; omega), nth_eq _ _ (by omega)]
        exact List.getElem_set_ne hij _
      rw [this]
      exact h.dD j hj
  · exact Below.heap_setCell _ _ _ _ (by simpa using h3)
theorem RS.setBox (h : RS w wb g c l W L v D) {b : Nat} (h0 : w.heap.size ≤ b) (h1 : b ≠ wb) (h2 : b ≠ g) (h3 : some b ≠ v.ownBlock) (o : Nat) (u : Value) : RS w wb g c l (W.setCell ⟨b, o, none⟩ u) L v D := by
  refine ⟨h.lo, by simpa [World.setCell] using h.hi, h.ext.setCell (by simpa using h0) _, ?_, ?_, fun o => ?_, ?_, h.dn.other o u (Ne.symm h2), h.ne, h.dD, h.nd, h.cl, h.ok, h.sub⟩
  · rw [World.cell?_setCell_other _ _ _ _ (by simp)]; exact h.co
  · rw [World.cell?_setCell_other _ _ _ _ (by simp)]; exact h.cd
  · rw [World.frozen?_setCell]; exact h.fz o
  · exact h.own.kept (row := some b) ⟨rfl, rfl, rfl, by simp, fun j _ hj => heap_setCell_other W ⟨b, o, none⟩ j u (fun e => hj (by simp [e]))⟩ (.inr (Ne.symm h3))
theorem FR.setNew {wb g : Nat} {v v1 : Value} {W W1 : World} (a : FR wb g v W W1 v1) {b : Nat} (hb : W.heap.size ≤ b) (o : Nat) (u : Value) : FR wb g v W (W1.setCell ⟨b, o, none⟩ u) v1 :=
  ⟨by have := a.size; simpa [World.setCell] using this, fun k h1 h2 h3 h4 => (Below.heap_setCell _ _ _ _ (by simp; omega)).trans (a.keep k h1 h2 h3 h4), a.own⟩
theorem RS.found (h : RS w wb g c l W L v D) {t : Fm} (hk : ∀ c, kid c t → c ∈ L) (ht : fok t) {k : Nat} (hlt : k < L.length) (he : nth (encL L) k = ndOf L t) : t ∈ L ∧ k = idx L t := by
  have h1 : nth (encL L) k = ndOf L L[k] := by
    rw [nth_eq _ _ (by rw [encL_length]; exact hlt)]
    exact encL_get hlt
  have hm : L[k] ∈ L := List.getElem_mem hlt
  have h2 : L[k] = t := ndOf_inj (h.ok _ hm) ht (fun c hc => h.cl.kid hm hc) hk (by rw [← h1, he])
  exact ⟨h2 ▸ hm, by rw [← h2, idx_getElem h.nd hlt]⟩
theorem RS.none (_h : RS w wb g c l W L v D) {t : Fm} (hno : ∀ j, 0 ≤ j → j < L.length → nth (encL L) j ≠ ndOf L t) : t ∉ L := fun hm => by
  refine hno (idx L t) (Nat.zero_le _) (idx_lt hm) ?_
  rw [nth_eq _ _ (by rw [encL_length]; exact idx_lt hm)]
  rw [encL_get (idx_lt hm), getElem_idx hm]
end
end Wt

namespace Wt
open Go Go.RowKit Go.Maps Go.Proofs Fm

def PutPost (w : World) (wb g c : Nat) (l : List Nd) (W : World) (L : List Fm) (v : Value) (D : List Int) (t : Fm) (e : Ending) (W' : World) : Prop :=
  ∃ v', e = .returned (.int .i64 (idx (put t L) t)) ∧ RS w wb g c l W' (put t L) v' D ∧ FR wb g v W W' v'
set_option maxRecDepth 20000 in
set_option maxHeartbeats 2000000 in
theorem r5put_any {w : World} {wb g c : Nat} {l : List Nd} {W : World} {L : List Fm} {v : Value} {D : List Int} (h : RS w wb g c l W L v D) (hl : l.length ≤ 1000) {t : Fm} (n : Nd) (hk : ∀ c, kid c t → c ∈ L) (ht : fok t) (hs : t ∈ (List.range l.length).map (trAt l)) (hn : ndOf L t = n) :
    Calls Tryz.prog 177 #[.pointer (some ⟨wb, 0, none⟩), .agg #[.int .i64 n.op, .int .i64 n.i, .int .i64 n.e, .int .i64 n.g, .int .i64 n.x, .int .i64 n.y]] W (PutPost w wb g c l W L v D t) := by
  obtain ⟨va, vc, rfl, hrn⟩ := h.slice hl
  have hx := NdAt.new W n 73
  have hE0 : Ext W (W.alloc (.cells #[.int .i64 n.op, .int .i64 n.i, .int .i64 n.e, .int .i64 n.g, .int .i64 n.x, .int .i64 n.y] 73)) := (Ext.refl W).alloc _
  have hlen := h.len
  have HX := Lib.hid hx
  have HE0 := Lib.hid hE0
  have H := Lib.hid h
  have HN := Lib.hid hn
  have HK := Lib.hid hk
  have HT := Lib.hid ht
  have HS := Lib.hid hs
  have HRN := Lib.hid hrn
  have c0 := h.co
  clear hx hE0 h hn hk ht hs hrn
  go_enter Tryz.func177, Tryz.ntmps177
  go_wp2
  go_loopw [5] (fun i wr => ∃ k : Nat, k ≤ L.length ∧ i = .int .i64 k ∧ Qu (W.alloc (.cells #[.int .i64 n.op, .int .i64 n.i, .int .i64 n.e, .int .i64 n.g, .int .i64 n.x, .int .i64 n.y] 73)) wr ∧ Hid (∀ j, 0 ≤ j → j < k → nth (encL L) j ≠ n)) (fun i _ => L.length - (intOf i).toNat)
  case atStart => exact ⟨0, Nat.zero_le _, rfl, Qu.refl _, fun _ _ h => absurd h (Nat.not_lt_zero _)⟩
  case round =>
    obtain ⟨k, hk, rfl, hq, hno⟩ := hrel
    have hE : Ext W wr := HE0.out.trans hq.ext
    have hR := H.out.ext' hE
    have HR := Lib.hid hR
    have HQ := Lib.hid hq
    have HEE := Lib.hid hE
    clear c0
    obtain ⟨x0, x1, x2, x3, x4, x5⟩ := HX.out.ext hq.ext
    simp only [Nat.zero_add] at x1 x2 x3 x4 x5
    have c0 := hR.co
    by_cases hlt : k < L.length
    · obtain ⟨b, off, rfl, hb, n0, n1, n2, n3, n4, n5⟩ := (HRN.out.ext hE).get (k := k) (by rw [encL_length]; exact hlt)
      clear hR hq hE
      by_cases hq2 : nth (encL L) k = n
      · obtain ⟨hm, hidx⟩ := HR.out.found HK.out HT.out hlt (hq2.trans HN.out.symm)
        rw [hq2] at n0 n1 n2 n3 n4 n5
        have hcmp : ∀ W, (binOp .eql 73 (.agg #[.int .i64 n.op, .int .i64 n.i, .int .i64 n.e, .int .i64 n.g, .int .i64 n.x, .int .i64 n.y]) (.agg #[.int .i64 n.op, .int .i64 n.i, .int .i64 n.e, .int .i64 n.g, .int .i64 n.x, .int .i64 n.y])).run Tryz.prog W = .ok (.bool true) W := fun W => (run_nd_eql n n W).trans (by simp)
        have HM := Lib.hid hm
        have HI := Lib.hid hidx
        clear hm hidx hq2
        go_wp2_with fail
        go_quiet (fail)
        go_wp2
        go_ret
        refine ⟨_, ?_, ?_, (FR.refl wb g _ W).ext (HEE.out.drewN _)⟩
        · rw [put_of_mem HM.out, ← HI.out]; rfl
        · rw [put_of_mem HM.out]; exact HR.out.ext' ((Ext.refl _).drewN _)
      · have hcmp : ∀ W, (binOp .eql 73 (.agg #[.int .i64 (nth (encL L) k).op, .int .i64 (nth (encL L) k).i, .int .i64 (nth (encL L) k).e, .int .i64 (nth (encL L) k).g, .int .i64 (nth (encL L) k).x, .int .i64 (nth (encL L) k).y]) (.agg #[.int .i64 n.op, .int .i64 n.i, .int .i64 n.e, .int .i64 n.g, .int .i64 n.x, .int .i64 n.y])).run Tryz.prog W = .ok (.bool false) W := fun W => (run_nd_eql (nth (encL L) k) n W).trans (by simp [hq2])
        have HQ2 := Lib.hid hq2
        clear hq2
        go_wp2_with fail
        go_quiet (fail)
        go_wp2
        go_roundw
        case rel =>
          exact ⟨k + 1, hlt, by go_num, HQ.out.drewN _, fun j h0 hj => by
            rcases Nat.lt_or_ge j k with h | h
            · exact hno.out j h0 h
            · obtain rfl : j = k := by omega
              exact HQ2.out⟩
        case measure => simp [intOf]; omega
    · obtain rfl : k = L.length := by omega
      have HM := Lib.hid (HR.out.none (t := t) (fun j h0 hj => by rw [HN.out]; exact hno.out j h0 hj))
      clear hR hq hE
      obtain ⟨i0, hi1, hz0, hz1, hz2⟩ := info_parts node_info
      have hqq := HQ.out.ext.size
      simp at hqq
      have hwb := HR.out.hi
      have HO : Hid (∀ o, RS w wb g c l (wr.drew.alloc o) L (.slice va L.length vc) D) := fun o => HR.out.ext' (((Ext.refl wr).drew).alloc o)
      have hnews := news_of wr.drew n 73
      have hone : ∀ u ∈ ndCells n, u.oneCell' = true := by
        intro u hu'
        simp [ndCells] at hu'
        rcases hu' with rfl | rfl | rfl | rfl | rfl | rfl <;> rfl
      have HNW := Lib.hid hnews
      have HON := Lib.hid hone
      have hvb := HR.out.vb
      have hn1 : some wb ≠ (Value.slice va L.length vc).ownBlock := fun e => by have := (hvb wb e.symm).1; omega
      have hn2 : some W.heap.size ≠ (Value.slice va L.length vc).ownBlock := fun e => by have := (H.out.vb _ e.symm).2; omega
      have HN1 := Lib.hid hn1
      have HN2 := Lib.hid hn2
      have HNK : Hid (∀ o w1, (wr.drew.alloc o).grownBy w1 (Value.slice va L.length vc).ownBlock → w1.cell? ⟨wb, 0, none⟩ = some (.slice va L.length vc) ∧ w1.cell? ⟨W.heap.size, 0, none⟩ = some (.int .i64 n.op) ∧ w1.cell? ⟨W.heap.size, 1, none⟩ = some (.int .i64 n.i) ∧ w1.cell? ⟨W.heap.size, 2, none⟩ = some (.int .i64 n.e) ∧ w1.cell? ⟨W.heap.size, 3, none⟩ = some (.int .i64 n.g) ∧ w1.cell? ⟨W.heap.size, 4, none⟩ = some (.int .i64 n.x) ∧ w1.cell? ⟨W.heap.size, 5, none⟩ = some (.int .i64 n.y)) := by
        intro o w1 hg
        have e := ((Ext.refl wr).drew.alloc o)
        exact ⟨hg.cell (e.cell c0) hn1, hg.cell (e.cell x0) hn2, hg.cell (e.cell x1) hn2, hg.cell (e.cell x2) hn2, hg.cell (e.cell x3) hn2, hg.cell (e.cell x4) hn2, hg.cell (e.cell x5) hn2⟩
      have HFZ : Hid (∀ o w1, (wr.drew.alloc o).grownBy w1 (Value.slice va L.length vc).ownBlock → w1.frozen? ⟨wb, 0, none⟩ = false) := by
        intro o w1 hg
        rw [World.frozen?_of_block (hg.block wb (by simp; omega) hn1)]
        exact (HO.out o).fz 0
      clear hnews hone hn1 hn2 hvb
      go_wp2_with fail
      go_region_law (refine step_append_lies _ (by rfl) _ _ 29 (by rfl) (wb + 1) 73 i0 _ 6 48 Tryz.underlying29 hi1 hz0 hz1 hz2 rfl (by decide) (.slice va L.length vc) L.length (rowN (encL L)) (by rfl) (HO.out _).own ⟨wr.heap.size, 0, none⟩ 1 1 (ndCells n) (by rfl) (by rfl) HNW.out HON.out (by decide) (by unfold maxLen; omega) (by omega) (by simp; omega) (wr.heap.size + 1) (by simp) ?_; intro gx cap w1 hown1 hgrow hat hlt2; have fz1 := HFZ.out _ _ hgrow; obtain ⟨y0, y1, y2, y3, y4, y5, y6⟩ := HNK.out _ _ hgrow)
      all_goals
        have hpush := (HO.out (.cells #[.int .i64 n.op, .int .i64 n.i, .int .i64 n.e, .int .i64 n.g, .int .i64 n.x, .int .i64 n.y] 73)).push (v' := .slice (some ⟨gx, 0, none⟩) (L.length + 1) cap) HM.out HK.out HT.out HS.out (by rw [HN.out]; exact hown1) hgrow (hat.elim (fun e => .inl e.symm) (fun e => .inr fun b hb => by cases hb; simp; omega))
        have HP := Lib.hid hpush
        clear hpush hgrow hown1 hat
        go_wp2
        go_ret
        have hput : put t L = L ++ [t] := by unfold put; rw [if_neg HM.out]
        refine ⟨_, ?_, by rw [hput]; exact HP.out.1, FR.pre (HEE.out.drew.alloc _) HP.out.2⟩
        rw [hput, idx_new HM.out]
        go_num
end Wt

namespace Wt
open Go Go.RowKit Go.Maps Go.Proofs Fm

theorem use_low (op : Int) (h : op < 1 ∨ 21 < op) : useOf op = (⟨false,false,false,false,false,false,0⟩, false) := by
  refine useOf_no op fun h2 => ?_
  rcases useOf_cases op h2 with h | h | h | h | h | h | h | h | h | h | h | h | h | h | h | h | h | h | h | h | h <;> omega
theorem op_cases (op : Int) : (op < 1 ∨ 21 < op) ∨ op = 1 ∨ op = 2 ∨ op = 3 ∨ op = 4 ∨ op = 5 ∨ op = 6 ∨ op = 7 ∨ op = 8 ∨ op = 9 ∨ op = 10 ∨ op = 11 ∨ op = 12 ∨ op = 13 ∨ op = 14 ∨ op = 15 ∨ op = 16 ∨ op = 17 ∨ op = 18 ∨ op = 19 ∨ op = 20 ∨ op = 21 := by omega
theorem r5x_eq (op : Int) : (useOf op).1.x = (decide (4 ≤ op) && decide (op ≤ 21)) := by
  rcases op_cases op with h | h | h | h | h | h | h | h | h | h | h | h | h | h | h | h | h | h | h | h | h | h
  · rw [use_low op h]; simp; omega
  all_goals (subst h; rfl)
theorem r5y_eq (op : Int) : (useOf op).1.y = (decide (5 ≤ op ∧ op ≤ 8) || op == 13 || op == 14 || op == 16 || op == 19 || op == 21) := by
  rcases op_cases op with h | h | h | h | h | h | h | h | h | h | h | h | h | h | h | h | h | h | h | h | h | h
  · rw [use_low op h]; simp; omega
  all_goals (subst h; rfl)
theorem r5a_eq (op : Int) : (useOf op).1.agent = (op == 9 || op == 10 || op == 14 || op == 15) := by
  rcases op_cases op with h | h | h | h | h | h | h | h | h | h | h | h | h | h | h | h | h | h | h | h | h | h
  · rw [use_low op h]; simp; omega
  all_goals (subst h; rfl)
theorem r5g_eq (op : Int) : (useOf op).1.group = (decide (11 ≤ op) && decide (op ≤ 13)) := by
  rcases op_cases op with h | h | h | h | h | h | h | h | h | h | h | h | h | h | h | h | h | h | h | h | h | h
  · rw [use_low op h]; simp; omega
  all_goals (subst h; rfl)
theorem r5f_eq (op : Int) : (useOf op).1.fact = (op == 3) := by
  rcases op_cases op with h | h | h | h | h | h | h | h | h | h | h | h | h | h | h | h | h | h | h | h | h | h
  · rw [use_low op h]; simp; omega
  all_goals (subst h; rfl)
theorem r5e_eq (op : Int) : (useOf op).1.event = (op == 17) := by
  rcases op_cases op with h | h | h | h | h | h | h | h | h | h | h | h | h | h | h | h | h | h | h | h | h | h
  · rw [use_low op h]; simp; omega
  all_goals (subst h; rfl)
theorem r5ok_eq (op : Int) : (useOf op).2 = (decide (1 ≤ op) && decide (op ≤ 21)) := by
  rcases op_cases op with h | h | h | h | h | h | h | h | h | h | h | h | h | h | h | h | h | h | h | h | h | h
  · rw [use_low op h]; simp; omega
  all_goals (subst h; rfl)
set_option maxHeartbeats 1000000 in
theorem r5X_any (op : Int) (w : World) :
    Calls Tryz.prog 125 #[.int .i64 op] w fun e w' => e = .returned (.bool (useOf op).1.x) ∧ w = w' := by
  have H := Lib.hid (r5x_eq op)
  by_cases h1 : 4 ≤ op <;> by_cases h2 : op ≤ 21
  all_goals
    go_enter Tryz.func125, Tryz.ntmps125
    go_wp2
    go_ret
    exact ⟨by rw [H.out]; simp [h1, h2], rfl⟩
set_option maxHeartbeats 1000000 in
theorem r5G_any (op : Int) (w : World) :
    Calls Tryz.prog 157 #[.int .i64 op] w fun e w' => e = .returned (.bool (useOf op).1.group) ∧ w = w' := by
  have H := Lib.hid (r5g_eq op)
  by_cases h1 : 11 ≤ op <;> by_cases h2 : op ≤ 13
  all_goals
    go_enter Tryz.func157, Tryz.ntmps157
    go_wp2
    go_ret
    exact ⟨by rw [H.out]; simp [h1, h2], rfl⟩
set_option maxHeartbeats 1000000 in
theorem r5A_any (op : Int) (w : World) :
    Calls Tryz.prog 156 #[.int .i64 op] w fun e w' => e = .returned (.bool (useOf op).1.agent) ∧ w = w' := by
  by_cases h : op = 9 ∨ op = 10 ∨ op = 14 ∨ op = 15
  · rcases h with rfl | rfl | rfl | rfl
    all_goals
      go_enter Tryz.func156, Tryz.ntmps156
      go_wp2
      go_ret
      exact ⟨rfl, rfl⟩
  · have H := Lib.hid (r5a_eq op)
    have e9 : (op == 9) = false := by simp; omega
    have e10 : (op == 10) = false := by simp; omega
    have e14 : (op == 14) = false := by simp; omega
    have e15 : (op == 15) = false := by simp; omega
    clear h
    go_enter Tryz.func156, Tryz.ntmps156
    go_wp2
    go_ret
    exact ⟨by rw [H.out]; simp [e9, e10, e14, e15], rfl⟩
set_option maxHeartbeats 1000000 in
theorem r5Y_any (op : Int) (w : World) :
    Calls Tryz.prog 126 #[.int .i64 op] w fun e w' => e = .returned (.bool (useOf op).1.y) ∧ w = w' := by
  by_cases h : op = 5 ∨ op = 6 ∨ op = 7 ∨ op = 8 ∨ op = 13 ∨ op = 14 ∨ op = 16 ∨ op = 19 ∨ op = 21
  · rcases h with rfl | rfl | rfl | rfl | rfl | rfl | rfl | rfl | rfl
    all_goals
      go_enter Tryz.func126, Tryz.ntmps126
      go_wp2
      go_ret
      exact ⟨rfl, rfl⟩
  · have H := Lib.hid (r5y_eq op)
    have e13 : (op == 13) = false := by simp; omega
    have e14 : (op == 14) = false := by simp; omega
    have e16 : (op == 16) = false := by simp; omega
    have e19 : (op == 19) = false := by simp; omega
    have e21 : (op == 21) = false := by simp; omega
    have e58 : decide (5 ≤ op ∧ op ≤ 8) = false := by simp; omega
    by_cases h5 : 5 ≤ op
    · have d8 : decide (op ≤ 8) = false := by simp; omega
      clear h
      go_enter Tryz.func126, Tryz.ntmps126
      go_wp2
      go_ret
      exact ⟨by rw [H.out, e58, e13, e14, e16, e19, e21]; rfl, rfl⟩
    · clear h
      go_enter Tryz.func126, Tryz.ntmps126
      go_wp2
      go_ret
      exact ⟨by rw [H.out, e58, e13, e14, e16, e19, e21]; rfl, rfl⟩

set_option maxRecDepth 20000 in
set_option maxHeartbeats 1000000 in
theorem r5node_low (op i ev g x y a : Int) (w : World) (h : op < 1 ∨ 21 < op) :
    Calls Tryz.prog 122 #[.agg #[.int .i64 op, .int .i64 i, .int .i64 ev, .int .i64 g, .int .i64 x, .int .i64 y], .int .i64 a] w fun e w' => e = .returned (.int .i64 (nodeErr ⟨op, i, ev, g, x, y⟩ a)) ∧ Ext w w' := by
  have hn : nodeErr ⟨op, i, ev, g, x, y⟩ a = 10 := nodeErr_no _ _ (by rw [use_low op h])
  have HN := Lib.hid hn
  clear hn
  rcases h with h | h
  · go_enter Tryz.func122, Tryz.ntmps122
    go_wp2
    go_ret
    exact ⟨by rw [HN.out]; rfl, (Ext.refl w).alloc _⟩
  · go_enter Tryz.func122, Tryz.ntmps122
    go_wp2
    go_ret
    exact ⟨by rw [HN.out]; rfl, (Ext.refl w).alloc _⟩
end Wt

namespace Wt
open Go Go.RowKit Go.Maps Go.Proofs Fm

def FinRPost (w : World) (wb g c : Nat) (l : List Nd) (i : Nat) (W : World) (L : List Fm) (v : Value) (_D : List Int) (e : Ending) (W' : World) : Prop :=
  ∃ v' D', e = .returned (.int .i64 (idx (addT (trAt l i) L) (trAt l i))) ∧ RS w wb g c l W' (addT (trAt l i) L) v' D' ∧ FR wb g v W W' v'
def FinR (w : World) (wb g c : Nat) (fa : Option Addr) (fc : Nat) (l : List Nd) (i : Nat) : Prop :=
  ∀ W L v D, RS w wb g c l W L v D →
    Calls Tryz.prog 159 #[.slice fa l.length fc, .int .i64 (i : Int), .pointer (some ⟨wb, 0, none⟩)] W (FinRPost w wb g c l i W L v D)
set_option maxRecDepth 20000 in
set_option maxHeartbeats 2000000 in
theorem r5finish_done {w : World} {wb g c : Nat} {fa : Option Addr} {fc : Nat} {l : List Nd} {W : World} {L : List Fm} {v : Value} {D : List Int} (h : RS w wb g c l W L v D) (i : Nat) (hi : i < l.length) (hD : nth D i ≠ -1) (_hl : l.length ≤ 1000) :
    Calls Tryz.prog 159 #[.slice fa l.length fc, .int .i64 (i : Int), .pointer (some ⟨wb, 0, none⟩)] W (FinRPost w wb g c l i W L v D) := by
  rcases h.dD i hi with h1 | ⟨hm, h2⟩
  · exact absurd h1 hD
  have hp : FinRPost w wb g c l i W L v D (.returned (.int .i64 (idx L (trAt l i)))) W := by
    unfold FinRPost
    rw [addT_of_mem _ h.cl hm]
    exact ⟨v, D, rfl, h, FR.refl _ _ _ _⟩
  have c1 := h.cd
  have c2 := h.dn.cell hi
  rw [h2] at c2
  have HP := Lib.hid hp
  clear hp h h2 hm hD
  go_enter Tryz.func159, Tryz.ntmps159
  go_wp2
  go_ret
  exact HP.out
set_option maxRecDepth 20000 in
set_option maxHeartbeats 4000000 in
theorem r5finish_leaf {w : World} {wb g c : Nat} {fa : Option Addr} {fc : Nat} {l : List Nd} {W : World} {L : List Fm} {v : Value} {D : List Int} (hr : RN w fa l) (hw : Wf l) (h : RS w wb g c l W L v D) (i : Nat) (hi : i < l.length) (hD : nth D i = -1) (hl : l.length ≤ 1000)
    (hux : (useOf (nth l i).op).1.x = false) (huy : (useOf (nth l i).op).1.y = false) :
    Calls Tryz.prog 159 #[.slice fa l.length fc, .int .i64 (i : Int), .pointer (some ⟨wb, 0, none⟩)] W (FinRPost w wb g c l i W L v D) := by
  have hok : fok (trAt l i) := fok_trAt hw _ i (Nat.lt_succ_self i) hi
  have hrange : trAt l i ∈ (List.range l.length).map (trAt l) := List.mem_map.2 ⟨i, by simpa using hi, rfl⟩
  have ht : trAt l i = .leaf (nth l i).op (nth l i).i (nth l i).e (nth l i).g := trAt_leaf hi hux
  have hnd : ndOf L (trAt l i) = nth l i := by
    rw [ht]
    have hx := hw.x_zero hi hux
    have hy := hw.y_zero hi huy
    have : nth l i = ⟨(nth l i).op, (nth l i).i, (nth l i).e, (nth l i).g, (nth l i).x, (nth l i).y⟩ := rfl
    rw [this, hx, hy]; rfl
  have hkid : ∀ c, kid c (trAt l i) → c ∈ L := fun c h => by rw [ht] at h; exact h.elim
  have hadd : addT (trAt l i) L = put (trAt l i) L := by rw [ht]; rfl
  have c1 := h.cd
  have c2 := h.dn.cell hi
  rw [hD] at c2
  have HUX := Lib.hid hux
  have HUY := Lib.hid huy
  have HOK := Lib.hid hok
  have HRG := Lib.hid hrange
  have HN := Lib.hid hnd
  have HA := Lib.hid hadd
  have HK := Lib.hid hkid
  clear ht
  have hwbW := h.hi
  have hgW := h.gb
  have hlo := h.lo
  have HB0 : Hid (some W.heap.size ≠ v.ownBlock) := fun e => by have := (h.vb _ e.symm).2; omega
  have HR0 := Lib.hid (h.ext' ((Ext.refl W).alloc (.cells #[.int .i64 (nth l i).op, .int .i64 (nth l i).i, .int .i64 (nth l i).e, .int .i64 (nth l i).g, .int .i64 (nth l i).x, .int .i64 (nth l i).y] 73)))
  have HF0 := Lib.hid ((FR.refl wb g v W).ext ((Ext.refl W).alloc (.cells #[.int .i64 (nth l i).op, .int .i64 (nth l i).i, .int .i64 (nth l i).e, .int .i64 (nth l i).g, .int .i64 (nth l i).x, .int .i64 (nth l i).y] 73)))
  have HX0 := Lib.hid (NdAt.new W (nth l i) 73)
  obtain ⟨b, off, rfl, hb, n0, n1, n2, n3, n4, n5⟩ := (hr.ext h.ext).get hi
  have HRN := Lib.hid hr
  clear hr hw h hD hux huy hok hrange hnd hadd hkid
  have hfzx0 : ∀ o, (W.alloc (.cells #[.int .i64 (nth l i).op, .int .i64 (nth l i).i, .int .i64 (nth l i).e, .int .i64 (nth l i).g, .int .i64 (nth l i).x, .int .i64 (nth l i).y] 73)).frozen? ⟨W.heap.size, o, none⟩ = false := fun o => by simp
  have hxlt0 : W.heap.size < (W.alloc (.cells #[.int .i64 (nth l i).op, .int .i64 (nth l i).i, .int .i64 (nth l i).e, .int .i64 (nth l i).g, .int .i64 (nth l i).x, .int .i64 (nth l i).y] 73)).heap.size := by simp
  go_enter Tryz.func159, Tryz.ntmps159
  go_wp2_with fail
  refine (r5X_any _ _).mono ?_
  rintro _ _ ⟨rfl, rfl⟩
  rw [HUX.out]
  dsimp only
  generalize W.alloc (.cells #[.int .i64 (nth l i).op, .int .i64 (nth l i).i, .int .i64 (nth l i).e, .int .i64 (nth l i).g, .int .i64 (nth l i).x, .int .i64 (nth l i).y] 73) = W1 at *
  clear c1 c2 n0 n1 n2 n3 n4 n5
  obtain ⟨x0, x1, x2, x3, x4, x5⟩ := HX0.out
  simp only [Nat.zero_add] at x1 x2 x3 x4 x5
  go_wp2_with fail
  refine (r5Y_any _ _).mono ?_
  rintro _ _ ⟨rfl, rfl⟩
  rw [HUY.out]
  dsimp only
  have c1 := HR0.out.cd
  have hi0 : (0 : Int) ≤ (i : Int) := by omega
  have hi1 : (i : Int) < (l.length : Int) := by omega
  have hgw : wb ≠ g := by omega
  have hgx : W.heap.size ≠ g := by omega
  have hwx : W.heap.size ≠ wb := by omega
  have HRD := Lib.hid (HR0.out.ext' ((Ext.refl W1).drew))
  have HXD := Lib.hid (HX0.out.ext ((Ext.refl W1).drew))
  have HFD := Lib.hid (HF0.out.ext ((Ext.refl W1).drew))
  have hxD : W.heap.size < W1.drew.heap.size := hxlt0
  clear x0 x1 x2 x3 x4 x5
  generalize hcn : ((nth l i) : Nd) = cn at *
  obtain ⟨x0, x1, x2, x3, x4, x5⟩ := HX0.out
  simp only [Nat.zero_add] at x1 x2 x3 x4 x5
  have HC4 : Hid (∀ W4 v4, RS w wb g c l W4 (put (trAt l i) L) v4 D → FR wb g v W1.drew W4 v4 → (W4.cell? ⟨wb, 1, none⟩ = some (.slice (some ⟨g, 0, none⟩) l.length c) ∧ W4.cell? ⟨W.heap.size, 0, none⟩ = some (.int .i64 cn.op) ∧ W4.cell? ⟨W.heap.size, 1, none⟩ = some (.int .i64 cn.i) ∧ W4.cell? ⟨W.heap.size, 2, none⟩ = some (.int .i64 cn.e) ∧ W4.cell? ⟨W.heap.size, 3, none⟩ = some (.int .i64 cn.g) ∧ W4.cell? ⟨W.heap.size, 4, none⟩ = some (.int .i64 cn.x) ∧ W4.cell? ⟨W.heap.size, 5, none⟩ = some (.int .i64 cn.y)) ∧ ∀ u, (W4.setCell ⟨g, i, none⟩ u).cell? ⟨wb, 1, none⟩ = some (.slice (some ⟨g, 0, none⟩) l.length c) ∧ (W4.setCell ⟨g, i, none⟩ u).cell? ⟨W.heap.size, 0, none⟩ = some (.int .i64 cn.op) ∧ (W4.setCell ⟨g, i, none⟩ u).cell? ⟨W.heap.size, 1, none⟩ = some (.int .i64 cn.i) ∧ (W4.setCell ⟨g, i, none⟩ u).cell? ⟨W.heap.size, 2, none⟩ = some (.int .i64 cn.e) ∧ (W4.setCell ⟨g, i, none⟩ u).cell? ⟨W.heap.size, 3, none⟩ = some (.int .i64 cn.g) ∧ (W4.setCell ⟨g, i, none⟩ u).cell? ⟨W.heap.size, 4, none⟩ = some (.int .i64 cn.x) ∧ (W4.setCell ⟨g, i, none⟩ u).cell? ⟨W.heap.size, 5, none⟩ = some (.int .i64 cn.y)) := by
    intro W4 v4 hR hF
    have hx := HXD.out.keep (hF.keep W.heap.size hxD hwx hgx HB0.out)
    obtain ⟨y0, y1, y2, y3, y4, y5⟩ := hx
    simp only [Nat.zero_add] at y1 y2 y3 y4 y5
    refine ⟨⟨hR.cd, y0, y1, y2, y3, y4, y5⟩, fun u => ?_⟩
    refine ⟨?_, ?_, ?_, ?_, ?_, ?_, ?_⟩
    · rw [World.cell?_setCell_other _ _ _ _ (by simp)]; exact hR.cd
    all_goals (rw [World.cell?_setCell_other _ _ _ _ (by simp)]; assumption)
  go_wp2_with fail
  go_region_held3 (fun w' => w'.cell? ⟨wb, 1, none⟩ = some (.slice (some ⟨g, 0, none⟩) l.length c) ∧ w'.cell? ⟨W.heap.size, 0, none⟩ = some (.int .i64 cn.op) ∧ w'.cell? ⟨W.heap.size, 1, none⟩ = some (.int .i64 cn.i) ∧ w'.cell? ⟨W.heap.size, 2, none⟩ = some (.int .i64 cn.e) ∧ w'.cell? ⟨W.heap.size, 3, none⟩ = some (.int .i64 cn.g) ∧ w'.cell? ⟨W.heap.size, 4, none⟩ = some (.int .i64 cn.x) ∧ w'.cell? ⟨W.heap.size, 5, none⟩ = some (.int .i64 cn.y)) (first | go_keep | exact k4 | exact k5 _)
    (first | (go_at_call 177; refine (r5put_any HRD.out hl cn HK.out HOK.out HRG.out HN.out).mono ?_; rintro e W4 ⟨v4, rfl, hR4, hF4⟩; obtain ⟨k4, k5⟩ := HC4.out _ _ hR4 hF4; have c4 := hR4.dn.cell hi; have f4 := hR4.dn.frozen i; have HR4 := Lib.hid hR4; have HF4 := Lib.hid hF4; clear hR4 hF4))
  all_goals
    obtain ⟨z0, -⟩ := k5 (.int .i64 (idx (put (trAt l i) L) (trAt l i) : Int))
    have z1 := World.cell?_setCell_same W4 ⟨g, i, none⟩ (.int .i64 (idx (put (trAt l i) L) (trAt l i) : Int)) c4
    clear k4 k5
    go_wp2
    go_ret
    refine ⟨v4, D.set i (idx (put (trAt l i) L) (trAt l i) : Int), ?_, ?_, ?_⟩
    · rw [HA.out]; rfl
    · rw [HA.out]; exact (HR4.out.mark hi (put_mem _ _)).1
    · exact (HFD.out.trans HF4.out).trans (HR4.out.mark hi (put_mem _ _)).2
set_option maxRecDepth 20000 in
set_option maxHeartbeats 4000000 in
theorem r5finish_un {w : World} {wb g c : Nat} {fa : Option Addr} {fc : Nat} {l : List Nd} {W : World} {L : List Fm} {v : Value} {D : List Int} (hr : RN w fa l) (hw : Wf l) (h : RS w wb g c l W L v D) (i : Nat) (hi : i < l.length) (hD : nth D i = -1) (hl : l.length ≤ 1000)
    (hux : (useOf (nth l i).op).1.x = true) (huy : (useOf (nth l i).op).1.y = false) (ihx : FinR w wb g c fa fc l (nth l i).x.toNat) :
    Calls Tryz.prog 159 #[.slice fa l.length fc, .int .i64 (i : Int), .pointer (some ⟨wb, 0, none⟩)] W (FinRPost w wb g c l i W L v D) := by
  have hok : fok (trAt l i) := fok_trAt hw _ i (Nat.lt_succ_self i) hi
  have hrange : trAt l i ∈ (List.range l.length).map (trAt l) := List.mem_map.2 ⟨i, by simpa using hi, rfl⟩
  obtain ⟨hx0, hxl⟩ := hw.x_lt hi hux
  obtain ⟨kx, hkx⟩ := Int.eq_ofNat_of_zero_le hx0
  have ht := trAt_un hw hi hux huy
  rw [hkx, Int.toNat_natCast] at ht ihx hxl
  have hnd : ndOf (addT (trAt l kx) L) (trAt l i) = { (nth l i) with x := (idx (addT (trAt l kx) L) (trAt l kx) : Int) } := by
    rw [ht]
    have hy := hw.y_zero hi huy
    have : nth l i = ⟨(nth l i).op, (nth l i).i, (nth l i).e, (nth l i).g, (nth l i).x, (nth l i).y⟩ := rfl
    rw [this, hy]; rfl
  have hkid : ∀ c, kid c (trAt l i) → c ∈ addT (trAt l kx) L := fun c h => by rw [ht] at h; rw [show c = trAt l kx from h]; exact addT_mem _ _
  have hadd : addT (trAt l i) L = put (trAt l i) (addT (trAt l kx) L) := by rw [ht]; rfl
  have HKX := Lib.hid hkx
  have Hihx := Lib.hid ihx
  clear hkx hx0 ihx
  have c1 := h.cd
  have c2 := h.dn.cell hi
  rw [hD] at c2
  have HUX := Lib.hid hux
  have HUY := Lib.hid huy
  have HOK := Lib.hid hok
  have HRG := Lib.hid hrange
  have HN := Lib.hid hnd
  have HA := Lib.hid hadd
  have HK := Lib.hid hkid
  clear ht
  have hwbW := h.hi
  have hgW := h.gb
  have hlo := h.lo
  have HB0 : Hid (some W.heap.size ≠ v.ownBlock) := fun e => by have := (h.vb _ e.symm).2; omega
  have HR0 := Lib.hid (h.ext' ((Ext.refl W).alloc (.cells #[.int .i64 (nth l i).op, .int .i64 (nth l i).i, .int .i64 (nth l i).e, .int .i64 (nth l i).g, .int .i64 (nth l i).x, .int .i64 (nth l i).y] 73)))
  have HF0 := Lib.hid ((FR.refl wb g v W).ext ((Ext.refl W).alloc (.cells #[.int .i64 (nth l i).op, .int .i64 (nth l i).i, .int .i64 (nth l i).e, .int .i64 (nth l i).g, .int .i64 (nth l i).x, .int .i64 (nth l i).y] 73)))
  have HX0 := Lib.hid (NdAt.new W (nth l i) 73)
  obtain ⟨b, off, rfl, hb, n0, n1, n2, n3, n4, n5⟩ := (hr.ext h.ext).get hi
  have HRN := Lib.hid hr
  clear hr hw h hD hux huy hok hrange hnd hadd hkid
  have hfzx0 : ∀ o, (W.alloc (.cells #[.int .i64 (nth l i).op, .int .i64 (nth l i).i, .int .i64 (nth l i).e, .int .i64 (nth l i).g, .int .i64 (nth l i).x, .int .i64 (nth l i).y] 73)).frozen? ⟨W.heap.size, o, none⟩ = false := fun o => by simp
  have hxlt0 : W.heap.size < (W.alloc (.cells #[.int .i64 (nth l i).op, .int .i64 (nth l i).i, .int .i64 (nth l i).e, .int .i64 (nth l i).g, .int .i64 (nth l i).x, .int .i64 (nth l i).y] 73)).heap.size := by simp
  go_enter Tryz.func159, Tryz.ntmps159
  go_wp2_with fail
  refine (r5X_any _ _).mono ?_
  rintro _ _ ⟨rfl, rfl⟩
  rw [HUX.out]
  dsimp only
  generalize W.alloc (.cells #[.int .i64 (nth l i).op, .int .i64 (nth l i).i, .int .i64 (nth l i).e, .int .i64 (nth l i).g, .int .i64 (nth l i).x, .int .i64 (nth l i).y] 73) = W1 at *
  clear c1 c2 n0 n1 n2 n3 n4 n5
  obtain ⟨x0, x1, x2, x3, x4, x5⟩ := HX0.out
  simp only [Nat.zero_add] at x1 x2 x3 x4 x5
  obtain ⟨b', off', hbe, hb', n0, n1, n2, n3, n4, n5⟩ := (HRN.out.ext HR0.out.ext).get hi
  simp only [Option.some.injEq, Addr.mk.injEq] at hbe
  obtain ⟨rfl, rfl, -⟩ := hbe
  rw [HKX.out] at n4
  go_wp2_with fail
  refine (Hihx.out _ _ _ _ HR0.out).mono ?_
  rintro e W2 ⟨v1, D1, rfl, hR, hF⟩
  dsimp only
  have HRa := Lib.hid hR
  have HFa := Lib.hid hF
  have hkx := hF.keep W.heap.size hxlt0 (by omega) (by omega) HB0.out
  have HB1 : Hid (some W.heap.size ≠ v1.ownBlock) := hF.xb hxlt0 HB0.out
  have hxa := HX0.out.keep hkx
  have hfa : ∀ o, W2.frozen? ⟨W.heap.size, o, none⟩ = false := fun o => by
    rw [World.frozen?_of_block hkx]; exact hfzx0 o
  have hxlta : W.heap.size < W2.heap.size := by have := hF.size; omega
  have HXa := Lib.hid hxa
  clear hR hF x0 x1 x2 x3 x4 x5 n0 n1 n2 n3 n4 n5 hkx hfzx0
  obtain ⟨x0, x1, x2, x3, x4, x5⟩ := hxa
  simp only [Nat.zero_add] at x1 x2 x3 x4 x5
  go_wp2_with fail
  refine (r5Y_any _ _).mono ?_
  rintro _ _ ⟨rfl, rfl⟩
  rw [HUY.out]
  dsimp only
  have HR1 : Hid (RS w wb g c l (W2.setCell ⟨W.heap.size, 4, none⟩ (.int .i64 (idx (addT (trAt l kx) L) (trAt l kx) : Int))) (addT (trAt l kx) L) v1 D1) := HRa.out.setBox (by omega) (by omega) (by omega) HB1.out _ _
  have HF1 : Hid (FR wb g v W (W2.setCell ⟨W.heap.size, 4, none⟩ (.int .i64 (idx (addT (trAt l kx) L) (trAt l kx) : Int))) v1) := (HF0.out.trans HFa.out).setNew (Nat.le_refl _) _ _
  have HX1 : Hid (NdAt (W2.setCell ⟨W.heap.size, 4, none⟩ (.int .i64 (idx (addT (trAt l kx) L) (trAt l kx) : Int))) W.heap.size 0 { (nth l i) with x := (idx (addT (trAt l kx) L) (trAt l kx) : Int) }) := HXa.out.setX _
  have hfzx1 : ∀ o, (W2.setCell ⟨W.heap.size, 4, none⟩ (.int .i64 (idx (addT (trAt l kx) L) (trAt l kx) : Int))).frozen? ⟨W.heap.size, o, none⟩ = false := fun o => by rw [World.frozen?_setCell]; exact hfa o
  have hxlt1 : W.heap.size < (W2.setCell ⟨W.heap.size, 4, none⟩ (.int .i64 (idx (addT (trAt l kx) L) (trAt l kx) : Int))).heap.size := by simpa [World.setCell] using hxlta
  generalize (W2.setCell ⟨W.heap.size, 4, none⟩ (.int .i64 (idx (addT (trAt l kx) L) (trAt l kx) : Int))) = V1 at *
  clear x0 x1 x2 x3 x4 x5 HRa HFa HXa hfa hxlta
  obtain ⟨x0, x1, x2, x3, x4, x5⟩ := HX1.out
  simp only [Nat.zero_add] at x1 x2 x3 x4 x5
  have c1 := HR1.out.cd
  have hi0 : (0 : Int) ≤ (i : Int) := by omega
  have hi1 : (i : Int) < (l.length : Int) := by omega
  have hgw : wb ≠ g := by omega
  have hgx : W.heap.size ≠ g := by omega
  have hwx : W.heap.size ≠ wb := by omega
  have HRD := Lib.hid (HR1.out.ext' ((Ext.refl V1).drew))
  have HXD := Lib.hid (HX1.out.ext ((Ext.refl V1).drew))
  have HFD := Lib.hid (HF1.out.ext ((Ext.refl V1).drew))
  have hxD : W.heap.size < V1.drew.heap.size := hxlt1
  clear x0 x1 x2 x3 x4 x5
  generalize hcn : ({ (nth l i) with x := (idx (addT (trAt l kx) L) (trAt l kx) : Int) } : Nd) = cn at *
  obtain ⟨x0, x1, x2, x3, x4, x5⟩ := HX1.out
  simp only [Nat.zero_add] at x1 x2 x3 x4 x5
  have HC4 : Hid (∀ W4 v4, RS w wb g c l W4 (put (trAt l i) (addT (trAt l kx) L)) v4 D1 → FR wb g v1 V1.drew W4 v4 → (W4.cell? ⟨wb, 1, none⟩ = some (.slice (some ⟨g, 0, none⟩) l.length c) ∧ W4.cell? ⟨W.heap.size, 0, none⟩ = some (.int .i64 cn.op) ∧ W4.cell? ⟨W.heap.size, 1, none⟩ = some (.int .i64 cn.i) ∧ W4.cell? ⟨W.heap.size, 2, none⟩ = some (.int .i64 cn.e) ∧ W4.cell? ⟨W.heap.size, 3, none⟩ = some (.int .i64 cn.g) ∧ W4.cell? ⟨W.heap.size, 4, none⟩ = some (.int .i64 cn.x) ∧ W4.cell? ⟨W.heap.size, 5, none⟩ = some (.int .i64 cn.y)) ∧ ∀ u, (W4.setCell ⟨g, i, none⟩ u).cell? ⟨wb, 1, none⟩ = some (.slice (some ⟨g, 0, none⟩) l.length c) ∧ (W4.setCell ⟨g, i, none⟩ u).cell? ⟨W.heap.size, 0, none⟩ = some (.int .i64 cn.op) ∧ (W4.setCell ⟨g, i, none⟩ u).cell? ⟨W.heap.size, 1, none⟩ = some (.int .i64 cn.i) ∧ (W4.setCell ⟨g, i, none⟩ u).cell? ⟨W.heap.size, 2, none⟩ = some (.int .i64 cn.e) ∧ (W4.setCell ⟨g, i, none⟩ u).cell? ⟨W.heap.size, 3, none⟩ = some (.int .i64 cn.g) ∧ (W4.setCell ⟨g, i, none⟩ u).cell? ⟨W.heap.size, 4, none⟩ = some (.int .i64 cn.x) ∧ (W4.setCell ⟨g, i, none⟩ u).cell? ⟨W.heap.size, 5, none⟩ = some (.int .i64 cn.y)) := by
    intro W4 v4 hR hF
    have hx := HXD.out.keep (hF.keep W.heap.size hxD hwx hgx HB1.out)
    obtain ⟨y0, y1, y2, y3, y4, y5⟩ := hx
    simp only [Nat.zero_add] at y1 y2 y3 y4 y5
    refine ⟨⟨hR.cd, y0, y1, y2, y3, y4, y5⟩, fun u => ?_⟩
    refine ⟨?_, ?_, ?_, ?_, ?_, ?_, ?_⟩
    · rw [World.cell?_setCell_other _ _ _ _ (by simp)]; exact hR.cd
    all_goals (rw [World.cell?_setCell_other _ _ _ _ (by simp)]; assumption)
  go_wp2_with fail
  go_region_held3 (fun w' => w'.cell? ⟨wb, 1, none⟩ = some (.slice (some ⟨g, 0, none⟩) l.length c) ∧ w'.cell? ⟨W.heap.size, 0, none⟩ = some (.int .i64 cn.op) ∧ w'.cell? ⟨W.heap.size, 1, none⟩ = some (.int .i64 cn.i) ∧ w'.cell? ⟨W.heap.size, 2, none⟩ = some (.int .i64 cn.e) ∧ w'.cell? ⟨W.heap.size, 3, none⟩ = some (.int .i64 cn.g) ∧ w'.cell? ⟨W.heap.size, 4, none⟩ = some (.int .i64 cn.x) ∧ w'.cell? ⟨W.heap.size, 5, none⟩ = some (.int .i64 cn.y)) (first | go_keep | exact k4 | exact k5 _)
    (first | (go_at_call 177; refine (r5put_any HRD.out hl cn HK.out HOK.out HRG.out HN.out).mono ?_; rintro e W4 ⟨v4, rfl, hR4, hF4⟩; obtain ⟨k4, k5⟩ := HC4.out _ _ hR4 hF4; have c4 := hR4.dn.cell hi; have f4 := hR4.dn.frozen i; have HR4 := Lib.hid hR4; have HF4 := Lib.hid hF4; clear hR4 hF4))
  all_goals
    obtain ⟨z0, -⟩ := k5 (.int .i64 (idx (put (trAt l i) (addT (trAt l kx) L)) (trAt l i) : Int))
    have z1 := World.cell?_setCell_same W4 ⟨g, i, none⟩ (.int .i64 (idx (put (trAt l i) (addT (trAt l kx) L)) (trAt l i) : Int)) c4
    clear k4 k5
    go_wp2
    go_ret
    refine ⟨v4, D1.set i (idx (put (trAt l i) (addT (trAt l kx) L)) (trAt l i) : Int), ?_, ?_, ?_⟩
    · rw [HA.out]; rfl
    · rw [HA.out]; exact (HR4.out.mark hi (put_mem _ _)).1
    · exact (HFD.out.trans HF4.out).trans (HR4.out.mark hi (put_mem _ _)).2
set_option maxRecDepth 20000 in
set_option maxHeartbeats 4000000 in
theorem r5finish_bin {w : World} {wb g c : Nat} {fa : Option Addr} {fc : Nat} {l : List Nd} {W : World} {L : List Fm} {v : Value} {D : List Int} (hr : RN w fa l) (hw : Wf l) (h : RS w wb g c l W L v D) (i : Nat) (hi : i < l.length) (hD : nth D i = -1) (hl : l.length ≤ 1000)
    (hux : (useOf (nth l i).op).1.x = true) (huy : (useOf (nth l i).op).1.y = true) (ihx : FinR w wb g c fa fc l (nth l i).x.toNat) (ihy : FinR w wb g c fa fc l (nth l i).y.toNat) :
    Calls Tryz.prog 159 #[.slice fa l.length fc, .int .i64 (i : Int), .pointer (some ⟨wb, 0, none⟩)] W (FinRPost w wb g c l i W L v D) := by
  have hok : fok (trAt l i) := fok_trAt hw _ i (Nat.lt_succ_self i) hi
  have hrange : trAt l i ∈ (List.range l.length).map (trAt l) := List.mem_map.2 ⟨i, by simpa using hi, rfl⟩
  obtain ⟨hx0, hxl⟩ := hw.x_lt hi hux
  obtain ⟨kx, hkx⟩ := Int.eq_ofNat_of_zero_le hx0
  obtain ⟨hy0, hyl⟩ := hw.y_lt hi huy
  obtain ⟨ky, hky⟩ := Int.eq_ofNat_of_zero_le hy0
  have ht := trAt_bin hw hi huy
  rw [hkx, hky, Int.toNat_natCast, Int.toNat_natCast] at ht
  rw [hkx, Int.toNat_natCast] at ihx hxl
  rw [hky, Int.toNat_natCast] at ihy hyl
  have hnd : ndOf (addT (trAt l ky) (addT (trAt l kx) L)) (trAt l i) = { (nth l i) with x := (idx (addT (trAt l kx) L) (trAt l kx) : Int), y := (idx (addT (trAt l ky) (addT (trAt l kx) L)) (trAt l ky) : Int) } := by
    rw [ht]
    have e1 : idx (addT (trAt l ky) (addT (trAt l kx) L)) (trAt l kx) = idx (addT (trAt l kx) L) (trAt l kx) := by
      obtain ⟨M, hM⟩ := addT_pre (trAt l ky) (addT (trAt l kx) L)
      rw [hM, idx_append (addT_mem _ _)]
    show (⟨_, _, _, _, (idx _ (trAt l kx) : Int), _⟩ : Nd) = _
    rw [e1]
  have hkid : ∀ c, kid c (trAt l i) → c ∈ addT (trAt l ky) (addT (trAt l kx) L) := fun c h => by
    rw [ht] at h
    rcases (show c = trAt l kx ∨ c = trAt l ky from h) with rfl | rfl
    · exact addT_sub (addT_mem _ _)
    · exact addT_mem _ _
  have hadd : addT (trAt l i) L = put (trAt l i) (addT (trAt l ky) (addT (trAt l kx) L)) := by rw [ht]; rfl
  have HKY := Lib.hid hky
  have Hihy := Lib.hid ihy
  clear hky hy0 ihy
  have HKX := Lib.hid hkx
  have Hihx := Lib.hid ihx
  clear hkx hx0 ihx
  have c1 := h.cd
  have c2 := h.dn.cell hi
  rw [hD] at c2
  have HUX := Lib.hid hux
  have HUY := Lib.hid huy
  have HOK := Lib.hid hok
  have HRG := Lib.hid hrange
  have HN := Lib.hid hnd
  have HA := Lib.hid hadd
  have HK := Lib.hid hkid
  clear ht
  have hwbW := h.hi
  have hgW := h.gb
  have hlo := h.lo
  have HB0 : Hid (some W.heap.size ≠ v.ownBlock) := fun e => by have := (h.vb _ e.symm).2; omega
  have HR0 := Lib.hid (h.ext' ((Ext.refl W).alloc (.cells #[.int .i64 (nth l i).op, .int .i64 (nth l i).i, .int .i64 (nth l i).e, .int .i64 (nth l i).g, .int .i64 (nth l i).x, .int .i64 (nth l i).y] 73)))
  have HF0 := Lib.hid ((FR.refl wb g v W).ext ((Ext.refl W).alloc (.cells #[.int .i64 (nth l i).op, .int .i64 (nth l i).i, .int .i64 (nth l i).e, .int .i64 (nth l i).g, .int .i64 (nth l i).x, .int .i64 (nth l i).y] 73)))
  have HX0 := Lib.hid (NdAt.new W (nth l i) 73)
  obtain ⟨b, off, rfl, hb, n0, n1, n2, n3, n4, n5⟩ := (hr.ext h.ext).get hi
  have HRN := Lib.hid hr
  clear hr hw h hD hux huy hok hrange hnd hadd hkid
  have hfzx0 : ∀ o, (W.alloc (.cells #[.int .i64 (nth l i).op, .int .i64 (nth l i).i, .int .i64 (nth l i).e, .int .i64 (nth l i).g, .int .i64 (nth l i).x, .int .i64 (nth l i).y] 73)).frozen? ⟨W.heap.size, o, none⟩ = false := fun o => by simp
  have hxlt0 : W.heap.size < (W.alloc (.cells #[.int .i64 (nth l i).op, .int .i64 (nth l i).i, .int .i64 (nth l i).e, .int .i64 (nth l i).g, .int .i64 (nth l i).x, .int .i64 (nth l i).y] 73)).heap.size := by simp
  go_enter Tryz.func159, Tryz.ntmps159
  go_wp2_with fail
  refine (r5X_any _ _).mono ?_
  rintro _ _ ⟨rfl, rfl⟩
  rw [HUX.out]
  dsimp only
  generalize W.alloc (.cells #[.int .i64 (nth l i).op, .int .i64 (nth l i).i, .int .i64 (nth l i).e, .int .i64 (nth l i).g, .int .i64 (nth l i).x, .int .i64 (nth l i).y] 73) = W1 at *
  clear c1 c2 n0 n1 n2 n3 n4 n5
  obtain ⟨x0, x1, x2, x3, x4, x5⟩ := HX0.out
  simp only [Nat.zero_add] at x1 x2 x3 x4 x5
  obtain ⟨b', off', hbe, hb', n0, n1, n2, n3, n4, n5⟩ := (HRN.out.ext HR0.out.ext).get hi
  simp only [Option.some.injEq, Addr.mk.injEq] at hbe
  obtain ⟨rfl, rfl, -⟩ := hbe
  rw [HKX.out] at n4
  go_wp2_with fail
  refine (Hihx.out _ _ _ _ HR0.out).mono ?_
  rintro e W2 ⟨v1, D1, rfl, hR, hF⟩
  dsimp only
  have HRa := Lib.hid hR
  have HFa := Lib.hid hF
  have hkx := hF.keep W.heap.size hxlt0 (by omega) (by omega) HB0.out
  have HB1 : Hid (some W.heap.size ≠ v1.ownBlock) := hF.xb hxlt0 HB0.out
  have hxa := HX0.out.keep hkx
  have hfa : ∀ o, W2.frozen? ⟨W.heap.size, o, none⟩ = false := fun o => by
    rw [World.frozen?_of_block hkx]; exact hfzx0 o
  have hxlta : W.heap.size < W2.heap.size := by have := hF.size; omega
  have HXa := Lib.hid hxa
  clear hR hF x0 x1 x2 x3 x4 x5 n0 n1 n2 n3 n4 n5 hkx hfzx0
  obtain ⟨x0, x1, x2, x3, x4, x5⟩ := hxa
  simp only [Nat.zero_add] at x1 x2 x3 x4 x5
  go_wp2_with fail
  refine (r5Y_any _ _).mono ?_
  rintro _ _ ⟨rfl, rfl⟩
  rw [HUY.out]
  dsimp only
  have HR1 : Hid (RS w wb g c l (W2.setCell ⟨W.heap.size, 4, none⟩ (.int .i64 (idx (addT (trAt l kx) L) (trAt l kx) : Int))) (addT (trAt l kx) L) v1 D1) := HRa.out.setBox (by omega) (by omega) (by omega) HB1.out _ _
  have HF1 : Hid (FR wb g v W (W2.setCell ⟨W.heap.size, 4, none⟩ (.int .i64 (idx (addT (trAt l kx) L) (trAt l kx) : Int))) v1) := (HF0.out.trans HFa.out).setNew (Nat.le_refl _) _ _
  have HX1 : Hid (NdAt (W2.setCell ⟨W.heap.size, 4, none⟩ (.int .i64 (idx (addT (trAt l kx) L) (trAt l kx) : Int))) W.heap.size 0 { (nth l i) with x := (idx (addT (trAt l kx) L) (trAt l kx) : Int) }) := HXa.out.setX _
  have hfzx1 : ∀ o, (W2.setCell ⟨W.heap.size, 4, none⟩ (.int .i64 (idx (addT (trAt l kx) L) (trAt l kx) : Int))).frozen? ⟨W.heap.size, o, none⟩ = false := fun o => by rw [World.frozen?_setCell]; exact hfa o
  have hxlt1 : W.heap.size < (W2.setCell ⟨W.heap.size, 4, none⟩ (.int .i64 (idx (addT (trAt l kx) L) (trAt l kx) : Int))).heap.size := by simpa [World.setCell] using hxlta
  generalize (W2.setCell ⟨W.heap.size, 4, none⟩ (.int .i64 (idx (addT (trAt l kx) L) (trAt l kx) : Int))) = V1 at *
  clear x0 x1 x2 x3 x4 x5 HRa HFa HXa hfa hxlta
  obtain ⟨x0, x1, x2, x3, x4, x5⟩ := HX1.out
  simp only [Nat.zero_add] at x1 x2 x3 x4 x5
  obtain ⟨b', off', hbe, hb', n0, n1, n2, n3, n4, n5⟩ := (HRN.out.ext HR1.out.ext).get hi
  simp only [Option.some.injEq, Addr.mk.injEq] at hbe
  obtain ⟨rfl, rfl, -⟩ := hbe
  rw [HKY.out] at n5
  go_wp2_with fail
  refine (Hihy.out _ _ _ _ HR1.out).mono ?_
  rintro e W3 ⟨v2, D2, rfl, hR, hF⟩
  dsimp only
  have HRa := Lib.hid hR
  have HFa := Lib.hid hF
  have hkx := hF.keep W.heap.size hxlt1 (by omega) (by omega) HB1.out
  have HB2 : Hid (some W.heap.size ≠ v2.ownBlock) := hF.xb hxlt1 HB1.out
  have hxa := HX1.out.keep hkx
  have hfa : ∀ o, W3.frozen? ⟨W.heap.size, o, none⟩ = false := fun o => by
    rw [World.frozen?_of_block hkx]; exact hfzx1 o
  have hxlta : W.heap.size < W3.heap.size := by have := hF.size; omega
  have HXa := Lib.hid hxa
  clear hR hF x0 x1 x2 x3 x4 x5 n0 n1 n2 n3 n4 n5 hkx hfzx1
  obtain ⟨x0, x1, x2, x3, x4, x5⟩ := hxa
  simp only [Nat.zero_add] at x1 x2 x3 x4 x5
  go_wp2_with fail
  have HR2 : Hid (RS w wb g c l (W3.setCell ⟨W.heap.size, 5, none⟩ (.int .i64 (idx (addT (trAt l ky) (addT (trAt l kx) L)) (trAt l ky) : Int))) (addT (trAt l ky) (addT (trAt l kx) L)) v2 D2) := HRa.out.setBox (by omega) (by omega) (by omega) HB2.out _ _
  have HF2 : Hid (FR wb g v W (W3.setCell ⟨W.heap.size, 5, none⟩ (.int .i64 (idx (addT (trAt l ky) (addT (trAt l kx) L)) (trAt l ky) : Int))) v2) := (HF1.out.trans HFa.out).setNew (Nat.le_refl _) _ _
  have HX2 : Hid (NdAt (W3.setCell ⟨W.heap.size, 5, none⟩ (.int .i64 (idx (addT (trAt l ky) (addT (trAt l kx) L)) (trAt l ky) : Int))) W.heap.size 0 { (nth l i) with x := (idx (addT (trAt l kx) L) (trAt l kx) : Int), y := (idx (addT (trAt l ky) (addT (trAt l kx) L)) (trAt l ky) : Int) }) := HXa.out.setY _
  have hfzx2 : ∀ o, (W3.setCell ⟨W.heap.size, 5, none⟩ (.int .i64 (idx (addT (trAt l ky) (addT (trAt l kx) L)) (trAt l ky) : Int))).frozen? ⟨W.heap.size, o, none⟩ = false := fun o => by rw [World.frozen?_setCell]; exact hfa o
  have hxlt2 : W.heap.size < (W3.setCell ⟨W.heap.size, 5, none⟩ (.int .i64 (idx (addT (trAt l ky) (addT (trAt l kx) L)) (trAt l ky) : Int))).heap.size := by simpa [World.setCell] using hxlta
  generalize (W3.setCell ⟨W.heap.size, 5, none⟩ (.int .i64 (idx (addT (trAt l ky) (addT (trAt l kx) L)) (trAt l ky) : Int))) = V2 at *
  clear x0 x1 x2 x3 x4 x5 HRa HFa HXa hfa hxlta
  obtain ⟨x0, x1, x2, x3, x4, x5⟩ := HX2.out
  simp only [Nat.zero_add] at x1 x2 x3 x4 x5
  have c1 := HR2.out.cd
  have hi0 : (0 : Int) ≤ (i : Int) := by omega
  have hi1 : (i : Int) < (l.length : Int) := by omega
  have hgw : wb ≠ g := by omega
  have hgx : W.heap.size ≠ g := by omega
  have hwx : W.heap.size ≠ wb := by omega
  have HRD := Lib.hid (HR2.out.ext' ((Ext.refl V2).drew))
  have HXD := Lib.hid (HX2.out.ext ((Ext.refl V2).drew))
  have HFD := Lib.hid (HF2.out.ext ((Ext.refl V2).drew))
  have hxD : W.heap.size < V2.drew.heap.size := hxlt2
  clear x0 x1 x2 x3 x4 x5
  generalize hcn : ({ (nth l i) with x := (idx (addT (trAt l kx) L) (trAt l kx) : Int), y := (idx (addT (trAt l ky) (addT (trAt l kx) L)) (trAt l ky) : Int) } : Nd) = cn at *
  obtain ⟨x0, x1, x2, x3, x4, x5⟩ := HX2.out
  simp only [Nat.zero_add] at x1 x2 x3 x4 x5
  have HC4 : Hid (∀ W4 v4, RS w wb g c l W4 (put (trAt l i) (addT (trAt l ky) (addT (trAt l kx) L))) v4 D2 → FR wb g v2 V2.drew W4 v4 → (W4.cell? ⟨wb, 1, none⟩ = some (.slice (some ⟨g, 0, none⟩) l.length c) ∧ W4.cell? ⟨W.heap.size, 0, none⟩ = some (.int .i64 cn.op) ∧ W4.cell? ⟨W.heap.size, 1, none⟩ = some (.int .i64 cn.i) ∧ W4.cell? ⟨W.heap.size, 2, none⟩ = some (.int .i64 cn.e) ∧ W4.cell? ⟨W.heap.size, 3, none⟩ = some (.int .i64 cn.g) ∧ W4.cell? ⟨W.heap.size, 4, none⟩ = some (.int .i64 cn.x) ∧ W4.cell? ⟨W.heap.size, 5, none⟩ = some (.int .i64 cn.y)) ∧ ∀ u, (W4.setCell ⟨g, i, none⟩ u).cell? ⟨wb, 1, none⟩ = some (.slice (some ⟨g, 0, none⟩) l.length c) ∧ (W4.setCell ⟨g, i, none⟩ u).cell? ⟨W.heap.size, 0, none⟩ = some (.int .i64 cn.op) ∧ (W4.setCell ⟨g, i, none⟩ u).cell? ⟨W.heap.size, 1, none⟩ = some (.int .i64 cn.i) ∧ (W4.setCell ⟨g, i, none⟩ u).cell? ⟨W.heap.size, 2, none⟩ = some (.int .i64 cn.e) ∧ (W4.setCell ⟨g, i, none⟩ u).cell? ⟨W.heap.size, 3, none⟩ = some (.int .i64 cn.g) ∧ (W4.setCell ⟨g, i, none⟩ u).cell? ⟨W.heap.size, 4, none⟩ = some (.int .i64 cn.x) ∧ (W4.setCell ⟨g, i, none⟩ u).cell? ⟨W.heap.size, 5, none⟩ = some (.int .i64 cn.y)) := by
    intro W4 v4 hR hF
    have hx := HXD.out.keep (hF.keep W.heap.size hxD hwx hgx HB2.out)
    obtain ⟨y0, y1, y2, y3, y4, y5⟩ := hx
    simp only [Nat.zero_add] at y1 y2 y3 y4 y5
    refine ⟨⟨hR.cd, y0, y1, y2, y3, y4, y5⟩, fun u => ?_⟩
    refine ⟨?_, ?_, ?_, ?_, ?_, ?_, ?_⟩
    · rw [World.cell?_setCell_other _ _ _ _ (by simp)]; exact hR.cd
    all_goals (rw [World.cell?_setCell_other _ _ _ _ (by simp)]; assumption)
  go_wp2_with fail
  go_region_held3 (fun w' => w'.cell? ⟨wb, 1, none⟩ = some (.slice (some ⟨g, 0, none⟩) l.length c) ∧ w'.cell? ⟨W.heap.size, 0, none⟩ = some (.int .i64 cn.op) ∧ w'.cell? ⟨W.heap.size, 1, none⟩ = some (.int .i64 cn.i) ∧ w'.cell? ⟨W.heap.size, 2, none⟩ = some (.int .i64 cn.e) ∧ w'.cell? ⟨W.heap.size, 3, none⟩ = some (.int .i64 cn.g) ∧ w'.cell? ⟨W.heap.size, 4, none⟩ = some (.int .i64 cn.x) ∧ w'.cell? ⟨W.heap.size, 5, none⟩ = some (.int .i64 cn.y)) (first | go_keep | exact k4 | exact k5 _)
    (first | (go_at_call 177; refine (r5put_any HRD.out hl cn HK.out HOK.out HRG.out HN.out).mono ?_; rintro e W4 ⟨v4, rfl, hR4, hF4⟩; obtain ⟨k4, k5⟩ := HC4.out _ _ hR4 hF4; have c4 := hR4.dn.cell hi; have f4 := hR4.dn.frozen i; have HR4 := Lib.hid hR4; have HF4 := Lib.hid hF4; clear hR4 hF4))
  all_goals
    obtain ⟨z0, -⟩ := k5 (.int .i64 (idx (put (trAt l i) (addT (trAt l ky) (addT (trAt l kx) L))) (trAt l i) : Int))
    have z1 := World.cell?_setCell_same W4 ⟨g, i, none⟩ (.int .i64 (idx (put (trAt l i) (addT (trAt l ky) (addT (trAt l kx) L))) (trAt l i) : Int)) c4
    clear k4 k5
    go_wp2
    go_ret
    refine ⟨v4, D2.set i (idx (put (trAt l i) (addT (trAt l ky) (addT (trAt l kx) L))) (trAt l i) : Int), ?_, ?_, ?_⟩
    · rw [HA.out]; rfl
    · rw [HA.out]; exact (HR4.out.mark hi (put_mem _ _)).1
    · exact (HFD.out.trans HF4.out).trans (HR4.out.mark hi (put_mem _ _)).2
theorem r5finish_any {w : World} {wb g c : Nat} {fa : Option Addr} {fc : Nat} {l : List Nd} (hr : RN w fa l) (hw : Wf l) (hl : l.length ≤ 1000) : ∀ n i, i < n → i < l.length → FinR w wb g c fa fc l i
  | 0, _, h, _ => absurd h (Nat.not_lt_zero _)
  | n + 1, i, hn, hi => by
    intro W L v D hc
    by_cases hD : nth D i = -1
    · cases hx : (useOf (nth l i).op).1.x
      · have hy : (useOf (nth l i).op).1.y = false := by
          cases hy : (useOf (nth l i).op).1.y
          · rfl
          · have := useOf_yx (nth l i).op hy
            rw [hx] at this; cases this
        exact r5finish_leaf hr hw hc i hi hD hl hx hy
      · have hxl := (hw.x_lt hi hx).2
        cases hy : (useOf (nth l i).op).1.y
        · exact r5finish_un hr hw hc i hi hD hl hx hy (r5finish_any hr hw hl n _ (by omega) (by omega))
        · have hyl := (hw.y_lt hi hy).2
          exact r5finish_bin hr hw hc i hi hD hl hx hy (r5finish_any hr hw hl n _ (by omega) (by omega)) (r5finish_any hr hw hl n _ (by omega) (by omega))
    · exact r5finish_done hc i hi hD hl
end Wt
