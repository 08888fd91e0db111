/- formula.build: what its lists are; the state of its rounds. -/
import Derived.Test.YtbeaagnahldefaaDoorM8Aj
import Derived.Test.YtbeaagnahldefaaDoorM8Ag
import Derived.Test.YtbeaagnahldefaaDoorM8Ai
namespace Wt
open Go Go.RowKit Go.Maps Go.Proofs Fm

theorem news_of (W : World) (n : Nd) (T : Nat) : ∀ j u, (ndCells n)[j]? = some u → (W.alloc (.cells #[.int .i64 n.op, .int .i64 n.i, .int .i64 n.e, .int .i64 n.g, .int .i64 n.x, .int .i64 n.y] T)).cell? ((⟨W.heap.size, 0, none⟩ : Addr).add j) = some u := by
  intro j u hj
  have hjl : j < 6 := by have := (List.getElem?_eq_some_iff.1 hj).1; simpa [ndCells] using this
  rw [← hj]
  rcases (show j = 0 ∨ j = 1 ∨ j = 2 ∨ j = 3 ∨ j = 4 ∨ j = 5 by omega) with rfl | rfl | rfl | rfl | rfl | rfl <;> simp [Addr.add, ndCells]
/-- A list of lists of nodes, in memory. -/
structure RNN (w : World) (a : Option Addr) (L : List (List Nd)) : Prop where
  len : L.length ≤ 140737488355328
  get : ∀ k, k < L.length → ∃ b off a' c', a = some ⟨b, off, none⟩ ∧ b < w.heap.size ∧ w.cell? ⟨b, off + k, none⟩ = some (.slice a' (nth L k).length c') ∧ RN w a' (nth L k)
theorem RNN.ext {w w' : World} {a : Option Addr} {L : List (List Nd)} (h : RNN w a L) (e : Ext w w') : RNN w' a L :=
  ⟨h.len, fun k hk => by
    obtain ⟨b, off, a', c', h1, h2, h3, h4⟩ := h.get k hk
    exact ⟨b, off, a', c', h1, Nat.lt_of_lt_of_le h2 e.size, e.cell h3, h4.ext e⟩⟩
theorem RNN.nil (w : World) (a : Option Addr) : RNN w a [] := ⟨by simp, fun _ hk => absurd hk (by simp)⟩
/-- A node behind s others. -/
def shN (s : Nat) (n : Nd) : Nd := ⟨n.op, n.i, n.e, n.g, if (useOf n.op).1.x then n.x + s else n.x, if (useOf n.op).1.y then n.y + s else n.y⟩
def bF (os : List (List Nd)) : Nat → List Nd
  | 0 => []
  | k + 1 => bF os k ++ (fCompact (nth os k)).map (shN (bF os k).length)
def bX (x : Nd) (os : List (List Nd)) : Nat → Nd
  | 0 => x
  | k + 1 => if k = 0 then { bX x os k with x := ((bF os (k + 1)).length : Int) - 1 } else { bX x os k with y := ((bF os (k + 1)).length : Int) - 1 }
def bT (x : Nd) (os : List (List Nd)) : Fm := trAt (bF os os.length ++ [bX x os os.length]) (bF os os.length).length
/-- The formula of a node and of its operands. -/
def fB (x : Nd) (os : List (List Nd)) : List Nd :=
  if (os.any fun o => fCheck o != 0) || nodeErr (bX x os os.length) (bF os os.length).length != 0 || decide (200 < fsize (bT x os)) then [] else canon (bT x os)
theorem bF_len (os : List (List Nd)) : ∀ k, (bF os k).length ≤ 200 * k
  | 0 => by simp [bF]
  | k + 1 => by
    have := bF_len os k
    have := (fCompact_ok (nth os k)).2
    simp [bF]; omega
theorem shN_err {n : Nd} {a : Int} (s : Nat) (h : nodeErr n a = 0) : nodeErr (shN s n) (a + s) = 0 := by
  obtain ⟨h1, h2, h3, h4, h5⟩ := nodeErr_ok h
  refine nodeErr_zero (n := shN s n) h1 ?_ ?_ h4 h5
  · show opnd (useOf n.op).1.x (if (useOf n.op).1.x then n.x + s else n.x) (a + s) = true
    cases hx : (useOf n.op).1.x
    · rw [hx] at h2; simpa [opnd] using h2
    · rw [hx] at h2; simp [opnd] at h2 ⊢; omega
  · show opnd (useOf n.op).1.y (if (useOf n.op).1.y then n.y + s else n.y) (a + s) = true
    cases hy : (useOf n.op).1.y
    · rw [hy] at h3; simpa [opnd] using h3
    · rw [hy] at h3; simp [opnd] at h3 ⊢; omega
theorem nth_appL {α : Type} [Inhabited α] (l m : List α) {k : Nat} (h : k < l.length) : nth (l ++ m) k = nth l k := by
  rw [nth_eq _ _ (by simp; omega), nth_eq _ _ h, List.getElem_append_left h]
theorem nth_appR {α : Type} [Inhabited α] (l m : List α) {k : Nat} (h : k < m.length) : nth (l ++ m) (l.length + k) = nth m k := by
  rw [nth_eq _ _ (by simp; omega), nth_eq _ _ h, List.getElem_append_right (by omega)]
  simp
theorem Wf.appSh {F C : List Nd} (hF : Wf F) (hC : Wf C) : Wf (F ++ C.map (shN F.length)) := by
  intro k hk
  rcases Nat.lt_or_ge k F.length with h | h
  · rw [nth_appL _ _ h]; exact hF k h
  · obtain ⟨j, rfl⟩ : ∃ j, k = F.length + j := ⟨k - F.length, by omega⟩
    have hj : j < C.length := by simp at hk; omega
    rw [nth_appR _ _ (by simpa using hj)]
    have e : nth (C.map (shN F.length)) j = shN F.length (nth C j) := by
      rw [nth_eq _ _ (by simpa using hj), nth_eq _ _ hj]; simp
    rw [e]
    have := shN_err F.length (hC j hj)
    rw [show ((F.length + j : Nat) : Int) = (j : Int) + (F.length : Int) by omega]; exact this
theorem compact_wf (l : List Nd) : Wf (fCompact l) := by
  by_cases h : fCheck l = 0
  · obtain ⟨e, hk⟩ := fCompact_of h
    rw [e]; exact canon_wf _ (fok_trAt (fCheck_ok.1 h).2.2 _ _ (Nat.lt_succ_self _) hk)
  · rw [fCompact_no h]; intro k hk; simp at hk
theorem bF_wf (os : List (List Nd)) : ∀ k, Wf (bF os k)
  | 0 => fun k hk => by simp [bF] at hk
  | k + 1 => (bF_wf os k).appSh (compact_wf _)
theorem Wf.snoc {F : List Nd} (hF : Wf F) {n : Nd} (h : nodeErr n F.length = 0) : Wf (F ++ [n]) := by
  intro k hk
  rcases Nat.lt_or_ge k F.length with h1 | h1
  · rw [nth_appL _ _ h1]; exact hF k h1
  · obtain rfl : k = F.length := by simp at hk; omega
    have := nth_appR F [n] (k := 0) (by simp)
    rw [Nat.add_zero] at this
    rw [this]; exact h

section
variable (w : World) (x : Nd) (os : List (List Nd))
/-- What a round of build keeps: the node's box, and the list so far. -/
structure BS (bx : Nat) (n : Nd) (F : List Nd) (vf : Value) (wr : World) : Prop where
  lo : w.heap.size ≤ bx
  e : Ext w wr
  lt : bx < wr.heap.size
  box : NdAt wr bx 0 n
  fz : ∀ o, wr.frozen? ⟨bx, o, none⟩ = false
  own : wr.ownsRow (bx + 1) 105 6 vf F.length (rowN F)
variable {w} {bx : Nat} {n : Nd} {F : List Nd} {vf : Value} {wr : World}
theorem BS.ext' (h : BS w bx n F vf wr) {w' : World} (e : Ext wr w') : BS w bx n F vf w' := by
  refine ⟨h.lo, h.e.trans e, Nat.lt_of_lt_of_le h.lt e.size, h.box.ext e, fun o => ?_, ?_⟩
  · rw [World.frozen?_of_block (w := wr) (e.block _ h.lt)]; exact h.fz o
  · exact h.own.kept (row := none) ⟨e.os, e.tape, e.output, e.size, fun k hk _ => e.block k hk⟩ (by cases vf.ownBlock <;> simp)
theorem BS.ne (h : BS w bx n F vf wr) : some bx ≠ vf.ownBlock := fun e => by have := (h.own.lt _ e.symm).1; omega
theorem BS.vlo (h : BS w bx n F vf wr) : ∀ k, vf.ownBlock = some k → w.heap.size ≤ k := fun k hk => by have := (h.own.lt k hk).1; have := h.lo; omega
theorem BS.push (h : BS w bx n F vf wr) {m : Nd} {v' : Value} {W1 : World} (ho : W1.ownsRow (bx + 1) 105 6 v' (F.length + 1) (rowN F ++ ndCells m)) (g : wr.grownBy W1 vf.ownBlock) : BS w bx n (F ++ [m]) v' W1 := by
  have hne := h.ne
  have hb : W1.heap[bx]? = wr.heap[bx]? := g.block bx h.lt hne
  refine ⟨h.lo, ext_of_grown h.e g (fun k hk => by have := (h.own.lt k hk).1; have := h.lo; omega), Nat.lt_of_lt_of_le h.lt g.size, h.box.keep hb, fun o => ?_, ?_⟩
  · rw [World.frozen?_of_block hb]; exact h.fz o
  · have e1 : (F ++ [m]).length = F.length + 1 := by simp
    have e2 : rowN (F ++ [m]) = rowN F ++ ndCells m := by rw [rowN_append]; simp [rowN]
    rw [e1, e2]; exact ho
theorem BS.setX (h : BS w bx n F vf wr) (q : Int) : BS w bx { n with x := q } F vf (wr.setCell ⟨bx, 4, none⟩ (.int .i64 q)) := by
  refine ⟨h.lo, h.e.setCell (by have := h.lo; simp; omega) _, by simpa [World.setCell] using h.lt, h.box.setX q, fun o => by rw [World.frozen?_setCell]; exact h.fz o, ?_⟩
  exact h.own.kept (row := some bx) ⟨rfl, rfl, rfl, by simp, fun j _ hj => heap_setCell_other wr ⟨bx, 4, none⟩ j _ (fun e => hj (by simp [e]))⟩ (.inr (Ne.symm h.ne))
theorem BS.setY (h : BS w bx n F vf wr) (q : Int) : BS w bx { n with y := q } F vf (wr.setCell ⟨bx, 5, none⟩ (.int .i64 q)) := by
  refine ⟨h.lo, h.e.setCell (by have := h.lo; simp; omega) _, by simpa [World.setCell] using h.lt, h.box.setY q, fun o => by rw [World.frozen?_setCell]; exact h.fz o, ?_⟩
  exact h.own.kept (row := some bx) ⟨rfl, rfl, rfl, by simp, fun j _ hj => heap_setCell_other wr ⟨bx, 5, none⟩ j _ (fun e => hj (by simp [e]))⟩ (.inr (Ne.symm h.ne))
end
end Wt

/- formula.Compact returns memory of its own. -/
namespace Wt
open Go Go.RowKit Go.Maps Go.Proofs Fm

/-- A slice's memory lies behind what was there. -/
def Fresh (a : Option Addr) (n : Nat) : Prop := ∀ b off, a = some ⟨b, off, none⟩ → n ≤ b
def RetNF (l : List Nd) (e : Ending) (w w' : World) : Prop := ∃ a c, e = .returned (.slice a l.length c) ∧ RN w' a l ∧ Fresh a w.heap.size ∧ Ext w w'
theorem RN_fresh {w : World} {base e : Nat} {v : Value} {l : List Nd} (h : w.ownsRow base e 6 v l.length (rowN l)) (hl : l.length ≤ 140737488355328) :
    ∃ a c, v = .slice a l.length c ∧ RN w a l ∧ Fresh a base := by
  obtain ⟨a, c, rfl, hr⟩ := RN_of_own h hl
  refine ⟨a, c, rfl, hr, ?_⟩
  rintro b off rfl
  exact (h.lt b rfl).1
set_option maxRecDepth 20000 in
set_option maxHeartbeats 2000000 in
theorem compact_fresh (fa : Option Addr) (fc : Nat) (l : List Nd) (root : Nat) (w : World) (hr : RN w fa l) (hw : Wf l) (hi : root < l.length) (hl : l.length ≤ 1000) :
    Calls Tryd.prog 99 #[.slice fa l.length fc, .int .i64 (root : Int)] w fun e w' =>
      (∃ a c, e = .returned (.slice a (fsize (trAt l root)) c) ∧ RN w' a (canon (trAt l root)) ∧ Fresh a w.heap.size) ∧ Ext w w' := by
  have HF := Lib.hid (finish_any (fc := fc) hr hw hl (root + 1) root (by omega) hi)
  have hmm := @run_makeMap Tryd.prog
  clear hr hw
  go_enter Tryd.func99, Tryd.ntmps99
  go_wp2_with (go_at_call 118; simp only [Nat.add_assoc, Nat.reduceAdd]; go_must (refine (HF.out _ [] (.slice none 0 0) (fun _ => none) (CS.start w fa fc l _ _ _ _ _)).mono ?_; rintro e w1 ⟨v1, D1, rfl, hc, hf, hj⟩; have c5 := hc.co))
  obtain ⟨va, vc, hv, hrn, hfr⟩ := RN_fresh (l := encL (addT (trAt l root) [])) (by rw [encL_length]; exact hc.own) (by rw [encL_length]; have := hc.len; omega)
  rw [encL_length] at hv
  subst hv
  go_ret
  exact ⟨⟨va, vc, rfl, hrn, fun b off h => by have := hfr b off h; omega⟩, hc.ext⟩
set_option maxHeartbeats 1000000 in
theorem sub_fresh (fa : Option Addr) (fc : Nat) (l : List Nd) (k : Nat) (w : World) (hr : RN w fa l) (h1 : fCheck l = 0) (h3 : k < l.length) :
    Calls Tryd.prog 77 #[.slice fa l.length fc, .int .i64 (k : Int)] w fun e w' => RetNF (canon (trAt l k)) e w w' := by
  have hl := hr.len
  have hf := fCheck_ok.1 h1
  have H1 := Lib.hid h1
  have HW := Lib.hid hf.2.2
  have hl2 := hf.2.1
  clear h1 hf
  go_enter Tryd.func77, Tryd.ntmps77
  go_wp2_with (first | (go_at_call 69; refine (check_any _ _ _ _ hr).mono ?_; rintro e w1 ⟨rfl, hE⟩; rw [H1.out]) | (go_at_call 99; refine (compact_fresh _ _ l k _ (hr.ext hE) HW.out (by omega) (by omega)).mono ?_; rintro e w2 ⟨⟨a, c, rfl, hc, hfr⟩, hE2⟩))
  go_ret
  unfold RetNF
  rw [canon_length]
  exact ⟨_, _, rfl, hc, fun b off h => Nat.le_trans hE.size (hfr b off h), hE.trans hE2⟩
set_option maxHeartbeats 1000000 in
theorem compactF_fresh (fa : Option Addr) (fc : Nat) (l : List Nd) (w : World) (hr : RN w fa l) (h1 : fCheck l = 0) :
    Calls Tryd.prog 36 #[.slice fa l.length fc] w fun e w' => RetNF (fCompact l) e w w' := by
  have hl := hr.len
  obtain ⟨hc, hk⟩ := fCompact_of h1
  have hp := (fCheck_ok.1 h1).1
  have HS := Lib.hid (fun w' (h : RN w' fa l) => sub_fresh fa fc l (l.length - 1) w' h h1 hk)
  have HC := Lib.hid hc
  have HR := Lib.hid hr
  have hsub : IntKind.i64.wrap ((l.length : Int) - 1) = ((l.length - 1 : Nat) : Int) := by rw [IntWalk.i64_in _ (by omega)]; omega
  clear hr h1 hc
  go_enter Tryd.func36, Tryd.ntmps36
  go_wp2_with (go_at_call 77; have e0 : ((l.length : Int) - 1) = ((l.length - 1 : Nat) : Int) := (by omega); (try rw [e0]); refine (HS.out _ HR.out).mono ?_; rintro e w1 ⟨a, c, rfl, hc, hfr, hE⟩)
  go_ret
  rw [HC.out]
  exact ⟨a, c, by rw [canon_length]; rfl, hc, hfr, hE⟩
theorem ext_block {w w' : World} (h : Ext w w') (b : Nat) (hb : b < w.heap.size) : w'.heap[b]? = w.heap[b]? := h.block b hb
theorem RN.keepB {w w' : World} {a : Option Addr} {l : List Nd} (h : RN w a l) (hk : ∀ b off, a = some ⟨b, off, none⟩ → w'.heap[b]? = w.heap[b]?) : RN w' a l :=
  ⟨h.len, fun k hlt => by
    obtain ⟨b, off, e, hn⟩ := h.at_ k hlt
    exact ⟨b, off, e, hn.keep (hk b off e)⟩⟩
end Wt
