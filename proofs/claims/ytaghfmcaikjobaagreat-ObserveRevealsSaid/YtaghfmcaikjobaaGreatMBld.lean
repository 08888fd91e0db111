/- formula.build: what its lists are; the state of its rounds. -/
import Derived.Test.YtaghfmcaikjobaaGreatMFmJ
import Derived.Test.YtaghfmcaikjobaaGreatMFmH
import Derived.Deep.AppendLies
import Derived.Maps.AppendAt
import Derived.Deep.QuietTactic
import Derived.BigQuiet
import Derived.StillTailTactics
namespace Wt
open Go Go.RowKit Go.Maps Go.Proofs Fm

theorem news_of (W : World) (n : Nd) (T : Nat) : ∀ j u, (ndCells n)[j]? = some u → (W.alloc (.cells #[.int .i64 n.op, .int .i64 n.i, .int .i64 n.e, .int .i64 n.g, .int .i64 n.x, .int .i64 n.y] T)).cell? ((⟨W.heap.size, 0, none⟩ : Addr).add j) = some u := by
  intro j u hj
  have hjl : j < 6 := by have := (List.getElem?_eq_some_iff.1 hj).1; simpa [ndCells] using this
  rw [← hj]
  rcases (show j = 0 ∨ j = 1 ∨ j = 2 ∨ j = 3 ∨ j = 4 ∨ j = 5 by omega) with rfl | rfl | rfl | rfl | rfl | rfl <;> simp [Addr.add, ndCells]
/-- A list of lists of nodes, in memory. -/
structure RNN (w : World) (a : Option Addr) (L : List (List Nd)) : Prop where
  len : L.length ≤ 140737488355328
  get : ∀ k, k < L.length → ∃ b off a' c', a = some ⟨b, off, none⟩ ∧ b < w.heap.size ∧ w.cell? ⟨b, off + k, none⟩ = some (.slice a' (nth L k).length c') ∧ RN w a' (nth L k)
theorem RNN.ext {w w' : World} {a : Option Addr} {L : List (List Nd)} (h : RNN w a L) (e : Ext w w') : RNN w' a L :=
  ⟨h.len, fun k hk => by
    obtain ⟨b, off, a', c', h1, h2, h3, h4⟩ := h.get k hk
    exact ⟨b, off, a', c', h1, Nat.lt_of_lt_of_le h2 e.size, e.cell h3, h4.ext e⟩⟩
theorem RNN.nil (w : World) (a : Option Addr) : RNN w a [] := ⟨by simp, fun _ hk => absurd hk (by simp)⟩
/-- A node behind s others. -/
def shN (s : Nat) (n : Nd) : Nd := ⟨n.op, n.i, n.e, n.g, if (useOf n.op).1.x then n.x + s else n.x, if (useOf n.op).1.y then n.y + s else n.y⟩
def bF (os : List (List Nd)) : Nat → List Nd
  | 0 => []
  | k + 1 => bF os k ++ (fCompact (nth os k)).map (shN (bF os k).length)
def bX (x : Nd) (os : List (List Nd)) : Nat → Nd
  | 0 => x
  | k + 1 => if k = 0 then { bX x os k with x := ((bF os (k + 1)).length : Int) - 1 } else { bX x os k with y := ((bF os (k + 1)).length : Int) - 1 }
def bT (x : Nd) (os : List (List Nd)) : Fm := trAt (bF os os.length ++ [bX x os os.length]) (bF os os.length).length
/-- The formula of a node and of its operands. -/
def fB (x : Nd) (os : List (List Nd)) : List Nd :=
  if (os.any fun o => fCheck o != 0) || nodeErr (bX x os os.length) (bF os os.length).length != 0 || decide (200 < fsize (bT x os)) then [] else canon (bT x os)
theorem bF_len (os : List (List Nd)) : ∀ k, (bF os k).length ≤ 200 * k
  | 0 => by simp [bF]
  | k + 1 => by
    have := bF_len os k
    have := (fCompact_ok (nth os k)).2
    simp [bF]; omega
theorem shN_err {n : Nd} {a : Int} (s : Nat) (h : nodeErr n a = 0) : nodeErr (shN s n) (a + s) = 0 := by
  obtain ⟨h1, h2, h3, h4, h5⟩ := nodeErr_ok h
  refine nodeErr_zero (n := shN s n) h1 ?_ ?_ h4 h5
  · show opnd (useOf n.op).1.x (if (useOf n.op).1.x then n.x + s else n.x) (a + s) = true
    cases hx : (useOf n.op).1.x
    · rw [hx] at h2; simpa [opnd] using h2
    · rw [hx] at h2; simp [opnd] at h2 ⊢; omega
  · show opnd (useOf n.op).1.y (if (useOf n.op).1.y then n.y + s else n.y) (a + s) = true
    cases hy : (useOf n.op).1.y
    · rw [hy] at h3; simpa [opnd] using h3
    · rw [hy] at h3; simp [opnd] at h3 ⊢; omega
theorem nth_appL {α : Type} [Inhabited α] (l m : List α) {k : Nat} (h : k < l.length) : nth (l ++ m) k = nth l k := by
  rw [nth_eq _ _ (by simp; omega), nth_eq _ _ h, List.getElem_append_left h]
theorem nth_appR {α : Type} [Inhabited α] (l m : List α) {k : Nat} (h : k < m.length) : nth (l ++ m) (l.length + k) = nth m k := by
  rw [nth_eq _ _ (by simp; omega), nth_eq _ _ h, List.getElem_append_right (by omega)]
  simp
theorem Wf.appSh {F C : List Nd} (hF : Wf F) (hC : Wf C) : Wf (F ++ C.map (shN F.length)) := by
  intro k hk
  rcases Nat.lt_or_ge k F.length with h | h
  · rw [nth_appL _ _ h]; exact hF k h
  · obtain ⟨j, rfl⟩ : ∃ j, k = F.length + j := ⟨k - F.length, by omega⟩
    have hj : j < C.length := by simp at hk; omega
    rw [nth_appR _ _ (by simpa using hj)]
    have e : nth (C.map (shN F.length)) j = shN F.length (nth C j) := by
      rw [nth_eq _ _ (by simpa using hj), nth_eq _ _ hj]; simp
    rw [e]
    have := shN_err F.length (hC j hj)
    rw [show ((F.length + j : Nat) : Int) = (j : Int) + (F.length : Int) by omega]; exact this
theorem compact_wf (l : List Nd) : Wf (fCompact l) := by
  by_cases h : fCheck l = 0
  · obtain ⟨e, hk⟩ := fCompact_of h
    rw [e]; exact canon_wf _ (fok_trAt (fCheck_ok.1 h).2.2 _ _ (Nat.lt_succ_self _) hk)
  · rw [fCompact_no h]; intro k hk; simp at hk
theorem bF_wf (os : List (List Nd)) : ∀ k, Wf (bF os k)
  | 0 => fun k hk => by simp [bF] at hk
  | k + 1 => (bF_wf os k).appSh (compact_wf _)
theorem Wf.snoc {F : List Nd} (hF : Wf F) {n : Nd} (h : nodeErr n F.length = 0) : Wf (F ++ [n]) := by
  intro k hk
  rcases Nat.lt_or_ge k F.length with h1 | h1
  · rw [nth_appL _ _ h1]; exact hF k h1
  · obtain rfl : k = F.length := by simp at hk; omega
    have := nth_appR F [n] (k := 0) (by simp)
    rw [Nat.add_zero] at this
    rw [this]; exact h

section
variable (w : World) (x : Nd) (os : List (List Nd))
/-- What a round of build keeps: the node's box, and the list so far. -/
structure BS (bx : Nat) (n : Nd) (F : List Nd) (vf : Value) (wr : World) : Prop where
  lo : w.heap.size ≤ bx
  e : Ext w wr
  lt : bx < wr.heap.size
  box : NdAt wr bx 0 n
  fz : ∀ o, wr.frozen? ⟨bx, o, none⟩ = false
  own : wr.ownsRow (bx + 1) 62 6 vf F.length (rowN F)
variable {w} {bx : Nat} {n : Nd} {F : List Nd} {vf : Value} {wr : World}
theorem BS.ext' (h : BS w bx n F vf wr) {w' : World} (e : Ext wr w') : BS w bx n F vf w' := by
  refine ⟨h.lo, h.e.trans e, Nat.lt_of_lt_of_le h.lt e.size, h.box.ext e, fun o => ?_, ?_⟩
  · rw [World.frozen?_of_block (w := wr) (e.block _ h.lt)]; exact h.fz o
  · exact h.own.kept (row := none) ⟨e.os, e.tape, e.output, e.size, fun k hk _ => e.block k hk⟩ (by cases vf.ownBlock <;> simp)
theorem BS.ne (h : BS w bx n F vf wr) : some bx ≠ vf.ownBlock := fun e => by have := (h.own.lt _ e.symm).1; omega
theorem BS.vlo (h : BS w bx n F vf wr) : ∀ k, vf.ownBlock = some k → w.heap.size ≤ k := fun k hk => by have := (h.own.lt k hk).1; have := h.lo; omega
theorem BS.push (h : BS w bx n F vf wr) {m : Nd} {v' : Value} {W1 : World} (ho : W1.ownsRow (bx + 1) 62 6 v' (F.length + 1) (rowN F ++ ndCells m)) (g : wr.grownBy W1 vf.ownBlock) : BS w bx n (F ++ [m]) v' W1 := by
  have hne := h.ne
  have hb : W1.heap[bx]? = wr.heap[bx]? := g.block bx h.lt hne
  refine ⟨h.lo, ext_of_grown h.e g (fun k hk => by have := (h.own.lt k hk).1; have := h.lo; omega), Nat.lt_of_lt_of_le h.lt g.size, h.box.keep hb, fun o => ?_, ?_⟩
  · rw [World.frozen?_of_block hb]; exact h.fz o
  · have e1 : (F ++ [m]).length = F.length + 1 := by simp
    have e2 : rowN (F ++ [m]) = rowN F ++ ndCells m := by rw [rowN_append]; simp [rowN]
    rw [e1, e2]; exact ho
theorem BS.setX (h : BS w bx n F vf wr) (q : Int) : BS w bx { n with x := q } F vf (wr.setCell ⟨bx, 4, none⟩ (.int .i64 q)) := by
  refine ⟨h.lo, h.e.setCell (by have := h.lo; simp; omega) _, by simpa [World.setCell] using h.lt, h.box.setX q, fun o => by rw [World.frozen?_setCell]; exact h.fz o, ?_⟩
  exact h.own.kept (row := some bx) ⟨rfl, rfl, rfl, by simp, fun j _ hj => heap_setCell_other wr ⟨bx, 4, none⟩ j _ (fun e => hj (by simp [e]))⟩ (.inr (Ne.symm h.ne))
theorem BS.setY (h : BS w bx n F vf wr) (q : Int) : BS w bx { n with y := q } F vf (wr.setCell ⟨bx, 5, none⟩ (.int .i64 q)) := by
  refine ⟨h.lo, h.e.setCell (by have := h.lo; simp; omega) _, by simpa [World.setCell] using h.lt, h.box.setY q, fun o => by rw [World.frozen?_setCell]; exact h.fz o, ?_⟩
  exact h.own.kept (row := some bx) ⟨rfl, rfl, rfl, by simp, fun j _ hj => heap_setCell_other wr ⟨bx, 5, none⟩ j _ (fun e => hj (by simp [e]))⟩ (.inr (Ne.symm h.ne))
end
end Wt

/- formula.Compact returns memory of its own. -/
namespace Wt
open Go Go.RowKit Go.Maps Go.Proofs Fm

/-- A slice's memory lies behind what was there. -/
def Fresh (a : Option Addr) (n : Nat) : Prop := ∀ b off, a = some ⟨b, off, none⟩ → n ≤ b
def RetNF (l : List Nd) (e : Ending) (w w' : World) : Prop := ∃ a c, e = .returned (.slice a l.length c) ∧ RN w' a l ∧ Fresh a w.heap.size ∧ Ext w w'
theorem RN_fresh {w : World} {base e : Nat} {v : Value} {l : List Nd} (h : w.ownsRow base e 6 v l.length (rowN l)) (hl : l.length ≤ 140737488355328) :
    ∃ a c, v = .slice a l.length c ∧ RN w a l ∧ Fresh a base := by
  obtain ⟨a, c, rfl, hr⟩ := RN_of_own h hl
  refine ⟨a, c, rfl, hr, ?_⟩
  rintro b off rfl
  exact (h.lt b rfl).1
set_option maxRecDepth 20000 in
set_option maxHeartbeats 2000000 in
theorem compact_fresh (fa : Option Addr) (fc : Nat) (l : List Nd) (root : Nat) (w : World) (hr : RN w fa l) (hw : Wf l) (hi : root < l.length) (hl : l.length ≤ 1000) :
    Calls Tryz.prog 98 #[.slice fa l.length fc, .int .i64 (root : Int)] w fun e w' =>
      (∃ a c, e = .returned (.slice a (fsize (trAt l root)) c) ∧ RN w' a (canon (trAt l root)) ∧ Fresh a w.heap.size) ∧ Ext w w' := by
  have HF := Lib.hid (finish_any (fc := fc) hr hw hl (root + 1) root (by omega) hi)
  have hmm := @run_makeMap Tryz.prog
  clear hr hw
  go_enter Tryz.func98, Tryz.ntmps98
  go_wp2_with (go_at_call 105; simp only [Nat.add_assoc, Nat.reduceAdd]; go_must (refine (HF.out _ [] (.slice none 0 0) (fun _ => none) (CS.start w fa fc l _ _ _ _ _)).mono ?_; rintro e w1 ⟨v1, D1, rfl, hc, hf, hj⟩; have c5 := hc.co))
  obtain ⟨va, vc, hv, hrn, hfr⟩ := RN_fresh (l := encL (addT (trAt l root) [])) (by rw [encL_length]; exact hc.own) (by rw [encL_length]; have := hc.len; omega)
  rw [encL_length] at hv
  subst hv
  go_ret
  exact ⟨⟨va, vc, rfl, hrn, fun b off h => by have := hfr b off h; omega⟩, hc.ext⟩
set_option maxHeartbeats 1000000 in
theorem sub_fresh (fa : Option Addr) (fc : Nat) (l : List Nd) (k : Nat) (w : World) (hr : RN w fa l) (h1 : fCheck l = 0) (h3 : k < l.length) :
    Calls Tryz.prog 74 #[.slice fa l.length fc, .int .i64 (k : Int)] w fun e w' => RetNF (canon (trAt l k)) e w w' := by
  have hl := hr.len
  have hf := fCheck_ok.1 h1
  have H1 := Lib.hid h1
  have HW := Lib.hid hf.2.2
  have hl2 := hf.2.1
  clear h1 hf
  go_enter Tryz.func74, Tryz.ntmps74
  go_wp2_with (first | (go_at_call 43; refine (check_any _ _ _ _ hr).mono ?_; rintro e w1 ⟨rfl, hE⟩; rw [H1.out]) | (go_at_call 98; refine (compact_fresh _ _ l k _ (hr.ext hE) HW.out (by omega) (by omega)).mono ?_; rintro e w2 ⟨⟨a, c, rfl, hc, hfr⟩, hE2⟩))
  go_ret
  unfold RetNF
  rw [canon_length]
  exact ⟨_, _, rfl, hc, fun b off h => Nat.le_trans hE.size (hfr b off h), hE.trans hE2⟩
set_option maxHeartbeats 1000000 in
theorem compactF_fresh (fa : Option Addr) (fc : Nat) (l : List Nd) (w : World) (hr : RN w fa l) (h1 : fCheck l = 0) :
    Calls Tryz.prog 46 #[.slice fa l.length fc] w fun e w' => RetNF (fCompact l) e w w' := by
  have hl := hr.len
  obtain ⟨hc, hk⟩ := fCompact_of h1
  have hp := (fCheck_ok.1 h1).1
  have HS := Lib.hid (fun w' (h : RN w' fa l) => sub_fresh fa fc l (l.length - 1) w' h h1 hk)
  have HC := Lib.hid hc
  have HR := Lib.hid hr
  have hsub : IntKind.i64.wrap ((l.length : Int) - 1) = ((l.length - 1 : Nat) : Int) := by rw [IntWalk.i64_in _ (by omega)]; omega
  clear hr h1 hc
  go_enter Tryz.func46, Tryz.ntmps46
  go_wp2_with (go_at_call 74; have e0 : ((l.length : Int) - 1) = ((l.length - 1 : Nat) : Int) := (by omega); (try rw [e0]); refine (HS.out _ HR.out).mono ?_; rintro e w1 ⟨a, c, rfl, hc, hfr, hE⟩)
  go_ret
  rw [HC.out]
  exact ⟨a, c, by rw [canon_length]; rfl, hc, hfr, hE⟩
theorem ext_block {w w' : World} (h : Ext w w') (b : Nat) (hb : b < w.heap.size) : w'.heap[b]? = w.heap[b]? := h.block b hb
theorem RN.keepB {w w' : World} {a : Option Addr} {l : List Nd} (h : RN w a l) (hk : ∀ b off, a = some ⟨b, off, none⟩ → w'.heap[b]? = w.heap[b]?) : RN w' a l :=
  ⟨h.len, fun k hlt => by
    obtain ⟨b, off, e, hn⟩ := h.at_ k hlt
    exact ⟨b, off, e, hn.keep (hk b off e)⟩⟩
end Wt

/- Walk: formula.build (printed by gen_bld.py). -/
namespace Wt
open Go Go.RowKit Go.Maps Go.Proofs Fm

theorem news_at (W : World) (n : Nd) (T H : Nat) (hH : W.heap.size = H) : ∀ j u, (ndCells n)[j]? = some u → (W.alloc (.cells #[.int .i64 n.op, .int .i64 n.i, .int .i64 n.e, .int .i64 n.g, .int .i64 n.x, .int .i64 n.y] T)).cell? ((⟨H, 0, none⟩ : Addr).add j) = some u := by
  subst hH; exact news_of W n T
theorem own_RN {W : World} {base g cap : Nat} {l : List Nd} {n : Nat} (h : W.ownsRow base 62 6 (.slice (some ⟨g, 0, none⟩) n cap) l.length (rowN l)) (_hn : l.length = n) (hl : l.length ≤ 140737488355328) : RN W (some ⟨g, 0, none⟩) l := by
  obtain ⟨a, c, hv, hr⟩ := RN_of_own h hl
  simp only [Value.slice.injEq] at hv
  rw [hv.1]; exact hr
theorem compactQ (fa : Option Addr) (fc : Nat) (l : List Nd) (root n : Nat) (w : World) (hr : RN w fa l) (hw : Wf l) (hi : root < l.length) (hl : l.length ≤ 1000) (hn : l.length = n) :
    Calls Tryz.prog 98 #[.slice fa n fc, .int .i64 (root : Int)] w fun e w' =>
      (∃ a c, e = .returned (.slice a (fsize (trAt l root)) c) ∧ RN w' a (canon (trAt l root))) ∧ Ext w w' := by
  subst hn; exact compact_any fa fc l root w hr hw hi hl
theorem take_sh (F C : List Nd) {q : Nat} (h : q < C.length) : F ++ (C.take (q + 1)).map (shN F.length) = (F ++ (C.take q).map (shN F.length)) ++ [shN F.length (nth C q)] := by
  rw [List.take_succ_eq_append_getElem h, List.map_append, ← List.append_assoc, nth_eq _ _ h]; rfl
end Wt

/- Walks: formula's constructors (printed by gen_bldb.py). -/
namespace Wt
open Go Go.RowKit Go.Maps Go.Proofs Fm

theorem RNN.one (w : World) (fa : Option Addr) (fc : Nat) (f : List Nd) (T : Nat) (h : RN w fa f) : RNN (w.alloc (.cells #[.slice fa f.length fc] T)) (some ⟨w.heap.size, 0, none⟩) [f] :=
  ⟨by simp, fun k hk => by
    obtain rfl : k = 0 := by simp at hk; omega
    exact ⟨w.heap.size, 0, fa, fc, rfl, by simp, by simp [nth], h.ext ((Ext.refl w).alloc _)⟩⟩
theorem RNN.two (w : World) (fa ga : Option Addr) (fc gc : Nat) (f g : List Nd) (T : Nat) (h : RN w fa f) (h2 : RN w ga g) : RNN (w.alloc (.cells #[.slice fa f.length fc, .slice ga g.length gc] T)) (some ⟨w.heap.size, 0, none⟩) [f, g] :=
  ⟨by simp, fun k hk => by
    rcases (show k = 0 ∨ k = 1 by simp at hk; omega) with rfl | rfl
    · exact ⟨w.heap.size, 0, fa, fc, rfl, by simp, by simp [nth], h.ext ((Ext.refl w).alloc _)⟩
    · exact ⟨w.heap.size, 0, ga, gc, rfl, by simp, by simp [nth], h2.ext ((Ext.refl w).alloc _)⟩⟩
end Wt

/- Walks: relation.all, Check, Box, Diamond. -/
namespace Wt
open Go Go.RowKit Go.Proofs

theorem not_un (s : BitVec 64) : IntKind.u64.wrap (((~~~ BitVec.ofInt 64 (un s)).toNat : Nat) : Int) = un (~~~ s) := by rw [ofInt_un, wrap_un]
/-- The points all of whose successors are in a set. -/
def boxTo (r : List (BitVec 64)) (s : BitVec 64) : Nat → BitVec 64
  | 0 => 0#64
  | k + 1 => if (nth r k &&& ~~~ s) = 0#64 then boxTo r s k ||| 1#64 <<< k else boxTo r s k
/-- The error of a relation. -/
def relBad (r : List (BitVec 64)) : Bool := outL r.length r
def relCheck (r : List (BitVec 64)) : Int := if 64 < r.length then 2 else if relBad r then 1 else 0
def relBox (r : List (BitVec 64)) (s : BitVec 64) : BitVec 64 := if relCheck r = 0 then boxTo r s r.length else 0#64
def relDia (r : List (BitVec 64)) (s : BitVec 64) : BitVec 64 := if relCheck r = 0 then allW r.length &&& ~~~ boxTo r (~~~ s) r.length else 0#64

set_option maxHeartbeats 1000000 in
theorem relAll_any (n : Nat) (w : World) :
    Calls Tryz.prog 78 #[.int .i64 (n : Int)] w fun e w' => e = .returned (.int .u64 (un (allW n))) ∧ w = w' := by
  by_cases h : 64 ≤ n
  · go_enter Tryz.func78, Tryz.ntmps78
    go_wp2
    go_ret
    exact ⟨by simp [allW, h, un_max], rfl⟩
  · go_enter Tryz.func78, Tryz.ntmps78
    go_wp2
    go_ret
    exact ⟨by simp [allW, h], rfl⟩
set_option maxHeartbeats 1000000 in
theorem relCheck_any (a : Option Addr) (r : List (BitVec 64)) (c : Nat) (w : World) (hr : RU w a r) :
    Calls Tryz.prog 77 #[.int .i64 (r.length : Int), .slice a r.length c] w fun e w' => e = .returned (.int .i64 (relCheck r)) ∧ w = w' := by
  have hl := hr.len
  by_cases h : 64 < r.length
  · have hn : relCheck r = 2 := if_pos h
    have HN := Lib.hid hn
    clear hn
    go_enter Tryz.func77, Tryz.ntmps77
    go_wp2
    go_ret
    exact ⟨by rw [HN.out]; rfl, rfl⟩
  · have hn : relCheck r = if relBad r then 1 else 0 := if_neg h
    have HN := Lib.hid hn
    clear hn
    have hne : ((r.length : Int) != (r.length : Int)) = false := by simp
    go_enter Tryz.func77, Tryz.ntmps77
    go_wp2
    go_loop [19] (fun i => ∃ k : Nat, k ≤ r.length ∧ i = .int .i64 k ∧ Hid (∀ j, j < k → outOne r.length (nth r j) = false)) (fun i => r.length - (intOf i).toNat)
    case atStart => exact ⟨0, Nat.zero_le _, rfl, fun _ h => absurd h (Nat.not_lt_zero _)⟩
    case round =>
      obtain ⟨k, hk, rfl, hno⟩ := hrel
      by_cases hlt : k < r.length
      · obtain ⟨b, off, rfl, hb, hc⟩ := hr.get hlt
        go_wp2_with (go_at_call 78; refine (relAll_any _ _).mono ?_; rintro e w1 ⟨rfl, rfl⟩)
        · go_ret
          have : relBad r = true := any_yes hlt (by assumption)
          exact ⟨by rw [HN.out, this]; rfl, rfl⟩
        · go_round
          case rel => exact ⟨k + 1, hlt, by go_num, lt_step hno (by assumption)⟩
          case measure => simp [intOf]; omega
      · have hno2 : relBad r = false := any_no (fun j hj => hno j (by omega))
        have HN2 := Lib.hid hno2
        clear hno2 hno
        go_wp2
        go_ret
        exact ⟨by rw [HN.out, HN2.out]; rfl, rfl⟩
set_option maxHeartbeats 1000000 in
theorem relBox_any (a : Option Addr) (r : List (BitVec 64)) (c : Nat) (s : BitVec 64) (w : World) (hr : RU w a r) :
    Calls Tryz.prog 50 #[.slice a r.length c, .int .u64 (un s)] w fun e w' => e = .returned (.int .u64 (un (relBox r s))) ∧ w = w' := by
  have hl := hr.len
  by_cases h : relCheck r = 0
  · have hn : relBox r s = boxTo r s r.length := if_pos h
    have HN := Lib.hid hn
    have H1 := Lib.hid h
    have h64 : r.length ≤ 64 := by
      unfold relCheck at h
      by_cases h2 : 64 < r.length
      · rw [if_pos h2] at h; omega
      · omega
    clear hn h
    go_enter Tryz.func50, Tryz.ntmps50
    go_wp2_with (go_at_call 77; refine (relCheck_any _ _ _ _ hr).mono ?_; rintro e w1 ⟨rfl, rfl⟩; rw [H1.out])
    go_loop [5, 14] (fun o i => ∃ k : Nat, k ≤ r.length ∧ i = .int .i64 k ∧ o = .int .u64 (un (boxTo r s k))) (fun _ i => r.length - (intOf i).toNat)
    case atStart => exact ⟨0, Nat.zero_le _, rfl, rfl⟩
    case round =>
      obtain ⟨k, hk, rfl, rfl⟩ := hrel
      by_cases hlt : k < r.length
      · obtain ⟨b, off, rfl, hb, hc⟩ := hr.get hlt
        by_cases hq : (nth r k &&& ~~~ s) = 0#64
        · have hs : boxTo r s (k + 1) = boxTo r s k ||| 1#64 <<< k := if_pos hq
          have HS := Lib.hid hs
          have hq2 : ((nth r k &&& ~~~ s) == 0#64) = true := by simp [hq]
          clear hq hs
          go_wp2
          go_round
          case rel => exact ⟨k + 1, hlt, by go_num, by rw [HS.out]⟩
          case measure => simp [intOf]; omega
        · have hs : boxTo r s (k + 1) = boxTo r s k := if_neg hq
          have HS := Lib.hid hs
          have hq2 : ((nth r k &&& ~~~ s) == 0#64) = false := by simp [hq]
          clear hq hs
          go_wp2
          go_round
          case rel => exact ⟨k + 1, hlt, by go_num, by rw [HS.out]⟩
          case measure => simp [intOf]; omega
      · obtain rfl : k = r.length := by omega
        go_wp2
        go_ret
        exact ⟨by rw [HN.out]; rfl, rfl⟩
  · have hn : relBox r s = 0#64 := if_neg h
    have HN := Lib.hid hn
    have hq2 : (relCheck r != 0) = true := by simp [h]
    clear hn h
    go_enter Tryz.func50, Tryz.ntmps50
    go_wp2_with (go_at_call 77; refine (relCheck_any _ _ _ _ hr).mono ?_; rintro e w1 ⟨rfl, rfl⟩)
    go_ret
    exact ⟨by rw [HN.out]; rfl, rfl⟩
set_option maxHeartbeats 1000000 in
theorem relDia_any (a : Option Addr) (r : List (BitVec 64)) (c : Nat) (s : BitVec 64) (w : World) (hr : RU w a r) :
    Calls Tryz.prog 51 #[.slice a r.length c, .int .u64 (un s)] w fun e w' => e = .returned (.int .u64 (un (relDia r s))) ∧ w = w' := by
  have hl := hr.len
  by_cases h : relCheck r = 0
  · have hn : relDia r s = allW r.length &&& ~~~ relBox r (~~~ s) := by unfold relDia relBox; rw [if_pos h, if_pos h]
    have HN := Lib.hid hn
    have H1 := Lib.hid h
    clear hn h
    go_enter Tryz.func51, Tryz.ntmps51
    go_wp2_with (first | (go_at_call 77; refine (relCheck_any _ _ _ _ hr).mono ?_; rintro e w1 ⟨rfl, rfl⟩; rw [H1.out]) | (go_at_call 78; refine (relAll_any _ _).mono ?_; rintro e w1 ⟨rfl, rfl⟩) | (go_at_call 50; refine (relBox_any _ _ _ (~~~ s) _ hr).mono ?_; rintro e w1 ⟨rfl, rfl⟩))
    go_ret
    exact ⟨by rw [HN.out]; rfl, rfl⟩
  · have hn : relDia r s = 0#64 := if_neg h
    have HN := Lib.hid hn
    have hq2 : (relCheck r != 0) = true := by simp [h]
    clear hn h
    go_enter Tryz.func51, Tryz.ntmps51
    go_wp2_with (go_at_call 77; refine (relCheck_any _ _ _ _ hr).mono ?_; rintro e w1 ⟨rfl, rfl⟩)
    go_ret
    exact ⟨by rw [HN.out]; rfl, rfl⟩
end Wt

/- Walks: slices.Clone, model.gather, Meet, Group. -/
namespace Wt
open Go Go.RowKit Go.Proofs

def uv (s : BitVec 64) : Value := .int .u64 (un s)
/-- A slice of sets that the call owns. -/
def OU (w : World) (base : Nat) (v : Value) (l : List (BitVec 64)) : Prop := w.ownsRow base 44 1 v l.length (l.map uv)
theorem RU_of_OU {w : World} {base : Nat} {v : Value} {l : List (BitVec 64)} (h : OU w base v l) (hl : l.length ≤ 140737488355328) : ∃ a c, v = .slice a l.length c ∧ RU w a l := by
  rcases h.2 with ⟨rfl, h0⟩ | ⟨g, cap, cur, rfl, hb, hg, hnc, hcm, hcs, htake⟩
  · have : l = [] := List.eq_nil_of_length_eq_zero h0
    subst this
    exact ⟨none, 0, rfl, RU.nil _ _⟩
  · refine ⟨some ⟨g, 0, none⟩, cap, rfl, hl, fun k hk => ⟨g, 0, rfl, ?_⟩⟩
    rw [cell_of_row w g _ cur _ (0, 0) hg, Nat.zero_add]
    have h1 : (l.map uv)[k]? = some (uv (nth l k)) := by rw [List.getElem?_map, nth_eq l k hk]; simp [hk]
    rw [← htake, List.getElem?_take, if_pos (by omega)] at h1
    simpa [uv] using h1
/-- One element is written. -/
theorem OU.set {w : World} {base : Nat} {a : Option Addr} {c : Nat} {l : List (BitVec 64)} (h : OU w base (.slice a l.length c) l) {k : Nat} (hk : k < l.length) (s : BitVec 64) :
    ∃ g, a = some ⟨g, 0, none⟩ ∧ base ≤ g ∧ g < w.heap.size ∧ w.frozen? ⟨g, k, none⟩ = false ∧ (∃ u, w.cell? ⟨g, k, none⟩ = some u) ∧ OU (w.setCell ⟨g, k, none⟩ (uv s)) base (.slice a l.length c) (l.set k s) := by
  rcases h.2 with ⟨h0, h1⟩ | ⟨g, cap, cur, hv, hb, hg, hnc, hcm, hcs, htake⟩
  · omega
  · simp only [Value.slice.injEq] at hv
    obtain ⟨rfl, _, rfl⟩ := hv
    refine ⟨g, rfl, hb, (Array.getElem?_eq_some_iff.1 hg).1, ?_, ?_, ?_⟩
    · simp [World.frozen?, hg]
    · rw [cell_of_row w g _ cur _ (0, 0) hg]
      have hk2 : k < cur.size := by omega
      exact ⟨cur[k], by simp [hk2]⟩
    · refine ⟨by simp, .inr ⟨g, c, cur.setIfInBounds k (uv s), by simp, hb, ?_, by simpa using hnc, hcm, by simpa using hcs, ?_⟩⟩
      · simp [World.setCell, Array.getElem?_modify, hg]
      · have e : (cur.setIfInBounds k (uv s)).toList = cur.toList.set k (uv s) := by simp
        rw [e, List.length_set, List.take_set, htake, List.map_set]
theorem OU.ext {w w' : World} {base : Nat} {v : Value} {l : List (BitVec 64)} (h : OU w base v l) (e : Ext w w') : OU w' base v l :=
  World.ownsRow.kept h (row := none) ⟨e.os, e.tape, e.output, e.size, fun k hk _ => e.block k hk⟩ (by cases v.ownBlock <;> simp)
theorem u64_info : (Tryz.prog.info? 44).map (fun i => (i.zero, i.size, i.bytes)) = some (some (.int .u64 0), 1, 8) := by kernel_rfl
theorem uv_one (l : List (BitVec 64)) : ∀ u ∈ l.map uv, u.oneCell' = true := by
  intro u hu
  obtain ⟨s, _, rfl⟩ := List.mem_map.1 hu
  rfl
/-- What is read one by one is read as a row. -/
theorem RU.news {w : World} {a : Addr} {l : List (BitVec 64)} (h : RU w (some a) l) : ∀ j u, (l.map uv)[j]? = some u → w.cell? (a.add j) = some u := by
  intro j u hj
  rw [List.getElem?_map] at hj
  by_cases hjl : j < l.length
  · obtain ⟨b, off, e, hc⟩ := h.at_ j hjl
    simp only [Option.some.injEq] at e
    subst e
    simp [hjl] at hj
    rw [← hj, Addr.add_lit, hc, nth_eq l j hjl]; rfl
  · simp [hjl] at hj

set_option maxRecDepth 20000 in
set_option maxHeartbeats 1000000 in
theorem clone_u (a : Addr) (c : Nat) (l : List (BitVec 64)) (w : World) (hr : RU w (some a) l) (hl : l.length ≤ 1000) :
    Calls Tryz.prog 99 #[.slice (some a) l.length c] w fun e w' => (∃ v, e = .returned v ∧ OU w' w.heap.size v l) ∧ Ext w w' := by
  obtain ⟨i0, hi1, hz0, hz1, hz2⟩ := info_parts u64_info
  have hne := fun (W : World) (x : Option Addr) (n c : Nat) => Lib.run_eql_slice_nil (P := Tryz.prog) W 22 44 x n c 0 0 Tryz.underlying22
  have HN := Lib.hid hr.news
  have HO := Lib.hid (uv_one l)
  clear hr
  go_enter Tryz.func99, Tryz.ntmps99
  go_wp2_with (at_builtin; refine wpList_append_own_at _ rfl _ _ 22 rfl w.heap.size 44 i0 _ 1 8 Tryz.underlying22 hi1 hz0 hz1 hz2 rfl (by decide) _ 0 [] rfl ?c0 a l.length c (l.map uv) rfl ?c6 ?c1 HO.out ?c3 ?c4 ?c5 ?_)
  case c0 => exact World.ownsRow_made w #[] 0 (Nat.le_refl _) (by unfold maxLen; omega) rfl
  case c6 => simp
  case c1 => exact fun j u h => ((Ext.refl w).alloc _).cell (HN.out j u h)
  case c3 => unfold maxLen; omega
  case c4 => omega
  case c5 => simp
  intro v' W1 hown hgr _ _
  have hE : Ext w W1 := Below.grown ((Ext.refl w).alloc _) hgr (Ext.size ((Ext.refl w).alloc _)) (fun k hk => by simp [Value.ownBlock] at hk; omega)
  clear hgr
  go_wp2
  go_ret
  exact ⟨⟨v', rfl, by unfold OU; simpa using hown⟩, hE⟩

/-- The join of the relations of a group, among the first k agents. -/
def gat (j : BitVec 64 → BitVec 64 → BitVec 64) (R : List (List (BitVec 64))) (g : Nat) : Nat → Option (List (BitVec 64))
  | 0 => none
  | k + 1 => if g.testBit k then (match gat j R g k with | none => some (nth R k) | some x => some (List.zipWith j x (nth R k))) else gat j R g k
def mix (j : BitVec 64 → BitVec 64 → BitVec 64) (x y : List (BitVec 64)) (k : Nat) : List (BitVec 64) := (List.zipWith j x y).take k ++ x.drop k
theorem mix_zero (j : BitVec 64 → BitVec 64 → BitVec 64) (x y : List (BitVec 64)) : mix j x y 0 = x := by simp [mix]
theorem mix_all (j : BitVec 64 → BitVec 64 → BitVec 64) (x y : List (BitVec 64)) (h : x.length = y.length) : mix j x y x.length = List.zipWith j x y := by
  unfold mix
  rw [List.drop_of_length_le (Nat.le_refl _), List.append_nil, List.take_of_length_le (by simp; omega)]
theorem mix_length (j : BitVec 64 → BitVec 64 → BitVec 64) (x y : List (BitVec 64)) (h : x.length = y.length) (k : Nat) (hk : k ≤ x.length) : (mix j x y k).length = x.length := by
  simp [mix]; omega
theorem mix_nth (j : BitVec 64 → BitVec 64 → BitVec 64) (x y : List (BitVec 64)) (h : x.length = y.length) (k : Nat) (hk : k < x.length) : nth (mix j x y k) k = nth x k := by
  rw [nth_eq _ _ (by rw [mix_length j x y h k (by omega)]; exact hk), nth_eq _ _ hk]
  unfold mix
  rw [List.getElem_append_right (by simp; omega)]
  simp [show min k (min x.length y.length) = k by omega]
theorem mix_step (j : BitVec 64 → BitVec 64 → BitVec 64) (x y : List (BitVec 64)) (h : x.length = y.length) (k : Nat) (hk : k < x.length) : (mix j x y k).set k (j (nth x k) (nth y k)) = mix j x y (k + 1) := by
  rw [nth_eq _ _ hk, nth_eq _ _ (show k < y.length by omega)]
  unfold mix
  apply List.ext_getElem?
  intro i
  have hl : (List.zipWith j x y).length = x.length := by simp; omega
  rw [List.getElem?_set, List.getElem?_append, List.getElem?_append, List.length_append, List.length_take, List.length_take, List.length_drop, hl]
  by_cases e : k = i
  · subst e
    rw [if_pos rfl, if_pos (by omega), if_pos (by omega), List.getElem?_take, if_pos (by omega)]
    rw [List.getElem?_eq_getElem (by rw [hl]; exact hk), List.getElem_zipWith]
  · rw [if_neg e]
    by_cases e2 : i < k
    · rw [if_pos (by omega), if_pos (by omega), List.getElem?_take, List.getElem?_take, if_pos e2, if_pos (by omega)]
    · rw [if_neg (by omega), if_neg (by omega), List.getElem?_drop, List.getElem?_drop]
      congr 1
      omega
end Wt

/- Walks: model.gather, Meet, Group. -/
namespace Wt
open Go Go.RowKit Go.Proofs

/-- The shape of a model that is right. -/
structure MoOk (M : Mo) (n : Nat) : Prop where
  worlds : M.worlds = n
  one : 1 ≤ n
  most : n ≤ 64
  rel : M.rel.length ≤ 4
  val : M.val.length ≤ 8
  row : ∀ r ∈ M.rel, r.length = n
  valIn : ∀ s ∈ M.val, s &&& ~~~ allW n = 0#64
  relIn : ∀ r ∈ M.rel, ∀ s ∈ r, s &&& ~~~ allW n = 0#64
theorem moCheck_ok {M : Mo} (h : moCheck M = 0) : ∃ n, MoOk M n := by
  unfold moCheck at h
  by_cases h1 : M.worlds < 1 ∨ 64 < M.worlds
  · rw [if_pos h1] at h; omega
  · rw [if_neg h1] at h
    by_cases h2 : 4 < M.rel.length ∨ 8 < M.val.length
    · rw [if_pos h2] at h; omega
    · rw [if_neg h2] at h
      by_cases h3 : M.rel.any (fun r => (r.length : Int) != M.worlds) = true
      · rw [if_pos h3] at h; omega
      · rw [if_neg h3] at h
        by_cases h4 : (outL M.worlds.toNat M.val || M.rel.any (outL M.worlds.toNat)) = true
        · rw [if_pos h4] at h; omega
        · obtain ⟨n, hn⟩ := Int.eq_ofNat_of_zero_le (show 0 ≤ M.worlds by omega)
          rw [hn] at h1 h3 h4
          simp only [Int.toNat_natCast, Bool.or_eq_true, not_or, Bool.not_eq_true] at h3 h4
          refine ⟨n, hn, by omega, by omega, by omega, by omega, fun r hr => ?_, fun s hs => ?_, fun r hr s hs => ?_⟩
          · have := List.any_eq_false.1 h3 r hr
            simp at this; omega
          · have := List.any_eq_false.1 h4.1 s hs
            simpa [outOne] using this
          · have := List.any_eq_false.1 h4.2 r hr
            have := List.any_eq_false.1 (by simpa [outL] using this) s hs
            simpa [outOne] using this
theorem MoOk.check {M : Mo} {n : Nat} (h : MoOk M n) : moCheck M = 0 := by
  unfold moCheck
  rw [if_neg (by have := h.worlds; have := h.one; have := h.most; omega), if_neg (by have := h.rel; have := h.val; omega), if_neg, if_neg]
  · rw [h.worlds]
    simp only [Int.toNat_natCast, Bool.or_eq_true, not_or, Bool.not_eq_true]
    refine ⟨List.any_eq_false.2 fun s hs => by simp [outOne, h.valIn s hs], List.any_eq_false.2 fun r hr => ?_⟩
    simp only [Bool.not_eq_true]
    exact List.any_eq_false.2 fun s hs => by simp [outOne, h.relIn r hr s hs]
  · simp only [Bool.not_eq_true]
    exact List.any_eq_false.2 fun r hr => by simp [h.row r hr, h.worlds]

/-- What the variable of gather holds. -/
def GatV (W : World) (base : Nat) (v : Value) : Option (List (BitVec 64)) → Prop
  | none => v = .slice none 0 0
  | some l => OU W base v l
theorem OU.mono {W : World} {b b' : Nat} {v : Value} {l : List (BitVec 64)} (h : OU W b v l) (hb : b' ≤ b) : OU W b' v l := by
  refine ⟨h.1, ?_⟩
  rcases h.2 with hn | ⟨g, cap, cur, rfl, hg, rest⟩
  · exact .inl hn
  · exact .inr ⟨g, cap, cur, rfl, Nat.le_trans hb hg, rest⟩
theorem GatV.ext {W W' : World} {base : Nat} {v : Value} {x : Option (List (BitVec 64))} (h : GatV W base v x) (e : Ext W W') : GatV W' base v x := by
  cases x with
  | none => exact h
  | some l => exact OU.ext h e
theorem OU.set' {w : World} {base n : Nat} {a : Option Addr} {c : Nat} {l : List (BitVec 64)} (h : OU w base (.slice a n c) l) (hn : l.length = n) {k : Nat} (hk : k < n) (s : BitVec 64) :
    ∃ g, a = some ⟨g, 0, none⟩ ∧ base ≤ g ∧ g < w.heap.size ∧ w.frozen? ⟨g, k, none⟩ = false ∧ (∃ u, w.cell? ⟨g, k, none⟩ = some u) ∧ OU (w.setCell ⟨g, k, none⟩ (uv s)) base (.slice a n c) (l.set k s) := by
  subst hn; exact OU.set h hk s
theorem RU_of_OU' {w : World} {base n : Nat} {a : Option Addr} {c : Nat} {l : List (BitVec 64)} (h : OU w base (.slice a n c) l) (hn : l.length = n) (hl : n ≤ 140737488355328) : RU w a l := by
  subst hn
  obtain ⟨a2, c2, e, hu⟩ := RU_of_OU h hl
  simp only [Value.slice.injEq] at e
  rw [e.1]; exact hu
/-- Is a number a group of the agents of a model? -/
def isGroup (M : Mo) (g : Int) : Bool := decide (moCheck M = 0 ∧ 1 ≤ g ∧ g < p2 M.rel.length)
def gather (j : BitVec 64 → BitVec 64 → BitVec 64) (M : Mo) (g : Int) : List (BitVec 64) := if isGroup M g then (gat j M.rel g.toNat M.rel.length).getD [] else []
theorem gat_len (j : BitVec 64 → BitVec 64 → BitVec 64) (R : List (List (BitVec 64))) (g n : Nat) (h : ∀ r ∈ R, r.length = n) : ∀ k, k ≤ R.length → ∀ x, gat j R g k = some x → x.length = n
  | 0, _, x, hx => by simp [gat] at hx
  | k + 1, hk, x, hx => by
    have hr : (nth R k).length = n := h _ (by rw [nth_eq R k (by omega)]; exact List.getElem_mem _)
    unfold gat at hx
    split at hx
    · split at hx
      · cases hx; exact hr
      · rename_i y hy
        have := gat_len j R g n h k (by omega) y hy
        cases hx
        simp; omega
    · exact gat_len j R g n h k (by omega) x hx

set_option maxRecDepth 20000 in
set_option maxHeartbeats 2000000 in
theorem gather_any (F : Nat) (j : BitVec 64 → BitVec 64 → BitVec 64) (M : Mo) (va ra : Option Addr) (vc rc : Nat) (g : Int) (w : World) (hr : RM w va ra M)
    (hF : ∀ args W, (callFunc F args).run Tryz.prog W = .ok (.enter F args) W)
    (hp : ∀ W x y, Calls Tryz.prog F #[.int .u64 (un x), .int .u64 (un y)] W fun e w' => e = .returned (.int .u64 (un (j x y))) ∧ w' = W) :
    Calls Tryz.prog 79 #[.agg #[.int .i64 M.worlds, .slice va M.val.length vc, .slice ra M.rel.length rc], .int .i64 g, .func (.func F) #[] #[]] w fun e w' =>
      (∃ v, e = .returned v ∧ OU w' w.heap.size v (gather j M g)) ∧ Ext w w' := by
  have hne := fun (W : World) (x : Option Addr) (n c : Nat) => Lib.run_eql_slice_nil (P := Tryz.prog) W 22 44 x n c 0 0 Tryz.underlying22
  have hE0 := (Ext.refl w).alloc (.cells #[.int .i64 M.worlds, .slice va M.val.length vc, .slice ra M.rel.length rc] 25)
  have hr0 := hr.ext hE0
  by_cases h1 : moCheck M = 0
  · obtain ⟨n, hok⟩ := moCheck_ok h1
    by_cases h2 : g < 1
    · have hn : gather j M g = [] := by unfold gather isGroup; rw [if_neg (by simp; omega)]
      have HN := Lib.hid hn
      have H1 := Lib.hid h1
      have HE := Lib.hid hE0
      have HO := Lib.hid hok
      clear hn h1 hp hE0 hok
      go_enter Tryz.func79, Tryz.ntmps79
      go_wp2_with (go_at_call 24; refine (modelCheck_any M va ra vc rc _ hr0).mono ?_; rintro e w1 ⟨rfl, hE1⟩; rw [H1.out])
      go_ret
      rw [HN.out]
      exact ⟨⟨_, rfl, World.ownsRow_nil _ _ _ _⟩, HE.out.trans hE1⟩
    · obtain ⟨gn, rfl⟩ := Int.eq_ofNat_of_zero_le (show 0 ≤ g by omega)
      by_cases h3 : (gn : Int) < p2 M.rel.length
      · have hn : gather j M gn = (gat j M.rel gn M.rel.length).getD [] := by unfold gather isGroup; rw [if_pos (by simp [h1, h3]; omega)]; rfl
        have HN := Lib.hid hn
        have H1 := Lib.hid h1
        have HE := Lib.hid hE0
        have HOK := Lib.hid hok
        have HP := Lib.hid hp
        have HR := Lib.hid hr
        have hrl : M.rel.length < 63 := by have := hok.rel; omega
        have hgn : gn < 9223372036854775808 := by
          have h4 := hok.rel
          unfold p2 at h3
          have h5 : 2 ^ M.rel.length ≤ 2 ^ 4 := Nat.pow_le_pow_right (by omega) h4
          omega
        have hn1 := hok.one
        have hn64 := hok.most
        obtain ⟨m0, m1, m2⟩ := MoBox.new w M.worlds M.val M.rel va vc ra rc 25
        clear hn h1 hp hE0 hok hr
        go_enter Tryz.func79, Tryz.ntmps79
        go_wp2_with (go_at_call 24; refine (modelCheck_any M va ra vc rc _ hr0).mono ?_; rintro e w1 ⟨rfl, hE1⟩; rw [H1.out]; have q0 := hE1.cell m0; have q1 := hE1.cell m1; have q2 := hE1.cell m2; clear m0 m1 m2)
        clear q0 q1 q2
        go_loopw [7, 29] (fun o i wr => ∃ k : Nat, k ≤ M.rel.length ∧ i = .int .i64 k ∧ Ext w wr ∧ GatV wr w.heap.size o (gat j M.rel gn k)) (fun _ i _ => M.rel.length - (intOf i).toNat)
        case atStart => exact ⟨0, Nat.zero_le _, rfl, HE.out.trans hE1, rfl⟩
        case round =>
          obtain ⟨k, hk, rfl, hE, hgv⟩ := hrel
          by_cases hlt : k < M.rel.length
          · obtain ⟨b, off, a', c', rfl, hb0, hc0, hu0⟩ := HR.out.rel.get hlt
            have hc := hE.cell hc0
            have hu := hu0.ext hE
            have HU0 := Lib.hid hu0
            clear hc0 hu0
            have hlen : (nth M.rel k).length = n := HOK.out.row _ (by rw [nth_eq _ _ hlt]; exact List.getElem_mem _)
            cases hbit : gn.testBit k
            · have hs : gat j M.rel gn (k + 1) = gat j M.rel gn k := by rw [gat, if_neg (by simp [hbit])]
              have HS := Lib.hid hs
              have HG := Lib.hid hgv
              clear hs hgv
              go_wp2
              go_roundw
              case rel => exact ⟨k + 1, hlt, by go_num, hE, by rw [HS.out]; exact HG.out⟩
              case measure => simp [intOf]; omega
            · cases hx : gat j M.rel gn k with
              | none =>
                have hs : gat j M.rel gn (k + 1) = some (nth M.rel k) := by rw [gat, if_pos hbit, hx]
                have HS := Lib.hid hs
                rw [hx] at hgv
                have hgv : u7 = .slice none 0 0 := hgv
                subst hgv
                obtain ⟨b2, off2, rfl, _⟩ := hu.get (k := 0) (by omega)
                have HU := Lib.hid hu
                have HLN := Lib.hid hlen
                clear hs hx hu hlen
                go_wp2_with (go_at_call 99; refine (clone_u _ _ _ _ HU.out (by rw [HLN.out]; omega)).mono ?_; rintro e w2 ⟨⟨v, rfl, hou⟩, hE2⟩)
                go_roundw
                case rel => exact ⟨k + 1, hlt, by go_num, hE.trans hE2, by rw [HS.out]; exact hou.mono hE.size⟩
                case measure => simp [intOf]; omega
              | some x =>
                have hxl : x.length = n := gat_len j M.rel gn n HOK.out.row k hk x hx
                have hs : gat j M.rel gn (k + 1) = some (List.zipWith j x (nth M.rel k)) := by rw [gat, if_pos hbit, hx]
                have HS := Lib.hid hs
                rw [hx] at hgv
                have hou : OU wr w.heap.size u7 x := hgv
                obtain ⟨xa, xc, hv, _⟩ := RU_of_OU hou (by omega)
                rw [hxl] at hv
                subst hv
                have hou0 := hou
                obtain ⟨xg, rfl, _⟩ := OU.set' (k := 0) hou0 hxl (by omega) 0#64
                have HX := Lib.hid hxl
                have HLN := Lib.hid hlen
                have HOU := Lib.hid hou
                have hxy : x.length = (nth M.rel k).length := by omega
                have HXY := Lib.hid hxy
                clear hs hx hu hlen hxl hou hou0 hgv hxy
                go_wp2
                go_loopw [45] (fun i wr => ∃ k2 : Nat, k2 ≤ n ∧ i = .int .i64 k2 ∧ Ext w wr ∧ OU wr w.heap.size (.slice (some ⟨xg, 0, none⟩) n xc) (mix j x (nth M.rel k) k2)) (fun i _ => n - (intOf i).toNat)
                case atStart => exact ⟨0, Nat.zero_le _, rfl, hE, by rw [mix_zero]; exact HOU.out⟩
                case round =>
                  obtain ⟨k2, hk2, rfl, hE3, hou⟩ := hrel
                  have hmx := mix_length j x (nth M.rel k) HXY.out k2 (by rw [HX.out]; exact hk2)
                  rw [HX.out] at hmx
                  by_cases hlt2 : k2 < n
                  · obtain ⟨rb, roff, rfl, rbl, hrc⟩ := (HU0.out.ext hE3).get (k := k2) (by rw [HLN.out]; exact hlt2)
                    obtain ⟨xg2, hxg, hgb, hgl, hgf, _, hset⟩ := OU.set' hou hmx hlt2 (j (nth x k2) (nth (nth M.rel k) k2))
                    simp only [Option.some.injEq, Addr.mk.injEq] at hxg
                    obtain ⟨rfl, _⟩ := hxg
                    have hyu := RU_of_OU' hou hmx (by omega)
                    obtain ⟨yb, yoff, hyb, _, hyc⟩ := hyu.get (k := k2) (by omega)
                    simp only [Option.some.injEq, Addr.mk.injEq] at hyb
                    obtain ⟨rfl, rfl, _⟩ := hyb
                    rw [mix_nth j x _ HXY.out k2 (by rw [HX.out]; exact hlt2), Nat.zero_add] at hyc
                    rw [mix_step j x _ HXY.out k2 (by rw [HX.out]; exact hlt2)] at hset
                    have hrn : k2 < (nth M.rel k).length := by rw [HLN.out]; exact hlt2
                    have HSET := Lib.hid hset
                    have HRC := Lib.hid hou
                    clear hset hou hyu hmx
                    go_wp2
                    refine wp_region_still_tail 13 (by kernel_rfl) (by kernel_rfl) ?_
                    simp only [List.take_succ_cons, List.take_zero, List.drop_succ_cons, List.drop_zero]
                    repeat still_step
                    still_call (HP.out _ _ _)
                    repeat still_step
                    refine wpStill_nil ?_
                    have hgf2 : wr.drew.frozen? ⟨xg, k2, none⟩ = false := hgf
                    have hyc2 : wr.drew.cell? ⟨xg, k2, none⟩ = some (.int .u64 (un (nth x k2))) := hyc
                    have HED := Lib.hid hE3.drew
                    change wpList _ _ _ _ _ wr.drew
                    have HSET2 : Hid (OU (wr.drew.setCell ⟨xg, k2, none⟩ (uv (j (nth x k2) (nth (nth M.rel k) k2)))) w.heap.size (.slice (some ⟨xg, 0, none⟩) n xc) (mix j x (nth M.rel k) (k2 + 1))) := HSET.out
                    generalize wr.drew = wd at HED HSET2 hgf2 hyc2 ⊢
                    clear hgf hyc hrc
                    go_wp2
                    go_roundw
                    case rel => exact ⟨k2 + 1, hlt2, by go_num, HED.out.setCell hgb _, HSET2.out⟩
                    case measure => simp [intOf]; omega
                  · obtain rfl : k2 = n := by omega
                    have HM := Lib.hid hou
                    clear hou hmx
                    go_wp2
                    go_roundw
                    case rel =>
                      refine ⟨k + 1, hlt, by go_num, hE3, ?_⟩
                      rw [HS.out]
                      show OU _ _ _ _
                      have := HM.out
                      rw [← HX.out, mix_all j x _ HXY.out] at this
                      rw [← HX.out]
                      exact this
                    case measure => simp [intOf]; omega
          · go_wp2
            go_ret
            obtain rfl : k = M.rel.length := by omega
            cases hx : gat j M.rel gn M.rel.length with
            | none =>
              rw [hx] at hgv
              have hgv : u7 = .slice none 0 0 := hgv
              subst hgv
              rw [HN.out, hx]
              exact ⟨⟨_, rfl, World.ownsRow_nil _ _ _ _⟩, hE⟩
            | some x =>
              rw [hx] at hgv
              rw [HN.out, hx]
              exact ⟨⟨_, rfl, hgv⟩, hE⟩
      · have hn : gather j M gn = [] := by unfold gather isGroup; rw [if_neg (by simp [h3])]
        have HN := Lib.hid hn
        have H1 := Lib.hid h1
        have HE := Lib.hid hE0
        have hrl : M.rel.length < 63 := by have := hok.rel; omega
        obtain ⟨m0, m1, m2⟩ := MoBox.new w M.worlds M.val M.rel va vc ra rc 25
        clear hn h1 hp hE0 hok
        go_enter Tryz.func79, Tryz.ntmps79
        go_wp2_with (go_at_call 24; refine (modelCheck_any M va ra vc rc _ hr0).mono ?_; rintro e w1 ⟨rfl, hE1⟩; rw [H1.out]; have q0 := hE1.cell m0; have q1 := hE1.cell m1; have q2 := hE1.cell m2; clear m0 m1 m2)
        go_ret
        rw [HN.out]
        exact ⟨⟨_, rfl, World.ownsRow_nil _ _ _ _⟩, HE.out.trans hE1⟩
  · have hn : gather j M g = [] := by unfold gather isGroup; rw [if_neg (by simp [h1])]
    have HN := Lib.hid hn
    have hq : (moCheck M != 0) = true := by simp [h1]
    have HE := Lib.hid hE0
    clear hn h1 hp hE0
    go_enter Tryz.func79, Tryz.ntmps79
    go_wp2_with (go_at_call 24; refine (modelCheck_any M va ra vc rc _ hr0).mono ?_; rintro e w1 ⟨rfl, hE1⟩)
    go_ret
    rw [HN.out]
    exact ⟨⟨_, rfl, World.ownsRow_nil _ _ _ _⟩, HE.out.trans hE1⟩

set_option maxHeartbeats 1000000 in
theorem meet1_any (W : World) (x y : BitVec 64) : Calls Tryz.prog 80 #[.int .u64 (un x), .int .u64 (un y)] W fun e w' => e = .returned (.int .u64 (un (x &&& y))) ∧ w' = W := by
  go_enter Tryz.func80, Tryz.ntmps80
  go_wp2
  go_ret
  exact ⟨rfl, rfl⟩
set_option maxHeartbeats 1000000 in
theorem group1_any (W : World) (x y : BitVec 64) : Calls Tryz.prog 81 #[.int .u64 (un x), .int .u64 (un y)] W fun e w' => e = .returned (.int .u64 (un (x ||| y))) ∧ w' = W := by
  go_enter Tryz.func81, Tryz.ntmps81
  go_wp2
  go_ret
  exact ⟨rfl, rfl⟩
theorem cf_meet1 (args : Array Value) (W : World) : (callFunc 80 args).run Tryz.prog W = .ok (.enter 80 args) W := by
  simp [callFunc, Tryz.func80, Tryz.f80]
theorem cf_group1 (args : Array Value) (W : World) : (callFunc 81 args).run Tryz.prog W = .ok (.enter 81 args) W := by
  simp [callFunc, Tryz.func81, Tryz.f81]
/-- A slice of sets, which may be nil, holds a list. -/
def RetU (l : List (BitVec 64)) (e : Ending) (w w' : World) : Prop := ∃ a c, e = .returned (.slice a l.length c) ∧ RU w' a l ∧ Ext w w'
def meetOf (M : Mo) (g : Int) : List (BitVec 64) := gather (fun x y => x &&& y) M g
def groupOf (M : Mo) (g : Int) : List (BitVec 64) := gather (fun x y => x ||| y) M g
theorem gather_len (j : BitVec 64 → BitVec 64 → BitVec 64) (M : Mo) (g : Int) : (gather j M g).length ≤ 64 := by
  unfold gather isGroup
  by_cases h : moCheck M = 0 ∧ 1 ≤ g ∧ g < p2 M.rel.length
  · rw [if_pos (by simp [h])]
    obtain ⟨n, ok⟩ := moCheck_ok h.1
    cases hx : gat j M.rel g.toNat M.rel.length with
    | none => simp
    | some x => simp only [Option.getD_some]; rw [gat_len j M.rel g.toNat n ok.row _ (Nat.le_refl _) x hx]; exact ok.most
  · rw [if_neg (by simp [h])]; simp
set_option maxHeartbeats 1000000 in
theorem meet_any (M : Mo) (va ra : Option Addr) (vc rc : Nat) (g : Int) (w : World) (hr : RM w va ra M) :
    Calls Tryz.prog 52 #[.agg #[.int .i64 M.worlds, .slice va M.val.length vc, .slice ra M.rel.length rc], .int .i64 g] w fun e w' => RetU (meetOf M g) e w w' := by
  have H := Lib.hid (fun W (h : RM W va ra M) => gather_any 80 (fun x y => x &&& y) M va ra vc rc g W h cf_meet1 meet1_any)
  have hr0 := hr.ext ((Ext.refl w).alloc (.cells #[.int .i64 M.worlds, .slice va M.val.length vc, .slice ra M.rel.length rc] 25))
  go_enter Tryz.func52, Tryz.ntmps52
  go_wp2_with (go_at_call 79; refine (H.out _ hr0).mono ?_; rintro e w1 ⟨⟨v, rfl, hv⟩, hE⟩)
  obtain ⟨a, c, rfl, hu⟩ := RU_of_OU hv (by have := gather_len (fun x y => x &&& y) M g; omega)
  go_ret
  exact ⟨a, c, rfl, hu, ((Ext.refl w).alloc _).trans hE⟩
set_option maxHeartbeats 1000000 in
theorem group_any (M : Mo) (va ra : Option Addr) (vc rc : Nat) (g : Int) (w : World) (hr : RM w va ra M) :
    Calls Tryz.prog 53 #[.agg #[.int .i64 M.worlds, .slice va M.val.length vc, .slice ra M.rel.length rc], .int .i64 g] w fun e w' => RetU (groupOf M g) e w w' := by
  have H := Lib.hid (fun W (h : RM W va ra M) => gather_any 81 (fun x y => x ||| y) M va ra vc rc g W h cf_group1 group1_any)
  have hr0 := hr.ext ((Ext.refl w).alloc (.cells #[.int .i64 M.worlds, .slice va M.val.length vc, .slice ra M.rel.length rc] 25))
  go_enter Tryz.func53, Tryz.ntmps53
  go_wp2_with (go_at_call 79; refine (H.out _ hr0).mono ?_; rintro e w1 ⟨⟨v, rfl, hv⟩, hE⟩)
  obtain ⟨a, c, rfl, hu⟩ := RU_of_OU hv (by have := gather_len (fun x y => x ||| y) M g; omega)
  go_ret
  exact ⟨a, c, rfl, hu, ((Ext.refl w).alloc _).trans hE⟩
end Wt

/- Plain: bits of sets, boxes, common knowledge as an iteration, the value of a node, the value of a tree. -/
namespace Wt
open Go Go.RowKit Go.Proofs Fm

section
variable (s t : BitVec 64) (k : Nat)
theorem bt_ext {s t : BitVec 64} (h : ∀ k, k < 64 → bt s k = bt t k) : s = t := BitVec.eq_of_getLsbD_eq h
theorem bt_ge (h : 64 ≤ k) : bt s k = false := BitVec.getLsbD_of_ge s k h
theorem bt_and : bt (s &&& t) k = (bt s k && bt t k) := by simp [bt]
theorem bt_or : bt (s ||| t) k = (bt s k || bt t k) := by simp [bt]
theorem bt_xor : bt (s ^^^ t) k = (bt s k ^^ bt t k) := by simp [bt]
theorem bt_not : bt (~~~ s) k = (decide (k < 64) && !bt s k) := by simp [bt]
theorem bt_zero : bt 0#64 k = false := by simp [bt]
theorem bt_shl1 (n : Nat) : bt (1#64 <<< n) k = (decide (k < 64) && decide (k = n)) := by
  simp only [bt, BitVec.getLsbD_shiftLeft, BitVec.getLsbD_one]
  rw [Bool.eq_iff_iff]; simp; omega
theorem bt_max : bt 18446744073709551615#64 k = decide (k < 64) := by
  have e : (18446744073709551615#64 : BitVec 64) = BitVec.allOnes 64 := by decide
  unfold bt; rw [e, BitVec.getLsbD_allOnes]
theorem bt_allW (n : Nat) : bt (allW n) k = (decide (k < 64) && decide (k < n)) := by
  unfold allW
  split
  · rw [bt_max, Bool.eq_iff_iff]; simp; omega
  · have e : ((1#64 <<< n) - 1#64 : BitVec 64).toNat = 2 ^ n - 1 := by
      have h2 : 2 ^ n < 2 ^ 64 := Nat.pow_lt_pow_right (by omega) (by omega)
      have h3 : 0 < 2 ^ n := Nat.pos_of_ne_zero (by simp)
      rw [BitVec.toNat_sub, BitVec.toNat_shiftLeft]
      simp only [BitVec.toNat_ofNat, Nat.shiftLeft_eq]
      rw [show 1 % 2 ^ 64 = 1 from rfl, Nat.one_mul, Nat.mod_eq_of_lt h2]
      omega
    unfold bt
    rw [← BitVec.testBit_toNat, e, Nat.testBit_two_pow_sub_one, Bool.eq_iff_iff]; simp; omega
/-- One set within another. -/
def Sub (s t : BitVec 64) : Prop := ∀ k, k < 64 → bt s k = true → bt t k = true
theorem Sub.refl : Sub s s := fun _ _ h => h
theorem Sub.trans {s t u : BitVec 64} (h : Sub s t) (h2 : Sub t u) : Sub s u := fun k hk hb => h2 k hk (h k hk hb)
theorem Sub.antisymm {s t : BitVec 64} (h : Sub s t) (h2 : Sub t s) : s = t := bt_ext fun k hk => by rw [Bool.eq_iff_iff]; exact ⟨h k hk, h2 k hk⟩
theorem andNot_zero {s t : BitVec 64} : s &&& ~~~ t = 0#64 ↔ Sub s t := by
  constructor
  · intro h k hk hb
    have := congrArg (fun x => bt x k) h
    simp only [bt_and, bt_not, bt_zero] at this
    simpa [hb, hk] using this
  · intro h
    refine bt_ext fun k hk => ?_
    rw [bt_and, bt_not, bt_zero]
    have := h k hk
    cases hs : bt s k
    · simp
    · simp [this hs]
theorem sub_toNat {s t : BitVec 64} (h : Sub s t) : s.toNat ≤ t.toNat := by
  have : s = s &&& t := bt_ext fun k hk => by
    rw [bt_and]
    have := h k hk
    cases hs : bt s k
    · simp
    · simp [this hs]
  rw [this, BitVec.toNat_and]
  exact Nat.and_le_right
end
theorem sub_toNat_lt {s t : BitVec 64} (h : Sub s t) (hn : s ≠ t) : s.toNat < t.toNat := by
  have h1 := sub_toNat h
  have h2 : s.toNat ≠ t.toNat := fun e => hn (BitVec.eq_of_toNat_eq e)
  omega

theorem bt_boxTo (r : List (BitVec 64)) (s : BitVec 64) : ∀ n k, k < 64 → bt (boxTo r s n) k = (decide (k < n) && (nth r k &&& ~~~ s == 0#64))
  | 0, k, _ => by simp [boxTo, bt_zero]
  | n + 1, k, hk => by
    unfold boxTo
    by_cases e : k = n
    · subst e
      by_cases h : (nth r k &&& ~~~ s) = 0#64
      · rw [if_pos h, bt_or, bt_shl1, h]; simp [hk]
      · rw [if_neg h, bt_boxTo r s k k hk]; simp [h]
    · by_cases h : (nth r n &&& ~~~ s) = 0#64
      · rw [if_pos h, bt_or, bt_shl1, bt_boxTo r s n k hk, Bool.eq_iff_iff]; simp [e]; omega
      · rw [if_neg h, bt_boxTo r s n k hk, Bool.eq_iff_iff]; simp; omega
theorem bt_relBox (r : List (BitVec 64)) (s : BitVec 64) (k : Nat) (hk : k < 64) : bt (relBox r s) k = (decide (relCheck r = 0) && decide (k < r.length) && (nth r k &&& ~~~ s == 0#64)) := by
  unfold relBox
  by_cases h : relCheck r = 0
  · rw [if_pos h, bt_boxTo r s _ k hk]; simp [h]
  · rw [if_neg h, bt_zero]; simp [h]
theorem relBox_mono (r : List (BitVec 64)) {s t : BitVec 64} (h : Sub s t) : Sub (relBox r s) (relBox r t) := by
  intro k hk
  rw [bt_relBox _ _ _ hk, bt_relBox _ _ _ hk]
  simp only [Bool.and_eq_true, decide_eq_true_eq, beq_iff_eq, andNot_zero]
  rintro ⟨h1, h2⟩
  exact ⟨h1, h2.trans h⟩

/-- One step of common knowledge. -/
def cmnF (r : List (BitVec 64)) (n : Nat) (c s o : BitVec 64) : BitVec 64 := relBox r ((allW n &&& ~~~ c) ||| (s &&& o))
def cmnI (r : List (BitVec 64)) (n : Nat) (c s : BitVec 64) : Nat → BitVec 64
  | 0 => allW n
  | k + 1 => cmnF r n c s (cmnI r n c s k)
theorem cmnF_mono (r : List (BitVec 64)) (n : Nat) (c s : BitVec 64) {x y : BitVec 64} (h : Sub x y) : Sub (cmnF r n c s x) (cmnF r n c s y) := by
  refine relBox_mono r fun k hk => ?_
  rw [bt_or, bt_or, bt_and s, bt_and s]
  have := h k hk
  simp only [Bool.or_eq_true, Bool.and_eq_true]
  rintro (h1 | ⟨h1, h2⟩)
  · exact .inl h1
  · exact .inr ⟨h1, this h2⟩
theorem cmnI_step (r : List (BitVec 64)) (n : Nat) (hr : r.length ≤ n) (c s : BitVec 64) : ∀ k, Sub (cmnI r n c s (k + 1)) (cmnI r n c s k)
  | 0 => by
    intro k hk h
    show bt (allW n) k = true
    rw [bt_allW]
    have h2 : bt (cmnF r n c s (allW n)) k = true := h
    unfold cmnF at h2
    rw [bt_relBox _ _ _ hk] at h2
    simp only [Bool.and_eq_true, decide_eq_true_eq] at h2 ⊢
    exact ⟨hk, by omega⟩
  | k + 1 => cmnF_mono r n c s (cmnI_step r n hr c s k)
/-- How many worlds a set has. -/
def pop (s : BitVec 64) : Nat := (List.range 64).countP (fun i => bt s i)
theorem countP_lt : ∀ (l : List Nat) (p q : Nat → Bool), (∀ i ∈ l, p i = true → q i = true) → (∃ i ∈ l, q i = true ∧ p i = false) → l.countP p < l.countP q
  | [], _, _, _, h => by obtain ⟨i, hi, _⟩ := h; simp at hi
  | a :: l, p, q, h, he => by
    rw [List.countP_cons, List.countP_cons]
    have hle : l.countP p ≤ l.countP q := List.countP_mono_left fun i hi => h i (by simp [hi])
    by_cases ha : q a = true ∧ p a = false
    · rw [ha.1, ha.2]; simp; omega
    · have hlt : l.countP p < l.countP q := countP_lt l p q (fun i hi => h i (by simp [hi])) (by
        obtain ⟨i, hi, h1⟩ := he
        rcases List.mem_cons.1 hi with rfl | hi
        · exact absurd h1 ha
        · exact ⟨i, hi, h1⟩)
      have := h a (by simp)
      cases hp : p a
      · simp; omega
      · rw [this hp]; simp; omega
theorem pop_lt {s t : BitVec 64} (h : Sub s t) (hn : s ≠ t) : pop s < pop t := by
  refine countP_lt _ _ _ (fun i hi => h i (by simpa using hi)) ?_
  apply Classical.byContradiction
  intro hc
  refine hn (h.antisymm fun k hk hb => ?_)
  apply Classical.byContradiction
  intro h2
  exact hc ⟨k, by simpa using hk, hb, by simpa using h2⟩
theorem pop_le (s : BitVec 64) : pop s ≤ 64 := by
  have := List.countP_le_length (p := fun i => bt s i) (l := List.range 64)
  simpa [pop] using this
/-- The number of worlds of the first n. -/
theorem pop_allW (n : Nat) : pop (allW n) ≤ n := by
  have h : ∀ m, (List.range m).countP (fun i => bt (allW n) i) ≤ n ∧ (List.range m).countP (fun i => bt (allW n) i) ≤ m := by
    intro m
    induction m with
    | zero => simp
    | succ m ih =>
      rw [List.range_succ, List.countP_append, List.countP_singleton, bt_allW]
      split
      · rename_i h; simp at h; omega
      · omega
  exact (h 64).1
theorem cmnI_stop (r : List (BitVec 64)) (n : Nat) (hr : r.length ≤ n) (c s : BitVec 64) : ∀ k, cmnI r n c s (k + 1) = cmnI r n c s k ∨ pop (cmnI r n c s (k + 1)) + (k + 1) ≤ n
  | 0 => by
    by_cases h : cmnI r n c s 1 = cmnI r n c s 0
    · exact .inl h
    · have := pop_lt (cmnI_step r n hr c s 0) h
      have h2 : pop (cmnI r n c s 0) ≤ n := pop_allW n
      exact .inr (by omega)
  | k + 1 => by
    rcases cmnI_stop r n hr c s k with h | h
    · exact .inl (by rw [cmnI, h]; exact h)
    · by_cases h2 : cmnI r n c s (k + 1 + 1) = cmnI r n c s (k + 1)
      · exact .inl h2
      · have := pop_lt (cmnI_step r n hr c s (k + 1)) h2
        exact .inr (by omega)
theorem cmnI_const (r : List (BitVec 64)) (n : Nat) (c s : BitVec 64) (k : Nat) (h : cmnI r n c s (k + 1) = cmnI r n c s k) : ∀ j, cmnI r n c s (k + j) = cmnI r n c s k
  | 0 => rfl
  | j + 1 => by
    have := cmnI_const r n c s k h j
    rw [show k + (j + 1) = (k + j) + 1 by omega, cmnI, this]; exact h
/-- After n steps nothing changes. -/
theorem cmnI_fix (r : List (BitVec 64)) (n : Nat) (hr : r.length ≤ n) (c s : BitVec 64) : cmnI r n c s (n + 1) = cmnI r n c s n := by
  rcases cmnI_stop r n hr c s n with h | h
  · exact h
  · omega
/-- Common knowledge. -/
def cmn (r : List (BitVec 64)) (n : Nat) (c s : BitVec 64) : BitVec 64 := cmnI r n c s n
theorem cmn_of (r : List (BitVec 64)) (n : Nat) (hr : r.length ≤ n) (c s : BitVec 64) (k : Nat) (h : cmnI r n c s (k + 1) = cmnI r n c s k) : cmnI r n c s k = cmn r n c s := by
  have h1 := cmnI_const r n c s k h (n)
  have h2 := cmnI_const r n c s n (cmnI_fix r n hr c s) k
  unfold cmn
  rw [← h1, ← h2, Nat.add_comm]

theorem gather_le (j : BitVec 64 → BitVec 64 → BitVec 64) (M : Mo) (g : Int) {N : Nat} (ok : MoOk M N) : (gather j M g).length ≤ N := by
  unfold gather isGroup
  split
  · cases hx : gat j M.rel g.toNat M.rel.length with
    | none => simp
    | some x => simp only [Option.getD_some]; rw [gat_len j M.rel g.toNat N ok.row _ (Nat.le_refl _) x hx]; exact Nat.le_refl _
  · simp
/-- The set of a node, given those of its operands; false if it is not static or does not fit. -/
def valN (M : Mo) (o i g : Int) (x y : BitVec 64) : BitVec 64 × Bool :=
  if o = 1 then (allW M.worlds.toNat, true)
  else if o = 2 then (0#64, true)
  else if o = 3 then if (M.val.length : Int) ≤ i then (0#64, false) else (nth M.val i.toNat, true)
  else if o = 4 then (allW M.worlds.toNat &&& ~~~ x, true)
  else if o = 5 then (x &&& y, true)
  else if o = 6 then (x ||| y, true)
  else if o = 7 then ((allW M.worlds.toNat &&& ~~~ x) ||| y, true)
  else if o = 8 then (allW M.worlds.toNat &&& ~~~ (x ^^^ y), true)
  else if o = 9 then if (M.rel.length : Int) ≤ i then (0#64, false) else (relBox (nth M.rel i.toNat) x, true)
  else if o = 10 then if (M.rel.length : Int) ≤ i then (0#64, false) else (relDia (nth M.rel i.toNat) x, true)
  else if o = 11 then if p2 M.rel.length ≤ g then (0#64, false) else (relBox (groupOf M g) x, true)
  else if o = 12 then if p2 M.rel.length ≤ g then (0#64, false) else (relBox (meetOf M g) x, true)
  else if o = 13 then if p2 M.rel.length ≤ g then (0#64, false) else (cmn (groupOf M g) M.worlds.toNat x y, true)
  else (0#64, false)
/-- The set of a tree. -/
def semT (M : Mo) : Fm → BitVec 64 × Bool
  | .leaf o i _ g => valN M o i g 0#64 0#64
  | .un o i _ g x => if (semT M x).2 then valN M o i g (semT M x).1 0#64 else (0#64, false)
  | .bin o i _ g x y => if (semT M x).2 && (semT M y).2 then valN M o i g (semT M x).1 (semT M y).1 else (0#64, false)
end Wt
