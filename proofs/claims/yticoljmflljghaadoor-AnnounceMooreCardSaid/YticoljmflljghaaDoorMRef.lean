/- Walks: wittingref17.Box, Paths, common, Boolean. -/
import Derived.Test.YticoljmflljghaaDoorMBld
import Derived.Test.YticoljmflljghaaDoorMFmJ
import Derived.Test.YticoljmflljghaaDoorMTz
import Derived.Test.YticoljmflljghaaDoorMFmH
import Derived.Test.YticoljmflljghaaDoorMCkA
import Derived.Laws.StructEq
import Derived.Deep.RegionHeld3
import Derived.Deep.RegionLaw
import Derived.Deep.AppendLies
import Derived.Test.YticoljmflljghaaDoorMCkC
import Derived.Deep.QuietTactic
import Derived.BigQuiet
namespace Wt
open Go Go.RowKit Go.Proofs

/-- The inner rounds of Paths. -/
def pIn (r : List (BitVec 64)) (c : BitVec 64) : Nat → BitVec 64 → BitVec 64
  | 0, s => s
  | k + 1, s => if bt (pIn r c k s) k then pIn r c k s ||| (nth r k &&& c) else pIn r c k s
theorem pIn_yes {r : List (BitVec 64)} {c : BitVec 64} {q : Nat} {S : BitVec 64} (h : bt (pIn r c q S) q = true) : pIn r c (q + 1) S = pIn r c q S ||| (nth r q &&& c) := by
  show (if bt (pIn r c q S) q then _ else _) = _
  rw [if_pos h]
theorem pIn_no {r : List (BitVec 64)} {c : BitVec 64} {q : Nat} {S : BitVec 64} (h : bt (pIn r c q S) q = false) : pIn r c (q + 1) S = pIn r c q S := by
  show (if bt (pIn r c q S) q then _ else _) = _
  rw [if_neg (by simp [h])]
def pOut (r : List (BitVec 64)) (n : Nat) (c s : BitVec 64) : Nat → BitVec 64
  | 0 => s
  | i + 1 => pIn r c n (pOut r n c s i)
def paths (r : List (BitVec 64)) (n k : Nat) (c : BitVec 64) : BitVec 64 := pOut r n c (nth r k &&& c) n
/-- The worlds below k from which all paths through a condition lead to a set. -/
def comTo (r : List (BitVec 64)) (n : Nat) (c s : BitVec 64) : Nat → BitVec 64
  | 0 => 0#64
  | k + 1 => if (paths r n k c &&& ~~~ s) = 0#64 then comTo r n c s k ||| 1#64 <<< k else comTo r n c s k
/-- The set of a propositional node. -/
def boolN (o : Int) (x y all : BitVec 64) : BitVec 64 :=
  if o = 1 then all else if o = 4 then all &&& ~~~ x else if o = 5 then x &&& y else if o = 6 then x ||| y else if o = 7 then (all &&& ~~~ x) ||| y else if o = 8 then all &&& ~~~ (x ^^^ y) else 0#64
end Wt

/- Plain laws: common knowledge by paths; boxes; a tree's set is there exactly if its fragments and its agents and facts fit. -/
namespace Wt
open Fm

section
variable {r : List (BitVec 64)} {c s : BitVec 64} {n : Nat}
theorem pIn_sup : ∀ k, Sub s (pIn r c k s)
  | 0 => Sub.refl _
  | k + 1 => by
    rcases h : bt (pIn r c k s) k with _ | _
    · rw [pIn_no h]; exact pIn_sup k
    · rw [pIn_yes h]; exact (pIn_sup k).trans (Sub.orL _ _)
theorem pIn_step (k : Nat) : Sub (pIn r c k s) (pIn r c (k + 1) s) := by
  rcases h : bt (pIn r c k s) k with _ | _
  · rw [pIn_no h]; exact Sub.refl _
  · rw [pIn_yes h]; exact Sub.orL _ _
theorem pIn_mono (j : Nat) : ∀ d, Sub (pIn r c j s) (pIn r c (j + d) s)
  | 0 => Sub.refl _
  | d + 1 => (pIn_mono j d).trans (pIn_step (j + d))
theorem pIn_inv {X : BitVec 64} {m : Nat} (hm : m ≤ 64) (hX : ∀ v, v < m → bt X v = true → Sub (nth r v &&& c) X) (h0 : Sub s X) : ∀ k, k ≤ m → Sub (pIn r c k s) X
  | 0, _ => h0
  | k + 1, hk => by
    have ih := pIn_inv hm hX h0 k (by omega)
    rcases h : bt (pIn r c k s) k with _ | _
    · rw [pIn_no h]; exact ih
    · rw [pIn_yes h]; exact Sub.or ih (hX k (by omega) (ih k (by omega) h))
theorem pOut_inv {X : BitVec 64} (hn : n ≤ 64) (hX : ∀ v, v < n → bt X v = true → Sub (nth r v &&& c) X) (h0 : Sub s X) : ∀ i, Sub (pOut r n c s i) X
  | 0 => h0
  | i + 1 => pIn_inv hn hX (pOut_inv hn hX h0 i) n (Nat.le_refl _)
theorem pOut_sup : ∀ i, Sub s (pOut r n c s i)
  | 0 => Sub.refl _
  | i + 1 => (pOut_sup i).trans (pIn_sup n)
theorem pIn_closed (h : pIn r c n s = s) {v : Nat} (hv : v < n) (hb : bt s v = true) : Sub (nth r v &&& c) s := by
  have h1 : pIn r c v s = s := by
    have := pIn_mono (r := r) (c := c) (s := s) v (n - v)
    rw [show v + (n - v) = n by omega, h] at this
    exact Sub.antisymm this (pIn_sup v)
  have h2 : Sub (pIn r c (v + 1) s) s := by
    have := pIn_mono (r := r) (c := c) (s := s) (v + 1) (n - (v + 1))
    rw [show v + 1 + (n - (v + 1)) = n by omega, h] at this
    exact this
  rw [pIn_yes (by rw [h1]; exact hb), h1] at h2
  exact (Sub.orR _ _).trans h2
theorem pOut_stop : ∀ i, pOut r n c s (i + 1) = pOut r n c s i ∨ i + 1 ≤ pop (pOut r n c s (i + 1))
  | 0 => by
    by_cases h : pOut r n c s 1 = pOut r n c s 0
    · exact .inl h
    · have := pop_lt (pIn_sup (r := r) (c := c) (s := pOut r n c s 0) n) (Ne.symm h)
      exact .inr (by show 0 + 1 ≤ pop (pIn r c n (pOut r n c s 0)); omega)
  | i + 1 => by
    rcases pOut_stop i with h | h
    · exact .inl (by show pIn r c n (pOut r n c s (i + 1)) = _; rw [h]; exact h)
    · by_cases h2 : pOut r n c s (i + 1 + 1) = pOut r n c s (i + 1)
      · exact .inl h2
      · have := pop_lt (pIn_sup (r := r) (c := c) (s := pOut r n c s (i + 1)) n) (Ne.symm h2)
        exact .inr (by show i + 1 + 1 ≤ pop (pIn r c n (pOut r n c s (i + 1))); omega)
theorem pop_mono {s t : BitVec 64} (h : Sub s t) : pop s ≤ pop t := by
  by_cases e : s = t
  · rw [e]; exact Nat.le_refl _
  · exact Nat.le_of_lt (pop_lt h e)
theorem pOut_fix (hn : n ≤ 64) (hrow : ∀ v, v < n → Sub (nth r v) (allW n)) (h0 : Sub s (allW n)) : pIn r c n (pOut r n c s n) = pOut r n c s n := by
  rcases pOut_stop (r := r) (c := c) (s := s) (n := n) n with h | h
  · exact h
  · have h1 : Sub (pOut r n c s (n + 1)) (allW n) := pOut_inv hn (fun v hv _ k hk hb => by
      rw [bt_and, Bool.and_eq_true] at hb
      exact hrow v hv k hk hb.1) h0 (n + 1)
    have h2 := pop_mono h1
    have h3 := pop_allW n
    omega
theorem paths_sup (k : Nat) : Sub (nth r k &&& c) (paths r n k c) := pOut_sup n
theorem paths_inv {X : BitVec 64} (hn : n ≤ 64) {k : Nat} (hX : ∀ v, v < n → bt X v = true → Sub (nth r v &&& c) X) (h0 : Sub (nth r k &&& c) X) : Sub (paths r n k c) X := pOut_inv hn hX h0 n
theorem paths_closed (hn : n ≤ 64) (hrow : ∀ v, v < n → Sub (nth r v) (allW n)) {k v : Nat} (hk : k < n) (hv : v < n) (hb : bt (paths r n k c) v = true) : Sub (nth r v &&& c) (paths r n k c) :=
  pIn_closed (pOut_fix hn hrow fun j hj h => by
    rw [bt_and, Bool.and_eq_true] at h
    exact hrow k hk j hj h.1) hv hb
theorem bt_comTo (m : Nat) {k : Nat} (hk : k < 64) : bt (comTo r n c s m) k = (decide (k < m) && (paths r n k c &&& ~~~ s == 0#64)) := by
  induction m with
  | zero => simp [comTo, bt_zero]
  | succ m ih =>
    by_cases h : (paths r n m c &&& ~~~ s) = 0#64
    · have e : comTo r n c s (m + 1) = comTo r n c s m ||| 1#64 <<< m := if_pos h
      rw [e, bt_or, bt_shl1, ih]
      by_cases hkm : k = m
      · subst hkm; rw [h]; simp [hk]
      · rw [Bool.eq_iff_iff]; simp [hkm]; omega
    · have e : comTo r n c s (m + 1) = comTo r n c s m := if_neg h
      rw [e, ih]
      by_cases hkm : k = m
      · subst hkm; simp [h]
      · rw [Bool.eq_iff_iff]; simp; omega
/-- Common knowledge: all paths through the condition lead to the set. -/
theorem comTo_cmn (hr : r.length = n) (hn : n ≤ 64) (hok : relCheck r = 0) (hrow : ∀ v, v < n → Sub (nth r v) (allW n)) : comTo r n c s n = cmn r n c s := by
  apply Sub.antisymm
  · -- into every round
    have key : ∀ j, Sub (comTo r n c s n) (cmnI r n c s j) := by
      intro j
      induction j with
      | zero =>
        intro k hk hb
        rw [bt_comTo n hk, Bool.and_eq_true, decide_eq_true_eq] at hb
        show bt (allW n) k = true
        rw [bt_allW]; simp [hk, hb.1]
      | succ j ih =>
        intro k hk hb
        have hb2 := hb
        rw [bt_comTo n hk, Bool.and_eq_true, decide_eq_true_eq, beq_iff_eq, andNot_zero] at hb2
        show bt (relBox r _) k = true
        rw [bt_relBox _ _ _ hk]
        simp only [Bool.and_eq_true, decide_eq_true_eq, beq_iff_eq, andNot_zero]
        refine ⟨⟨hok, by omega⟩, fun v hv hbv => ?_⟩
        have hvn : v < n := by
          have := hrow k hb2.1 v hv hbv
          rw [bt_allW] at this; simp at this; exact this.2
        rw [bt_or, bt_and, bt_and, bt_not, bt_allW]
        rcases hc : bt c v with _ | _
        · simp [hv, hvn]
        · have hvp : bt (paths r n k c) v = true := paths_sup k v hv (by rw [bt_and, hbv, hc]; rfl)
          have hvx : bt (comTo r n c s n) v = true := by
            rw [bt_comTo n hv, Bool.and_eq_true, decide_eq_true_eq, beq_iff_eq, andNot_zero]
            refine ⟨hvn, Sub.trans ?_ hb2.2⟩
            exact paths_inv hn (fun u hu hbu => paths_closed hn hrow hb2.1 hu hbu) (paths_closed hn hrow hb2.1 hvn hvp)
          have h1 := hb2.2 v hv hvp
          have h2 := ih v hv hvx
          rw [h1, h2]; simp
    exact key n
  · intro k hk hb
    have hG : cmnF r n c s (cmn r n c s) = cmn r n c s := cmnI_fix r n (by omega) c s
    have step : ∀ v, v < 64 → bt (cmn r n c s) v = true → v < n ∧ Sub (nth r v &&& c) (s &&& cmn r n c s) := by
      intro v hv hbv
      rw [← hG] at hbv
      have h1 : bt (relBox r ((allW n &&& ~~~ c) ||| (s &&& cmn r n c s))) v = true := hbv
      rw [bt_relBox _ _ _ hv] at h1
      simp only [Bool.and_eq_true, decide_eq_true_eq, beq_iff_eq, andNot_zero] at h1
      refine ⟨by omega, fun u hu hbu => ?_⟩
      rw [bt_and, Bool.and_eq_true] at hbu
      have := h1.2 u hu hbu.1
      rw [bt_or, bt_and, bt_not, hbu.2] at this
      simpa using this
    obtain ⟨hkn, h0⟩ := step k hk hb
    rw [bt_comTo n hk, Bool.and_eq_true, decide_eq_true_eq, beq_iff_eq, andNot_zero]
    refine ⟨hkn, Sub.trans (paths_inv (X := s &&& cmn r n c s) hn (fun v hv hbv => ?_) h0) fun v hv hbv => ?_⟩
    · rw [bt_and, Bool.and_eq_true] at hbv
      exact (step v (by omega) hbv.2).2
    · rw [bt_and, Bool.and_eq_true] at hbv
      exact hbv.1
end
end Wt

/- The state of wittingref05's walk (the canonical list so far, the numbers of the nodes that are done), and what a call of put does to it: plain facts. -/
namespace Wt
open Go Go.RowKit Go.Maps Go.Proofs Fm

theorem node_fields : (Tryd.prog.fieldsOf 68).toList.map (fun f => (f.name == "_", f.type, f.offset)) = [(false, 3, 0), (false, 3, 1), (false, 3, 2), (false, 3, 3), (false, 3, 4), (false, 3, 5)] := by kernel_rfl
theorem node_struct : Tryd.prog.underlying 68 = some (.struct (Tryd.prog.fieldsOf 68)) := by kernel_rfl
theorem node_held : Tryd.prog.stoodInHeld 68 = false := by kernel_rfl
theorem eqFields_ints {P : Program} {w : World} (d : Nat) (h3 : P.underlying 3 = some (.int .i64)) (hp3 : P.plainKey 3 = true) (xs ys : Array Value) : ∀ (fs : List Field) (o : Nat) (us bs : List Int), fs.map (fun f => (f.name == "_", f.type, f.offset)) = (List.range' o us.length).map (fun k => (false, 3, k)) →
    us.length = bs.length → (∀ k, k < us.length → xs[o + k]? = some (.int .i64 (us.getD k 0))) → (∀ k, k < us.length → ys[o + k]? = some (.int .i64 (bs.getD k 0))) →
    (Op.eqFields (d + 1) xs ys fs).run P w = .ok (decide (us = bs)) w
  | [], o, us, bs, hf, hl, _, _ => by
    have : us = [] := by cases us with | nil => rfl | cons a us => simp [List.range'] at hf
    subst this
    have : bs = [] := by cases bs with | nil => rfl | cons b bs => simp at hl
    subst this
    simp [Op.eqFields]
  | f :: fs, o, [], bs, hf, hl, _, _ => by simp at hf
  | f :: fs, o, a :: us, [], hf, hl, _, _ => by simp at hl
  | f :: fs, o, a :: us, b :: bs, hf, hl, hx, hy => by
    simp only [List.map_cons, List.length_cons, List.range'_succ, List.cons.injEq, Prod.mk.injEq] at hf
    obtain ⟨⟨h1, h2, h4⟩, hf⟩ := hf
    have ih := eqFields_ints (w := w) d h3 hp3 xs ys fs (o + 1) us bs hf (by simpa using hl) (fun k hk => by have := hx (k + 1) (by simp; omega); rw [show o + (k + 1) = o + 1 + k by omega] at this; simpa using this) (fun k hk => by have := hy (k + 1) (by simp; omega); rw [show o + (k + 1) = o + 1 + k by omega] at this; simpa using this)
    have hx0 := hx 0 (by simp)
    have hy0 := hy 0 (by simp)
    simp at hx0 hy0
    unfold Op.eqFields
    rw [if_pos (by simpa using h1), h2, h4]
    have p1 := run_part_plain (P := P) (w := w) (e := 3) (xs := xs) (off := o) hp3 hx0
    have p2 := run_part_plain (P := P) (w := w) (e := 3) (xs := ys) (off := o) hp3 hy0
    have p3 := run_equalIn_int (P := P) (w := w) d 3 .i64 .i64 a b h3
    simp only [Sem.run_bind, p1, p2, p3, Result.andThen]
    by_cases hab : a = b
    · subst hab
      simp [ih]
    · simp [hab]
theorem int_plain : Tryd.prog.plainKey 3 = true := by kernel_rfl
/-- Nodes are compared field by field. -/
theorem run_nd_eql (a b : Nd) (W : World) : (binOp .eql 68 a.val b.val).run Tryd.prog W = .ok (.bool (decide (a = b))) W := by
  have h := eqFields_ints (P := Tryd.prog) (w := W) 9998 Tryd.underlying3 int_plain #[.int .i64 a.op, .int .i64 a.i, .int .i64 a.e, .int .i64 a.g, .int .i64 a.x, .int .i64 a.y] #[.int .i64 b.op, .int .i64 b.i, .int .i64 b.e, .int .i64 b.g, .int .i64 b.x, .int .i64 b.y] (Tryd.prog.fieldsOf 68).toList 0 [a.op, a.i, a.e, a.g, a.x, a.y] [b.op, b.i, b.e, b.g, b.x, b.y] (by rw [node_fields]; rfl) rfl
    (fun k hk => by
      rcases (show k = 0 ∨ k = 1 ∨ k = 2 ∨ k = 3 ∨ k = 4 ∨ k = 5 by simp at hk; omega) with rfl | rfl | rfl | rfl | rfl | rfl <;> rfl)
    (fun k hk => by
      rcases (show k = 0 ∨ k = 1 ∨ k = 2 ∨ k = 3 ∨ k = 4 ∨ k = 5 by simp at hk; omega) with rfl | rfl | rfl | rfl | rfl | rfl <;> rfl)
  unfold Nd.val
  rw [run_eql_struct, run_equalIn_agg (P := Tryd.prog) (w := W) (t := 68) (ht := node_struct) (hp := node_held), h]
  have : decide (a = b) = decide ([a.op, a.i, a.e, a.g, a.x, a.y] = [b.op, b.i, b.e, b.g, b.x, b.y]) := by
    cases a; cases b; simp
  rw [this]
  rfl

/-- What may differ behind a call: the state's block, the numbers' block, the list's own block, and what is new. -/
structure FR (wb g : Nat) (v : Value) (W W' : World) (v' : Value) : Prop where
  size : W.heap.size ≤ W'.heap.size
  keep : ∀ k, k < W.heap.size → k ≠ wb → k ≠ g → some k ≠ v.ownBlock → W'.heap[k]? = W.heap[k]?
  own : v'.ownBlock = v.ownBlock ∨ ∀ b, v'.ownBlock = some b → W.heap.size ≤ b
theorem FR.refl (wb g : Nat) (v : Value) (W : World) : FR wb g v W W v := ⟨Nat.le_refl _, fun _ _ _ _ _ => rfl, .inl rfl⟩
theorem FR.trans {wb g : Nat} {v v1 v2 : Value} {W W1 W2 : World} (a : FR wb g v W W1 v1) (b : FR wb g v1 W1 W2 v2) : FR wb g v W W2 v2 where
  size := Nat.le_trans a.size b.size
  keep k h1 h2 h3 h4 := by
    have hne : some k ≠ v1.ownBlock := by
      rcases a.own with e | e
      · rw [e]; exact h4
      · intro e2
        have := e k e2.symm
        omega
    exact (b.keep k (Nat.lt_of_lt_of_le h1 a.size) h2 h3 hne).trans (a.keep k h1 h2 h3 h4)
  own := by
    rcases b.own with e | e
    · rw [e]; exact a.own
    · exact .inr fun g hg => Nat.le_trans a.size (e g hg)
theorem FR.ext {wb g : Nat} {v v1 : Value} {W W1 W2 : World} (a : FR wb g v W W1 v1) (b : Ext W1 W2) : FR wb g v W W2 v1 :=
  a.trans ⟨b.size, fun k h1 _ _ _ => b.block k h1, .inl rfl⟩
theorem FR.pre {wb g : Nat} {v v1 : Value} {W W1 W2 : World} (b : Ext W W1) (a : FR wb g v W1 W2 v1) : FR wb g v W W2 v1 :=
  FR.trans (v1 := v) ⟨b.size, fun k h1 _ _ _ => b.block k h1, .inl rfl⟩ a
/-- A block that lies apart from the state is as it was. -/
theorem FR.block {wb g : Nat} {v v1 : Value} {W W1 : World} (a : FR wb g v W W1 v1) {k : Nat} (h1 : k < W.heap.size) (h2 : k ≠ wb) (h3 : k ≠ g) (h4 : some k ≠ v.ownBlock) : W1.heap[k]? = W.heap[k]? := a.keep k h1 h2 h3 h4
theorem FR.xb {wb g : Nat} {v v1 : Value} {W W1 : World} (a : FR wb g v W W1 v1) {b : Nat} (hb : b < W.heap.size) (hv : some b ≠ v.ownBlock) : some b ≠ v1.ownBlock := by
  rcases a.own with e | e
  · rw [e]; exact hv
  · intro e2; have := e b e2.symm; omega

section
variable (w : World) (wb g c : Nat) (l : List Nd)
/-- The state of wittingref05's walk over a formula. -/
structure RS (W : World) (L : List Fm) (v : Value) (D : List Int) : Prop where
  lo : w.heap.size ≤ wb
  hi : wb < W.heap.size
  ext : Ext w W
  co : W.cell? ⟨wb, 0, none⟩ = some v
  cd : W.cell? ⟨wb, 1, none⟩ = some (.slice (some ⟨g, 0, none⟩) l.length c)
  fz : ∀ o, W.frozen? ⟨wb, o, none⟩ = false
  own : W.ownsRow (wb + 1) 68 6 v L.length (rowN (encL L))
  dn : OG W (wb + 1) 3 (.int .i64) g l.length c D
  ne : v.ownBlock ≠ some g
  dD : ∀ i, i < l.length → nth D i = -1 ∨ (trAt l i ∈ L ∧ nth D i = idx L (trAt l i))
  nd : L.Nodup
  cl : Cl L
  ok : AllOk L
  sub : ∀ t ∈ L, t ∈ (List.range l.length).map (trAt l)
variable {w wb g c l} {W : World} {L : List Fm} {v : Value} {D : List Int}
theorem RS.len (h : RS w wb g c l W L v D) : L.length ≤ l.length := by
  have := nodup_sub_len h.nd h.sub
  simpa using this
theorem RS.vb (h : RS w wb g c l W L v D) : ∀ b, v.ownBlock = some b → wb + 1 ≤ b ∧ b < W.heap.size := h.own.lt
theorem RS.gb (h : RS w wb g c l W L v D) : wb + 1 ≤ g ∧ g < W.heap.size := ⟨h.dn.base_le, h.dn.lt⟩
/-- The state lives on where its blocks are as they were. -/
theorem RS.ext' (h : RS w wb g c l W L v D) {W' : World} (e : Ext W W') : RS w wb g c l W' L v D := by
  have hz := h.hi
  refine ⟨h.lo, by have := e.size; omega, h.ext.trans e, e.cell h.co, e.cell h.cd, fun o => ?_, ?_, h.dn.ext e, h.ne, h.dD, h.nd, h.cl, h.ok, h.sub⟩
  · rw [World.frozen?_of_block (w := W) (e.block _ hz)]; exact h.fz o
  · exact h.own.kept (row := none) ⟨e.os, e.tape, e.output, e.size, fun k hk _ => e.block k hk⟩ (by cases v.ownBlock <;> simp)
theorem RS.slice (h : RS w wb g c l W L v D) (hl : l.length ≤ 1000) : ∃ va vc, v = .slice va L.length vc ∧ RN W va (encL L) := by
  obtain ⟨va, vc, hv, hrn⟩ := RN_of_own (l := encL L) (by rw [encL_length]; exact h.own) (by rw [encL_length]; have := h.len; omega)
  rw [encL_length] at hv
  exact ⟨va, vc, hv, hrn⟩
/-- An append to the list, and its store. -/
theorem RS.push (h : RS w wb g c l W L v D) {t : Fm} (hn : t ∉ L) (hk : ∀ c, kid c t → c ∈ L) (ht : fok t) (hs : t ∈ (List.range l.length).map (trAt l)) {W1 : World} {v' : Value}
    (ho : W1.ownsRow (wb + 1) 68 6 v' (L.length + 1) (rowN (encL L) ++ ndCells (ndOf L t))) (g1 : W.grownBy W1 v.ownBlock) (hv : v'.ownBlock = v.ownBlock ∨ ∀ b, v'.ownBlock = some b → W.heap.size ≤ b) :
    RS w wb g c l (W1.setCell ⟨wb, 0, none⟩ v') (L ++ [t]) v' D ∧ FR wb g v W (W1.setCell ⟨wb, 0, none⟩ v') v' := by
  have hz := h.hi
  have hlo := h.lo
  have hgb := h.gb
  have hvb := h.vb
  have hz1 : W.heap.size ≤ W1.heap.size := g1.size
  have hwv : some wb ≠ v.ownBlock := fun e => by have := (hvb wb e.symm).1; omega
  have hgv : some g ≠ v.ownBlock := fun e => h.ne e.symm
  have co1 : W1.cell? ⟨wb, 0, none⟩ = some v := g1.cell h.co (by simpa using hwv)
  have cd1 : W1.cell? ⟨wb, 1, none⟩ = some (.slice (some ⟨g, 0, none⟩) l.length c) := g1.cell h.cd (by simpa using hwv)
  have hlt : ∀ b, v'.ownBlock = some b → wb + 1 ≤ b ∧ b < W1.heap.size := ho.lt
  have hwv' : v'.ownBlock ≠ some wb := fun e => by have := (hlt wb e).1; omega
  have dn1 : OG W1 (wb + 1) 3 (.int .i64) g l.length c D := ⟨h.dn.len, h.dn.row.kept g1 (by simpa [Value.ownBlock] using hgv)⟩
  have e1 : (L ++ [t]).length = L.length + 1 := by simp
  have e2 : rowN (encL (L ++ [t])) = rowN (encL L) ++ ndCells (ndOf L t) := by rw [encL_snoc h.cl hk, rowN_append]; simp [rowN]
  refine ⟨⟨hlo, by simp [World.setCell]; omega, ?_, World.cell?_setCell_same _ _ _ co1, ?_, fun o => ?_, ?_, dn1.other 0 v' (by omega), ?_, ?_, ?_, h.cl.snoc' hn hk, ?_, ?_⟩, ⟨by simpa [World.setCell] using hz1, fun k h1 h2 h3 h4 => ?_, hv⟩⟩
  · exact (ext_of_grown h.ext g1 (fun k hk => by have := (hvb k hk).1; omega)).setCell (by simp; omega) _
  · rw [World.cell?_setCell_other _ _ _ _ (by simp)]; exact cd1
  · rw [World.frozen?_setCell, World.frozen?_of_block (g1.block wb hz hwv)]; exact h.fz o
  · rw [e1, e2]
    exact ho.kept (row := some wb) ⟨rfl, rfl, rfl, by simp, fun j _ hj => heap_setCell_other W1 ⟨wb, 0, none⟩ j v' (fun e => hj (by simp [e]))⟩ (.inr hwv')
  · intro e
    rcases hv with hv | hv
    · rw [hv] at e; exact h.ne e
    · have := hv g e; omega
  · intro i hi
    rcases h.dD i hi with h1 | ⟨h1, h2⟩
    · exact .inl h1
    · exact .inr ⟨by simp [h1], by rw [idx_append h1]; exact h2⟩
  · rw [List.nodup_append]
    refine ⟨h.nd, by simp, fun a ha b hb => ?_⟩
    simp at hb
    subst hb
    rintro rfl
    exact hn ha
  · intro s hs'
    simp only [List.mem_append, List.mem_singleton] at hs'
    rcases hs' with h1 | rfl
    · exact h.ok s h1
    · exact ht
  · intro s hs'
    simp only [List.mem_append, List.mem_singleton] at hs'
    rcases hs' with h1 | rfl
    · exact h.sub s h1
    · exact hs
  · rw [Below.heap_setCell _ _ _ _ (by simpa using h2)]
    exact g1.block k h1 h4
/-- A node's number is written down. -/
theorem RS.mark (h : RS w wb g c l W L v D) {i : Nat} (hi : i < l.length) (hm : trAt l i ∈ L) : RS w wb g c l (W.setCell ⟨g, i, none⟩ (.int .i64 (idx L (trAt l i)))) L v (D.set i (idx L (trAt l i) : Int)) ∧ FR wb g v W (W.setCell ⟨g, i, none⟩ (.int .i64 (idx L (trAt l i)))) v := by
  have hz := h.hi
  have hlo := h.lo
  have hgb := h.gb
  have hdl := h.dn.len
  refine ⟨⟨hlo, by simpa [World.setCell] using hz, h.ext.setCell (by simp; omega) _, ?_, ?_, fun o => ?_, ?_, h.dn.set i _, h.ne, ?_, h.nd, h.cl, h.ok, h.sub⟩, ⟨by simp [World.setCell], fun k h1 h2 h3 h4 => ?_, .inl rfl⟩⟩
  · rw [World.cell?_setCell_other _ _ _ _ (by simp; try omega)]; exact h.co
  · rw [World.cell?_setCell_other _ _ _ _ (by simp; try omega)]; exact h.cd
  · rw [World.frozen?_setCell]; exact h.fz o
  · exact h.own.kept (row := some g) ⟨rfl, rfl, rfl, by simp, fun j _ hj => heap_setCell_other W ⟨g, i, none⟩ j _ (fun e => hj (by simp [e]))⟩ (.inr h.ne)
  · intro j hj
    by_cases hij : i = j
    · subst hij
      refine .inr ⟨hm, ?_⟩
      rw [nth_eq _ _ (by rw [List.length_set]; omega)]
      simp
    · have : nth (D.set i (idx L (trAt l i) : Int)) j = nth D j := by
        rw [nth_eq _ _ (by rw [List.length_set]; omega), nth_eq _ _ (by omega)]
        exact List.getElem_set_ne hij _
      rw [this]
      exact h.dD j hj
  · exact Below.heap_setCell _ _ _ _ (by simpa using h3)
/-- A store into a block that lies apart. -/
theorem RS.setBox (h : RS w wb g c l W L v D) {b : Nat} (h0 : w.heap.size ≤ b) (h1 : b ≠ wb) (h2 : b ≠ g) (h3 : some b ≠ v.ownBlock) (o : Nat) (u : Value) : RS w wb g c l (W.setCell ⟨b, o, none⟩ u) L v D := by
  refine ⟨h.lo, by simpa [World.setCell] using h.hi, h.ext.setCell (by simpa using h0) _, ?_, ?_, fun o => ?_, ?_, h.dn.other o u (Ne.symm h2), h.ne, h.dD, h.nd, h.cl, h.ok, h.sub⟩
  · rw [World.cell?_setCell_other _ _ _ _ (by simp)]; exact h.co
  · rw [World.cell?_setCell_other _ _ _ _ (by simp)]; exact h.cd
  · rw [World.frozen?_setCell]; exact h.fz o
  · exact h.own.kept (row := some b) ⟨rfl, rfl, rfl, by simp, fun j _ hj => heap_setCell_other W ⟨b, o, none⟩ j u (fun e => hj (by simp [e]))⟩ (.inr (Ne.symm h3))
theorem FR.setNew {wb g : Nat} {v v1 : Value} {W W1 : World} (a : FR wb g v W W1 v1) {b : Nat} (hb : W.heap.size ≤ b) (o : Nat) (u : Value) : FR wb g v W (W1.setCell ⟨b, o, none⟩ u) v1 :=
  ⟨by have := a.size; simpa [World.setCell] using this, fun k h1 h2 h3 h4 => (Below.heap_setCell _ _ _ _ (by simp; omega)).trans (a.keep k h1 h2 h3 h4), a.own⟩
/-- Where a node lies in the list. -/
theorem RS.found (h : RS w wb g c l W L v D) {t : Fm} (hk : ∀ c, kid c t → c ∈ L) (ht : fok t) {k : Nat} (hlt : k < L.length) (he : nth (encL L) k = ndOf L t) : t ∈ L ∧ k = idx L t := by
  have h1 : nth (encL L) k = ndOf L L[k] := by
    rw [nth_eq _ _ (by rw [encL_length]; exact hlt)]
    exact encL_get hlt
  have hm : L[k] ∈ L := List.getElem_mem hlt
  have h2 : L[k] = t := ndOf_inj (h.ok _ hm) ht (fun c hc => h.cl.kid hm hc) hk (by rw [← h1, he])
  exact ⟨h2 ▸ hm, by rw [← h2, idx_getElem h.nd hlt]⟩
theorem RS.none (_h : RS w wb g c l W L v D) {t : Fm} (hno : ∀ j, 0 ≤ j → j < L.length → nth (encL L) j ≠ ndOf L t) : t ∉ L := fun hm => by
  refine hno (idx L t) (Nat.zero_le _) (idx_lt hm) ?_
  rw [nth_eq _ _ (by rw [encL_length]; exact idx_lt hm)]
  rw [encL_get (idx_lt hm), getElem_idx hm]
end
end Wt

/- Walk: wittingref05.put. -/
namespace Wt
open Go Go.RowKit Go.Maps Go.Proofs Fm

def PutPost (w : World) (wb g c : Nat) (l : List Nd) (W : World) (L : List Fm) (v : Value) (D : List Int) (t : Fm) (e : Ending) (W' : World) : Prop :=
  ∃ v', e = .returned (.int .i64 (idx (put t L) t)) ∧ RS w wb g c l W' (put t L) v' D ∧ FR wb g v W W' v'
end Wt

/- Walks: wittingref05: UsesX, UsesY, agent, group, node, Check. -/
namespace Wt
open Go Go.RowKit Go.Maps Go.Proofs Fm

theorem use_low (op : Int) (h : op < 1 ∨ 21 < op) : useOf op = (⟨false,false,false,false,false,false,0⟩, false) := by
  refine useOf_no op fun h2 => ?_
  rcases useOf_cases op h2 with h | h | h | h | h | h | h | h | h | h | h | h | h | h | h | h | h | h | h | h | h <;> omega
theorem op_cases (op : Int) : (op < 1 ∨ 21 < op) ∨ op = 1 ∨ op = 2 ∨ op = 3 ∨ op = 4 ∨ op = 5 ∨ op = 6 ∨ op = 7 ∨ op = 8 ∨ op = 9 ∨ op = 10 ∨ op = 11 ∨ op = 12 ∨ op = 13 ∨ op = 14 ∨ op = 15 ∨ op = 16 ∨ op = 17 ∨ op = 18 ∨ op = 19 ∨ op = 20 ∨ op = 21 := by omega
theorem r5x_eq (op : Int) : (useOf op).1.x = (decide (4 ≤ op) && decide (op ≤ 21)) := by
  rcases op_cases op with h | h | h | h | h | h | h | h | h | h | h | h | h | h | h | h | h | h | h | h | h | h
  · rw [use_low op h]; simp; omega
  all_goals (subst h; rfl)
theorem r5y_eq (op : Int) : (useOf op).1.y = (decide (5 ≤ op ∧ op ≤ 8) || op == 13 || op == 14 || op == 16 || op == 19 || op == 21) := by
  rcases op_cases op with h | h | h | h | h | h | h | h | h | h | h | h | h | h | h | h | h | h | h | h | h | h
  · rw [use_low op h]; simp; omega
  all_goals (subst h; rfl)
theorem r5a_eq (op : Int) : (useOf op).1.agent = (op == 9 || op == 10 || op == 14 || op == 15) := by
  rcases op_cases op with h | h | h | h | h | h | h | h | h | h | h | h | h | h | h | h | h | h | h | h | h | h
  · rw [use_low op h]; simp; omega
  all_goals (subst h; rfl)
theorem r5g_eq (op : Int) : (useOf op).1.group = (decide (11 ≤ op) && decide (op ≤ 13)) := by
  rcases op_cases op with h | h | h | h | h | h | h | h | h | h | h | h | h | h | h | h | h | h | h | h | h | h
  · rw [use_low op h]; simp; omega
  all_goals (subst h; rfl)
theorem r5f_eq (op : Int) : (useOf op).1.fact = (op == 3) := by
  rcases op_cases op with h | h | h | h | h | h | h | h | h | h | h | h | h | h | h | h | h | h | h | h | h | h
  · rw [use_low op h]; simp; omega
  all_goals (subst h; rfl)
theorem r5e_eq (op : Int) : (useOf op).1.event = (op == 17) := by
  rcases op_cases op with h | h | h | h | h | h | h | h | h | h | h | h | h | h | h | h | h | h | h | h | h | h
  · rw [use_low op h]; simp; omega
  all_goals (subst h; rfl)
theorem r5ok_eq (op : Int) : (useOf op).2 = (decide (1 ≤ op) && decide (op ≤ 21)) := by
  rcases op_cases op with h | h | h | h | h | h | h | h | h | h | h | h | h | h | h | h | h | h | h | h | h | h
  · rw [use_low op h]; simp; omega
  all_goals (subst h; rfl)
end Wt

/- Walk: wittingref05.finish (printed by gen_rff.py). -/
namespace Wt
open Go Go.RowKit Go.Maps Go.Proofs Fm

def FinRPost (w : World) (wb g c : Nat) (l : List Nd) (i : Nat) (W : World) (L : List Fm) (v : Value) (_D : List Int) (e : Ending) (W' : World) : Prop :=
  ∃ v' D', e = .returned (.int .i64 (idx (addT (trAt l i) L) (trAt l i))) ∧ RS w wb g c l W' (addT (trAt l i) L) v' D' ∧ FR wb g v W W' v'
end Wt

/- Walks: wittingref05.node, patterns 0 to 2 (printed by gen_rfb.py). -/
namespace Wt
open Go Go.RowKit Go.Maps Go.Proofs Fm

end Wt

/- Walks: wittingref05.node, patterns 3 to 5 (printed by gen_rfb.py). -/
namespace Wt
open Go Go.RowKit Go.Maps Go.Proofs Fm

end Wt

/- Walks: wittingref05.node, patterns 6 to 8 (printed by gen_rfb.py). -/
namespace Wt
open Go Go.RowKit Go.Maps Go.Proofs Fm

end Wt

/- wittingref05.node: all patterns (printed by gen_rfb.py). -/
namespace Wt
open Go Go.RowKit Go.Maps Go.Proofs Fm

end Wt

/- Walks: wittingref05.Check. -/
namespace Wt
open Go Go.RowKit Go.Maps Go.Proofs Fm

end Wt

/- Walks: wittingref05.Sub, Compact. -/
namespace Wt
open Go Go.RowKit Go.Maps Go.Proofs Fm

theorem int_infoG : (Tryd.prog.info? 3).map (fun i => (i.zero, i.size, i.bytes)) = some (some (.int .i64 0), 1, 8) := by kernel_rfl
/-- Ahead of the walk over the nodes: k of them are marked as not done. -/
structure PS (wb : Nat) (w1 : World) (k : Nat) (wr : World) (vd : Value) : Prop where
  e : Ext w1 wr
  hi : wb < wr.heap.size
  c0 : wr.cell? ⟨wb, 0, none⟩ = some (.slice none 0 0)
  c1 : wr.cell? ⟨wb, 1, none⟩ = some vd
  fz : ∀ o, wr.frozen? ⟨wb, o, none⟩ = false
  own : wr.ownsRow (wb + 1) 3 1 vd k (List.replicate k (.int .i64 (-1)))
def PSE (wb : Nat) (w1 : World) (k : Nat) (wr : World) : Prop := ∃ vd, PS wb w1 k wr vd
theorem PS.start (w1 : World) (T : Nat) : PS w1.heap.size w1 0 (w1.alloc (.cells #[.slice none 0 0, .slice none 0 0] T)) (.slice none 0 0) :=
  ⟨(Ext.refl w1).alloc _, by simp, by simp, by simp, fun o => by simp, World.ownsRow_nil _ _ _ _⟩
theorem PS.ext' {wb : Nat} {w1 : World} {k : Nat} {wr w' : World} {vd : Value} (h : PS wb w1 k wr vd) (e : Ext wr w') : PS wb w1 k w' vd := by
  refine ⟨h.e.trans e, by have := e.size; have := h.hi; omega, e.cell h.c0, e.cell h.c1, fun o => ?_, ?_⟩
  · rw [World.frozen?_of_block (w := wr) (e.block _ h.hi)]; exact h.fz o
  · exact h.own.kept (row := none) ⟨e.os, e.tape, e.output, e.size, fun k hk _ => e.block k hk⟩ (by cases vd.ownBlock <;> simp)
theorem PS.push {wb : Nat} {w1 : World} {k : Nat} {wr W1 : World} {vd v' : Value} (h : PS wb w1 k wr vd) (hwb : w1.heap.size ≤ wb) (ho : W1.ownsRow (wb + 1) 3 1 v' (k + 1) (List.replicate k (.int .i64 (-1)) ++ [.int .i64 (-1)]))
    (g1 : wr.grownBy W1 vd.ownBlock) : PS wb w1 (k + 1) (W1.setCell ⟨wb, 1, none⟩ v') v' := by
  have hz := h.hi
  have hvb := h.own.lt
  have hwv : some wb ≠ vd.ownBlock := fun e => by have := (hvb wb e.symm).1; omega
  have hlt := ho.lt
  have hwv' : v'.ownBlock ≠ some wb := fun e => by have := (hlt wb e).1; omega
  refine ⟨(ext_of_grown h.e g1 (fun k hk => by have := (hvb k hk).1; omega)).setCell (by simpa using hwb) _, by have := g1.size; simp [World.setCell]; omega, ?_, World.cell?_setCell_same _ _ _ (g1.cell h.c1 (by simpa using hwv)), fun o => ?_, ?_⟩
  · rw [World.cell?_setCell_other _ _ _ _ (by simp)]; exact g1.cell h.c0 (by simpa using hwv)
  · rw [World.frozen?_setCell, World.frozen?_of_block (g1.block wb hz hwv)]; exact h.fz o
  · rw [List.replicate_succ']
    exact ho.kept (row := some wb) ⟨rfl, rfl, rfl, by simp, fun j _ hj => heap_setCell_other W1 ⟨wb, 1, none⟩ j v' (fun e => hj (by simp [e]))⟩ (.inr hwv')
/-- All are marked: the walk may begin. -/
theorem PS.ready {wb : Nat} {w w1 : World} {wr : World} {vd : Value} {l : List Nd} (h : PS wb w1 l.length wr vd) (hw : Ext w w1) (hwb : w1.heap.size ≤ wb) (hl : 0 < l.length) : ∃ g c, vd = .slice (some ⟨g, 0, none⟩) l.length c ∧ RS w wb g c l wr [] (.slice none 0 0) (List.replicate l.length (-1)) := by
  rcases h.own.2 with ⟨_, h0⟩ | ⟨g, cap, cur, rfl, hb, hg, rest⟩
  · omega
  · refine ⟨g, cap, rfl, ⟨by have := hw.size; omega, h.hi, hw.trans h.e, h.c0, h.c1, h.fz, World.ownsRow_nil _ _ _ _, ⟨by simp, ?_⟩, by simp [Value.ownBlock], fun i hi => .inl ?_, List.nodup_nil, Cl.nil, (fun _ h => by simp at h), (fun _ h => by simp at h)⟩⟩
    · rw [List.map_replicate]; exact h.own
    · rw [nth_eq _ _ (by simpa using hi)]; simp
end Wt

/- Walks: wittingref13.group, Group, Meet. -/
namespace Wt
open Go Go.RowKit Go.Maps Go.Proofs Fm

/-- What a round keeps. -/
structure GS (w0 : World) (f : Nat → BitVec 64) (k : Nat) (v : Value) (wr : World) : Prop where
  e : Ext w0 wr
  own : wr.ownsRow w0.heap.size 40 1 v k (((List.range k).map f).map uv)
def GSE (w0 : World) (f : Nat → BitVec 64) (k : Nat) (v : Value) (wr : World) : Prop := GS w0 f k v wr
theorem GS.ext' {w0 : World} {f : Nat → BitVec 64} {k : Nat} {v : Value} {wr w' : World} (h : GS w0 f k v wr) (e : Ext wr w') : GS w0 f k v w' :=
  ⟨h.e.trans e, h.own.kept (row := none) ⟨e.os, e.tape, e.output, e.size, fun k hk _ => e.block k hk⟩ (by cases v.ownBlock <;> simp)⟩
theorem GS.push {w0 : World} {f : Nat → BitVec 64} {k : Nat} {v v' : Value} {wr W1 : World} (h : GS w0 f k v wr) (ho : W1.ownsRow w0.heap.size 40 1 v' (k + 1) (((List.range k).map f).map uv ++ [uv (f k)])) (g : wr.grownBy W1 v.ownBlock) : GS w0 f (k + 1) v' W1 := by
  refine ⟨ext_of_grown h.e g (fun b hb => (h.own.lt b hb).1), ?_⟩
  rw [List.range_succ, List.map_append, List.map_append]
  exact ho
theorem GS.done {w0 : World} {f : Nat → BitVec 64} {k : Nat} {v : Value} {wr : World} (h : GS w0 f k v wr) (hk : k ≤ 1000) : ∃ a c, v = .slice a k c ∧ RU wr a ((List.range k).map f) := by
  have ho : OU wr w0.heap.size v ((List.range k).map f) := by
    have := h.own
    unfold OU
    simpa using this
  obtain ⟨a, c, hv, hu⟩ := RU_of_OU ho (by simp; omega)
  exact ⟨a, c, by simpa using hv, hu⟩
end Wt

/- Walks: wittingref17.One (printed by gen_r17c.py). -/
namespace Wt
open Go Go.RowKit Go.Maps Go.Proofs Fm

def Ret1 (v : BitVec 64) (e : Ending) (w w' : World) : Prop := e = .returned (.int .u64 (un v)) ∧ Ext w w'
end Wt

/- Walks: wittingref17.One, operators 1 to 8 (printed by gen_r17c.py). -/
namespace Wt
open Go Go.RowKit Go.Maps Go.Proofs Fm

end Wt

/- Walks: wittingref17.One, operators 9 and 10 (printed by gen_r17c.py). -/
namespace Wt
open Go Go.RowKit Go.Maps Go.Proofs Fm

end Wt

/- Walks: wittingref17.One, operators 11 to 13 (printed by gen_r17c.py). -/
namespace Wt
open Go Go.RowKit Go.Maps Go.Proofs Fm

end Wt

/- wittingref17.One at all operators (printed by gen_r17c.py). -/
namespace Wt
open Go Go.RowKit Go.Maps Go.Proofs Fm

end Wt

/- Walks: wittingref05.Frag, Frags, Facts, Agents. -/
namespace Wt
open Go Go.RowKit Go.Maps Go.Proofs Fm

end Wt

/- Walks: wittingref05.Agents, Fits. -/
namespace Wt
open Go Go.RowKit Go.Maps Go.Proofs Fm

end Wt

/- Walks: wittingref17.Check, fits. -/
namespace Wt
open Go Go.RowKit Go.Maps Go.Proofs Fm

/-- Is a node static, and does it fit a model? -/
def fitsOf (M : Mo) (L : List Nd) : Bool := decide (fFrags L < 16) && fFits L M.rel.length M.val.length
/-- A node of a right formula fits exactly if its tree has a set. -/
theorem fits_sem {M : Mo} (hr : M.rel.length ≤ 4) (hv : M.val.length ≤ 8) {f : List Nd} (hc : fCheck f = 0) {k : Nat} (hk : k < f.length) : fitsOf M (fSub f k) = (semT M (trAt f k)).2 := by
  obtain ⟨h0, h200, hw⟩ := fCheck_ok.1 hc
  have ht : fok (trAt f k) := fok_trAt hw _ k (Nat.lt_succ_self k) hk
  have hs : fsize (trAt f k) ≤ 200 := Nat.le_trans (fsize_le hw hk) h200
  have e : fSub f k = canon (trAt f k) := by unfold fSub; rw [if_pos ⟨hc, by omega, by omega⟩, Int.toNat_natCast]
  rw [e, semT_fits M hr hv _ ht]
  unfold fitsOf fFits
  rw [canon_check _ ht hs]
  unfold fFrags fAgents fFacts
  rw [compact_canon _ ht hs]
  simp [Bool.and_assoc]
end Wt

/- Walk: wittingref17.Sets (printed by gen_r17f.py). -/
namespace Wt
open Go Go.RowKit Go.Maps Go.Proofs Fm

theorem nd_ok {l : List Nd} (hw : Wf l) {k : Nat} (hk : k < l.length) : NdOk (nth l k) := by
  obtain ⟨h1, _, _, h4, h5⟩ := nodeErr_ok (hw k hk)
  exact ndOk_of h1 h4 h5
theorem GS.take {w0 : World} {f : Nat → BitVec 64} {k : Nat} {v : Value} {wr : World} (h : GS w0 f k v wr) (_hk : k ≤ 1000) {q : Nat} (hq : q < k) : ∃ g c, v = .slice (some ⟨g, 0, none⟩) k c ∧ wr.cell? ⟨g, q, none⟩ = some (.int .u64 (un (f q))) := by
  rcases h.own.2 with ⟨_, h0⟩ | ⟨g, cap, cur, rfl, rest⟩
  · omega
  · refine ⟨g, cap, rfl, ?_⟩
    rw [h.own.cellAt q (by omega), List.getElem?_map]
    simp [hq, uv]
end Wt

/- Walks: wittingref17.Holds, At, Valid; wittingref13.SameSets, Few. -/
namespace Wt
open Go Go.RowKit Go.Maps Go.Proofs Fm

/-- The canonical list has the error of the formula. -/
theorem reqErr_compact (M : Mo) {f : List Nd} (h : fCheck f = 0) : reqErr M (fCompact f) = reqErr M f ∧ (fCompact f).length = fsize (trAt f (f.length - 1)) ∧ trAt (fCompact f) ((fCompact f).length - 1) = trAt f (f.length - 1) := by
  obtain ⟨h0, h200, hw⟩ := fCheck_ok.1 h
  obtain ⟨hc, hk⟩ := fCompact_of h
  have ht : fok (trAt f (f.length - 1)) := fok_trAt hw _ _ (Nat.lt_succ_self _) hk
  have hs : fsize (trAt f (f.length - 1)) ≤ 200 := Nat.le_trans (fsize_le hw hk) h200
  have hcc := compact_canon _ ht hs
  have hck := canon_check _ ht hs
  have e1 : fFrags (fCompact f) = fFrags f := by unfold fFrags; rw [hc, hcc]
  have e2 : fFits (fCompact f) M.rel.length M.val.length = fFits f M.rel.length M.val.length := by
    unfold fFits fAgents fFacts; rw [hc, hcc, hck, h]
  refine ⟨?_, by rw [hc, canon_length], by rw [hc, trAt_canon _ ht]⟩
  unfold reqErr
  rw [e1, e2, hc, hck, h]
theorem reqErr_none (M : Mo) {f : List Nd} (h : fCheck f ≠ 0) : reqErr M f ≠ 0 ∧ reqErr M (fCompact f) ≠ 0 := by
  have h3 : fCheck ([] : List Nd) = 3 := rfl
  rw [fCompact_no h]
  refine ⟨fun e => h (reqErr_ok e).2.1, fun e => ?_⟩
  have := (reqErr_ok e).2.1
  rw [h3] at this; omega
theorem reqErr_iff (M : Mo) (f : List Nd) : reqErr M (fCompact f) = 0 ↔ reqErr M f = 0 := by
  by_cases h : fCheck f = 0
  · rw [(reqErr_compact M h).1]
  · have := reqErr_none M h
    exact ⟨fun e => absurd e this.2, fun e => absurd e this.1⟩
end Wt

/- Walks: wittingref17.At, Valid; wittingref13.SameSets. -/
namespace Wt
open Go Go.RowKit Go.Maps Go.Proofs Fm

set_option maxHeartbeats 1000000 in
theorem r13Same_any (a b : Option Addr) (ac bc : Nat) (s t : List (BitVec 64)) (w : World) (ha : RU w a s) (hb : RU w b t) :
    Calls Tryd.prog 25 #[.slice a s.length ac, .slice b t.length bc] w fun e w' => e = .returned (.bool (decide (s = t))) ∧ Qu w w' := by
  have hl := ha.len
  have hl2 := hb.len
  by_cases hlen : s.length = t.length
  · have hL : ((s.length : Int) != (t.length : Int)) = false := by simp [hlen]
    go_enter Tryd.func25, Tryd.ntmps25
    go_wp2
    go_loopw [5] (fun i wr => ∃ k : Nat, k ≤ s.length ∧ i = .int .i64 k ∧ Qu w wr ∧ Hid (∀ j, j < k → nth s j = nth t j)) (fun i _ => s.length - (intOf i).toNat)
    case atStart => exact ⟨0, Nat.zero_le _, rfl, Qu.refl _, fun _ h => absurd h (Nat.not_lt_zero _)⟩
    case round =>
      obtain ⟨k, hk, rfl, hE, hno⟩ := hrel
      by_cases hlt : k < s.length
      · obtain ⟨b1, off1, rfl, hb1, hc1⟩ := (ha.ext hE.ext).get hlt
        obtain ⟨b2, off2, rfl, hb2, hc2⟩ := (hb.ext hE.ext).get (k := k) (by omega)
        have hkt : k < t.length := by omega
        have hkI : (k : Int) < (t.length : Int) := by omega
        by_cases hq : nth s k = nth t k
        · have HQ := Lib.hid hq
          rw [hq] at hc1
          have hq2 : (nth t k != nth t k) = false := by simp
          clear hq
          go_wp2_with fail
          go_quiet (fail)
          go_wp2
          go_roundw
          case rel => exact ⟨k + 1, hlt, by go_num, hE.drewN _, fun j hj => by
            rcases Nat.lt_or_ge j k with h | h
            · exact hno.out j h
            · obtain rfl : j = k := by omega
              exact HQ.out⟩
          case measure => simp [intOf]; omega
        · have hv : decide (s = t) = false := decide_eq_false fun e => hq (by rw [e])
          have HV := Lib.hid hv
          have hq2 : (nth s k != nth t k) = true := by simp [hq]
          clear hv hq
          go_wp2_with fail
          go_quiet (fail)
          go_wp2
          go_ret
          exact ⟨by rw [HV.out]; rfl, hE.drewN _⟩
      · have hv : decide (s = t) = true := by
          rw [decide_eq_true_eq]
          apply List.ext_getElem hlen
          intro j h1 h2
          have := hno.out j (by omega)
          rwa [nth_eq _ _ h1, nth_eq _ _ h2] at this
        have HV := Lib.hid hv
        clear hv
        go_wp2
        go_ret
        exact ⟨by rw [HV.out]; rfl, hE⟩
  · have hv : decide (s = t) = false := decide_eq_false fun e => hlen (by rw [e])
    have HV := Lib.hid hv
    have hL : ((s.length : Int) != (t.length : Int)) = true := by simp; omega
    clear hv
    go_enter Tryd.func25, Tryd.ntmps25
    go_wp2
    go_ret
    exact ⟨by rw [HV.out]; rfl, Qu.refl _⟩
end Wt
