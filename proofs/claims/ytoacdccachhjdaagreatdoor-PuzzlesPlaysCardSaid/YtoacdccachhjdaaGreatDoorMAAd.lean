/- formula.compact: the maps' keys; what the recursive closure holds. -/
import Derived.Test.YtoacdccachhjdaaGreatDoorMAAc
import Derived.DeepKeys4
import Derived.Maps.AppendAt
namespace Wt
open Go Go.RowKit Go.Maps Go.Proofs

theorem prog_laidOut : laidOutB Tryz.prog = true := by kernel_rfl
theorem node_row : (109 : TypeId) < Tryz.prog.types.size := of_decide_eq_true (by kernel_rfl)
theorem node_wide : (match Tryz.prog.underlying 109 with | some (.array _ _) | some (.struct _) => true | _ => false) = true := by kernel_rfl
set_option maxRecDepth 100000 in
theorem node_law : WideMaps.KeyLaw Tryz.prog 109 := deep_law_laid prog_laidOut (m := 2) (by omega) node_row (by kernel_rfl) node_wide
theorem node_keyed : Keyed Tryz.prog 109 := Keyed.of_law node_law
theorem int_keyed' : Keyed Tryz.prog 3 := int_keyed Tryz.underlying3
theorem node_keyType : Tryz.prog.keyType 109 = true := by kernel_rfl
theorem node_cells : Tryz.prog.cellsOf 109 = 6 := by kernel_rfl
theorem int_cells : Tryz.prog.cellsOf 3 = 1 := by kernel_rfl
theorem pos_succ {k n : Nat} (h : k < n) : ∃ m, n = m + 1 := ⟨n - 1, by omega⟩
def igood (n : Int) : Prop := (Lit.int .i64 n).wf = true
theorem igood_of {n : Int} (h : -9223372036854775808 ≤ n ∧ n ≤ 9223372036854775807) : igood n := WalkArith.wf_i64 h
def ndGood (n : Nd) : Prop := igood n.op ∧ igood n.i ∧ igood n.e ∧ igood n.g ∧ igood n.x ∧ igood n.y
theorem key_int (n : Int) (h : igood n) : ∃ l, keyOf Tryz.prog 3 (.int .i64 n) = some l := ⟨_, keyOf_int_mk Tryz.underlying3 h⟩
theorem key_node (n : Nd) (h : ndGood n) : ∃ l, keyOf Tryz.prog 109 n.val = some l := by
  obtain ⟨h1, h2, h3, h4, h5, h6⟩ := h
  unfold igood at *
  unfold keyOf
  rw [Tryz.underlying109]
  simp only [node_keyType, Nd.val, Value.formed, Tryz.underlying109, node_cells]
  obtain ⟨m, hm⟩ : ∃ m, Tryz.prog.types.size = m + 1 := pos_succ node_row
  rw [hm]
  simp [Program.keyLits, Tryz.underlying109, Tryz.underlying3, node_cells, int_cells, Value.cells, h1, h2, h3, h4, h5, h6]
end Wt

/- formula.compact: what the recursive closure holds in memory. -/
namespace Wt
open Go Go.RowKit Go.Maps Go.Proofs

def ndCells (n : Nd) : List Value := [.int .i64 n.op, .int .i64 n.i, .int .i64 n.e, .int .i64 n.g, .int .i64 n.x, .int .i64 n.y]
def rowN (l : List Nd) : List Value := l.flatMap ndCells
theorem rowN_length (l : List Nd) : (rowN l).length = l.length * 6 := by
  unfold rowN; induction l with
  | nil => rfl
  | cons a l ih => simp [ndCells, ih]; omega
theorem rowN_get (l : List Nd) (k j : Nat) (hk : k < l.length) (hj : j < 6) : (rowN l)[k * 6 + j]? = (ndCells (nth l k))[j]? := by
  induction l generalizing k with
  | nil => simp at hk
  | cons a l ih =>
    have hs : rowN (a :: l) = ndCells a ++ rowN l := rfl
    rw [hs]
    cases k with
    | zero => rw [List.getElem?_append_left (by simp [ndCells]; omega)]; simp [nth]
    | succ k =>
      rw [List.getElem?_append_right (by simp [ndCells]; omega)]
      have e : (k + 1) * 6 + j - (ndCells a).length = k * 6 + j := by simp [ndCells]; omega
      rw [e, ih k (by simpa using hk)]
      simp [nth]
theorem rowN_append (l m : List Nd) : rowN (l ++ m) = rowN l ++ rowN m := by simp [rowN]
/-- A slice that the call owns reads as a list of nodes. -/
theorem RN_of_own {w : World} {base e : Nat} {v : Value} {l : List Nd} (h : w.ownsRow base e 6 v l.length (rowN l)) (hl : l.length ≤ 140737488355328) :
    ∃ a c, v = .slice a l.length c ∧ RN w a l := by
  rcases h.2 with ⟨rfl, h0⟩ | ⟨g, cap, cur, rfl, hb, hg, hnc, hcm, hcs, htake⟩
  · have : l = [] := List.eq_nil_of_length_eq_zero h0
    subst this
    exact ⟨none, 0, rfl, RN.nil _ _⟩
  · refine ⟨some ⟨g, 0, none⟩, cap, rfl, hl, fun k hk => ⟨g, 0, rfl, ?_⟩⟩
    have hcell : ∀ j, j < 6 → w.cell? ⟨g, 0 + k * 6 + j, none⟩ = (ndCells (nth l k))[j]? := by
      intro j hj
      rw [cell_of_row w g _ cur e (0, 0) hg, Nat.zero_add, ← rowN_get l k j hk hj, ← htake, List.getElem?_take, if_pos (by omega)]
      simp
    refine ⟨?_, ?_, ?_, ?_, ?_, ?_⟩
    · have := hcell 0 (by omega); simpa [ndCells] using this
    · have := hcell 1 (by omega); simpa [ndCells] using this
    · have := hcell 2 (by omega); simpa [ndCells] using this
    · have := hcell 3 (by omega); simpa [ndCells] using this
    · have := hcell 4 (by omega); simpa [ndCells] using this
    · have := hcell 5 (by omega); simpa [ndCells] using this

theorem nodup_sub_len {α : Type} [DecidableEq α] : ∀ {L M : List α}, L.Nodup → (∀ x ∈ L, x ∈ M) → L.length ≤ M.length
  | [], _, _, _ => by simp
  | x :: L, M, h, hs => by
    have h1 := List.nodup_cons.1 h
    have hx : x ∈ M := hs x (by simp)
    have := nodup_sub_len (L := L) (M := M.erase x) h1.2 (fun y hy => by
      rw [List.mem_erase_of_ne (by rintro rfl; exact h1.1 hy)]
      exact hs y (by simp [hy]))
    rw [List.length_erase_of_mem hx] at this
    have := List.length_pos_of_mem hx
    simp; omega

/-- The blocks below k, but for those of the closure and the slice's own, are as they were. -/
structure Fr (h : Nat) (v : Value) (W W' : World) (v' : Value) : Prop where
  size : W.heap.size ≤ W'.heap.size
  keep : ∀ k, h + 7 ≤ k → k < W.heap.size → some k ≠ v.ownBlock → W'.heap[k]? = W.heap[k]?
  own : v'.ownBlock = v.ownBlock ∨ ∀ g, v'.ownBlock = some g → W.heap.size ≤ g
theorem Fr.refl (h : Nat) (v : Value) (W : World) : Fr h v W W v := ⟨Nat.le_refl _, fun _ _ _ _ => rfl, .inl rfl⟩
theorem Fr.trans {h : Nat} {v v1 v2 : Value} {W W1 W2 : World} (a : Fr h v W W1 v1) (b : Fr h v1 W1 W2 v2) : Fr h v W W2 v2 where
  size := Nat.le_trans a.size b.size
  keep k h1 h2 h3 := by
    have hne : some k ≠ v1.ownBlock := by
      rcases a.own with e | e
      · rw [e]; exact h3
      · intro e2
        have := e k e2.symm
        omega
    exact (b.keep k h1 (Nat.lt_of_lt_of_le h2 a.size) hne).trans (a.keep k h1 h2 h3)
  own := by
    rcases b.own with e | e
    · rw [e]; exact a.own
    · exact .inr fun g hg => Nat.le_trans a.size (e g hg)
theorem Fr.ext {h : Nat} {v v1 : Value} {W W1 W2 : World} (a : Fr h v W W1 v1) (b : Ext W1 W2) : Fr h v W W2 v1 :=
  a.trans ⟨b.size, fun k _ h2 _ => b.block k h2, .inl rfl⟩
theorem Fr.pre {h : Nat} {v v1 : Value} {W W1 W2 : World} (b : Ext W W1) (a : Fr h v W1 W2 v1) (_hv : ∀ g, v.ownBlock = some g → g < W.heap.size) : Fr h v W W2 v1 :=
  Fr.trans (v1 := v) ⟨b.size, fun k _ h2 _ => b.block k h2, .inl rfl⟩ a

section
variable (w : World) (fa : Option Addr) (fc : Nat) (l : List Nd)
/-- The state of formula.compact's recursion. -/
structure CS (W : World) (L : List Fm) (v : Value) (D : Int → Option Int) : Prop where
  sz : w.heap.size + 7 ≤ W.heap.size
  ext : Ext w W
  cf : W.cell? ⟨w.heap.size, 0, none⟩ = some (.slice fa l.length fc)
  co : W.cell? ⟨w.heap.size + 1, 0, none⟩ = some v
  fz : W.frozen? ⟨w.heap.size + 1, 0, none⟩ = false
  cn : W.cell? ⟨w.heap.size + 3, 0, none⟩ = some (.map (some (w.heap.size + 2)))
  cd : W.cell? ⟨w.heap.size + 5, 0, none⟩ = some (.map (some (w.heap.size + 4)))
  cg : W.cell? ⟨w.heap.size + 6, 0, none⟩ = some (.func (.func 162) #[] #[.pointer (some ⟨w.heap.size + 5, 0, none⟩), .pointer (some ⟨w.heap.size, 0, none⟩), .pointer (some ⟨w.heap.size + 6, 0, none⟩), .pointer (some ⟨w.heap.size + 3, 0, none⟩), .pointer (some ⟨w.heap.size + 1, 0, none⟩)])
  own : W.ownsRow (w.heap.size + 7) 109 6 v L.length (rowN (encL L))
  mN : MapOn ndGood Nd.val W (w.heap.size + 2) (fun n => if n ∈ encL L then some ((encL L).idxOf n : Int) else none)
  mD : MapOn igood (.int .i64) W (w.heap.size + 4) D
  dD : ∀ i n, D i = some n → 0 ≤ i ∧ i.toNat < l.length ∧ trAt l i.toNat ∈ L ∧ n = idx L (trAt l i.toNat)
  nd : L.Nodup
  cl : Cl L
  ok : AllOk L
  sub : ∀ t ∈ L, t ∈ (List.range l.length).map (trAt l)
variable {w fa fc l} {W : World} {L : List Fm} {v : Value} {D : Int → Option Int}
theorem CS.len (h : CS w fa fc l W L v D) : L.length ≤ l.length := by
  have := nodup_sub_len h.nd h.sub
  simpa using this
theorem CS.vb (h : CS w fa fc l W L v D) : ∀ g, v.ownBlock = some g → w.heap.size + 7 ≤ g ∧ g < W.heap.size := h.own.lt
/-- The state lives on where its blocks are as they were. -/
theorem CS.keep (h : CS w fa fc l W L v D) {W' : World} (e : Ext w W') (hs : W.heap.size ≤ W'.heap.size) (hk : ∀ k, k < W.heap.size → (k < w.heap.size + 7 ∨ some k = v.ownBlock) → W'.heap[k]? = W.heap[k]?) : CS w fa fc l W' L v D := by
  have hz := h.sz
  have hc : ∀ b, b < w.heap.size + 7 → W'.heap[b]? = W.heap[b]? := fun b hb => hk b (by omega) (.inl hb)
  refine ⟨by omega, e, ?_, ?_, ?_, ?_, ?_, ?_, ⟨h.own.1, ?_⟩, h.mN.kept (hc _ (by omega)), h.mD.kept (hc _ (by omega)), h.dD, h.nd, h.cl, h.ok, h.sub⟩
  · rw [World.cell?_of_block (w := W) (hc _ (by simp))]; exact h.cf
  · rw [World.cell?_of_block (w := W) (hc _ (by simp))]; exact h.co
  · rw [World.frozen?_of_block (w := W) (hc _ (by simp))]; exact h.fz
  · rw [World.cell?_of_block (w := W) (hc _ (by simp))]; exact h.cn
  · rw [World.cell?_of_block (w := W) (hc _ (by simp))]; exact h.cd
  · rw [World.cell?_of_block (w := W) (hc _ (by simp))]; exact h.cg
  · rcases h.own.2 with hn | ⟨g, cap, cur, rfl, hb, hg, rest⟩
    · exact .inl hn
    · exact .inr ⟨g, cap, cur, rfl, hb, by rw [hk g (Array.getElem?_eq_some_iff.1 hg).1 (.inr rfl)]; exact hg, rest⟩
theorem CS.ext' (h : CS w fa fc l W L v D) {W' : World} (e : Ext W W') : CS w fa fc l W' L v D :=
  h.keep (h.ext.trans e) e.size (fun k hk _ => e.block k hk)
/-- A store into a block that is none of the state's. -/
theorem CS.setBox (h : CS w fa fc l W L v D) {b : Nat} (hb : w.heap.size + 7 ≤ b) (hne : some b ≠ v.ownBlock) (o : Nat) (u : Value) : CS w fa fc l (W.setCell ⟨b, o, none⟩ u) L v D :=
  h.keep (h.ext.setCell (by simp; omega) u) (by simp [World.setCell]) (fun k _ hk => Below.heap_setCell _ _ _ _ (by
    simp
    rintro rfl
    rcases hk with hk | hk
    · omega
    · exact hne hk))
end
end Wt

/- Walk: formula.compact$1, the recursive closure. -/
namespace Wt
open Go Go.RowKit Go.Maps Go.Proofs

theorem wpList_look_on {P : Program} (w : World) {ops : Array Oper} {rest : List Oper} {o : Oper} {a : Act} {Q : Exit → Act → World → Prop}
    (hg : o.guard = none) (m x : Operand) (t : TypeId) (hop : o.op = Op.lookup t m x true) (b : Nat) (hm : a.eval m = .map (some b)) (key : Value) (hx : a.eval x = key) (v : Value)
    (hrun : (Instr.lookup t (.map (some b)) key true).run P w = .ok v w) (hK : wpList P ops Q rest (a.put o.dst v) w) : wpList P ops Q (o :: rest) a w := by
  refine wpList_plain hg fun K' hK' => ?_
  unfold Oper.wp
  simp [execOp, hop, hm, hx, hrun, Result.andThen]
  exact hK' _ _ hK
theorem wpList_upd_on {P : Program} (w : World) {ops : Array Oper} {rest : List Oper} {o : Oper} {a : Act} {Q : Exit → Act → World → Prop}
    (hg : o.guard = none) (m x y : Operand) (t : TypeId) (hop : o.op = Op.mapUpdate t m x y) (b : Nat) (hm : a.eval m = .map (some b)) (key : Value) (hx : a.eval x = key) (v : Value) (hy : a.eval y = v)
    (R : World → Prop) (hrun : ∃ w', (Instr.mapUpdate t (.map (some b)) key v).run P w = .ok () w' ∧ R w') (hK : ∀ w', R w' → wpList P ops Q rest (a.put o.dst undef) w') : wpList P ops Q (o :: rest) a w := by
  refine wpList_plain hg fun K' hK' => ?_
  obtain ⟨w', h1, h2⟩ := hrun
  unfold Oper.wp
  simp [execOp, hop, hm, hx, hy, h1, Result.andThen]
  exact hK' _ _ (hK w' h2)
theorem zero_int (w : World) : (zeroValue 3).run Tryz.prog w = .ok (.int .i64 0) w := by kernel_rfl
theorem nd_inj (a b : Nd) (h : a.val = b.val) : a = b := by
  cases a; cases b
  simp only [Nd.val, Value.agg.injEq] at h
  simpa using h
theorem i_inj (a b : Int) (h : Value.int .i64 a = .int .i64 b) : a = b := by simpa using h
theorem CS.lookD {w : World} {fa : Option Addr} {fc : Nat} {l : List Nd} {W : World} {L : List Fm} {v : Value} {D : Int → Option Int} (h : CS w fa fc l W L v D) (i : Int) (hi : igood i) :
    (Instr.lookup 159 (.map (some (w.heap.size + 4))) (.int .i64 i) true).run Tryz.prog W = .ok (.tuple #[.int .i64 ((D i).getD 0), .bool (D i).isSome]) W :=
  h.mD.look int_keyed' Tryz.underlying159 (zero_int W) i_inj key_int i hi
theorem CS.lookN {w : World} {fa : Option Addr} {fc : Nat} {l : List Nd} {W : World} {L : List Fm} {v : Value} {D : Int → Option Int} (h : CS w fa fc l W L v D) (n : Nd) (hn : ndGood n) :
    (Instr.lookup 158 (.map (some (w.heap.size + 2))) n.val true).run Tryz.prog W = .ok (.tuple #[.int .i64 ((if n ∈ encL L then some ((encL L).idxOf n : Int) else none).getD 0), .bool (if n ∈ encL L then some ((encL L).idxOf n : Int) else none).isSome]) W :=
  h.mN.look node_keyed Tryz.underlying158 (zero_int W) nd_inj key_node n hn

set_option maxHeartbeats 1000000 in
theorem finish_done {w : World} {fa : Option Addr} {fc : Nat} {l : List Nd} {W : World} {L : List Fm} {v : Value} {D : Int → Option Int} (hc : CS w fa fc l W L v D) (i : Nat) (hi : i < l.length) (n : Int) (hD : D i = some n) (hl : l.length ≤ 1000) :
    Calls Tryz.prog 162 #[.int .i64 (i : Int), .pointer (some ⟨w.heap.size + 5, 0, none⟩), .pointer (some ⟨w.heap.size, 0, none⟩), .pointer (some ⟨w.heap.size + 6, 0, none⟩), .pointer (some ⟨w.heap.size + 3, 0, none⟩), .pointer (some ⟨w.heap.size + 1, 0, none⟩)] W fun e W' =>
      e = .returned (.int .i64 n) ∧ W = W' := by
  have hlk := hc.lookD i (igood_of (by omega))
  rw [hD] at hlk
  simp only [Option.getD_some, Option.isSome_some] at hlk
  have h1 := hc.cd
  have HL := Lib.hid hlk
  clear hlk
  have HD := Lib.hid hD
  clear hD
  go_enter Tryz.func162, Tryz.ntmps162
  go_wp2_with (at_lookup; refine wpList_look_on _ rfl _ _ _ rfl _ rfl _ rfl _ HL.out ?_)
  go_ret
  exact ⟨rfl, rfl⟩
end Wt

/- formula.compact$1: what a round does to the state. -/
namespace Wt
open Go Go.RowKit Go.Maps Go.Proofs Fm

theorem ext_of_grown {w W W' : World} {row : Option Nat} (h : Ext w W) (g : W.grownBy W' row) (hr : ∀ k, row = some k → w.heap.size ≤ k) : Ext w W' := Below.grown h g h.size hr
section
variable {w : World} {fa : Option Addr} {fc : Nat} {l : List Nd} {W : World} {L : List Fm} {v : Value} {D : Int → Option Int}
/-- A node is done. -/
theorem CS.done (h : CS w fa fc l W L v D) {W' : World} {i n : Int} (hm : MapOn igood (.int .i64) W' (w.heap.size + 4) (fun x => if x = i then some n else D x)) (hg : W.grownBy W' (some (w.heap.size + 4)))
    (hi : 0 ≤ i) (hil : i.toNat < l.length) (hit : trAt l i.toNat ∈ L) (hn : n = idx L (trAt l i.toNat)) : CS w fa fc l W' L v (fun x => if x = i then some n else D x) := by
  have hz := h.sz
  have hb : ∀ k, k < W.heap.size → k ≠ w.heap.size + 4 → W'.heap[k]? = W.heap[k]? := fun k hk hne => hg.block k hk (by simpa using hne)
  refine ⟨Nat.le_trans h.sz hg.size, ext_of_grown h.ext hg (fun k hk => by cases hk; omega), ?_, ?_, ?_, ?_, ?_, ?_, h.own.kept hg ?_, h.mN.kept (hb _ (by omega) (by omega)), hm, ?_, h.nd, h.cl, h.ok, h.sub⟩
  · exact hg.cell h.cf (by simp)
  · exact hg.cell h.co (by simp)
  · rw [World.frozen?_of_block (w := W) (hb _ (by simp; omega) (by simp))]; exact h.fz
  · exact hg.cell h.cn (by simp)
  · exact hg.cell h.cd (by simp)
  · exact hg.cell h.cg (by simp)
  · refine .inr fun e => ?_
    have := (h.vb _ e).1
    omega
  · intro j m hj
    have hj : (if j = i then some n else D j) = some m := hj
    by_cases e : j = i
    · subst e
      rw [if_pos rfl] at hj
      cases hj
      exact ⟨hi, hil, hit, hn⟩
    · rw [if_neg e] at hj
      exact h.dD j m hj
theorem CS.done_fr (_h : CS w fa fc l W L v D) {W' : World} (hg : W.grownBy W' (some (w.heap.size + 4))) : Fr w.heap.size v W W' v :=
  ⟨hg.size, fun k h1 h2 _ => hg.block k h2 (by simp; omega), .inl rfl⟩
/-- A new tree is put behind the others. -/
theorem CS.push (h : CS w fa fc l W L v D) {t : Fm} (hn : t ∉ L) (hk : ∀ c, kid c t → c ∈ L) (ht : fok t) (hs : t ∈ (List.range l.length).map (trAt l)) {W1 W2 : World} {v' : Value}
    (ho : W1.ownsRow (w.heap.size + 7) 109 6 v' (L.length + 1) (rowN (encL L) ++ ndCells (ndOf L t))) (g1 : W.grownBy W1 v.ownBlock) (hv : v'.ownBlock = v.ownBlock ∨ ∀ g, v'.ownBlock = some g → W.heap.size ≤ g)
    (hm : MapOn ndGood Nd.val W2 (w.heap.size + 2) (fun x => if x = ndOf L t then some (L.length : Int) else if x ∈ encL L then some ((encL L).idxOf x : Int) else none))
    (g2 : (W1.setCell ⟨w.heap.size + 1, 0, none⟩ v').grownBy W2 (some (w.heap.size + 2))) : CS w fa fc l W2 (L ++ [t]) v' D ∧ Fr w.heap.size v W W2 v' := by
  have hz := h.sz
  have hz1 : W.heap.size ≤ W1.heap.size := g1.size
  have hz2 : W1.heap.size ≤ W2.heap.size := by have := g2.size; simpa [World.setCell] using this
  have hvb := h.vb
  have b1 : ∀ k, k < W.heap.size → some k ≠ v.ownBlock → W1.heap[k]? = W.heap[k]? := fun k hk hne => g1.block k hk hne
  have b2 : ∀ k, k < W1.heap.size → k ≠ w.heap.size + 1 → k ≠ w.heap.size + 2 → W2.heap[k]? = W1.heap[k]? := fun k hk h1 h2 => by
    rw [g2.block k (by simpa [World.setCell] using hk) (by simpa using h2), Below.heap_setCell _ _ _ _ (by simpa using h1)]
  have low : ∀ k, k < w.heap.size + 7 → some k ≠ v.ownBlock := fun k hk e => by have := (hvb k e.symm).1; omega
  have b : ∀ k, k < w.heap.size + 7 → k ≠ w.heap.size + 1 → k ≠ w.heap.size + 2 → W2.heap[k]? = W.heap[k]? := fun k hk h1 h2 =>
    (b2 k (by omega) h1 h2).trans (b1 k (by omega) (low k hk))
  have co1 : W1.cell? ⟨w.heap.size + 1, 0, none⟩ = some v := by
    rw [World.cell?_of_block (w := W) (b1 _ (by simp; omega) (low _ (by simp)))]; exact h.co
  have hlt : ∀ g, v'.ownBlock = some g → w.heap.size + 7 ≤ g ∧ g < W1.heap.size := ho.lt
  refine ⟨⟨by omega, ?_, ?_, ?_, ?_, ?_, ?_, ?_, ?_, ?_, ?_, ?_, ?_, h.cl.snoc' hn hk, ?_, ?_⟩, ?_, ?_, hv⟩
  · exact ext_of_grown ((ext_of_grown h.ext g1 (fun k hk => by have := (hvb k hk).1; omega)).setCell (by simp) _) g2 (fun k hk => by cases hk; omega)
  · rw [World.cell?_of_block (w := W) (b _ (by simp) (by simp) (by simp))]; exact h.cf
  · have : (W1.setCell ⟨w.heap.size + 1, 0, none⟩ v').cell? ⟨w.heap.size + 1, 0, none⟩ = some v' := World.cell?_setCell_same _ _ _ co1
    exact g2.cell this (by simp)
  · rw [World.frozen?_of_block (w := W1.setCell ⟨w.heap.size + 1, 0, none⟩ v') (g2.block _ (by simp [World.setCell]; omega) (by simp)), World.frozen?_setCell,
      World.frozen?_of_block (w := W) (b1 _ (by simp; omega) (low _ (by simp)))]; exact h.fz
  · rw [World.cell?_of_block (w := W) (b _ (by simp) (by simp) (by simp))]; exact h.cn
  · rw [World.cell?_of_block (w := W) (b _ (by simp) (by simp) (by simp))]; exact h.cd
  · rw [World.cell?_of_block (w := W) (b _ (by simp) (by simp) (by simp))]; exact h.cg
  · have e1 : (L ++ [t]).length = L.length + 1 := by simp
    have e2 : rowN (encL (L ++ [t])) = rowN (encL L) ++ ndCells (ndOf L t) := by rw [encL_snoc h.cl hk, rowN_append]; simp [rowN]
    rw [e1, e2]
    refine ⟨ho.1, ?_⟩
    rcases ho.2 with hnil | ⟨g, cap, cur, rfl, hb, hg, rest⟩
    · exact .inl hnil
    · refine .inr ⟨g, cap, cur, rfl, hb, ?_, rest⟩
      rw [b2 g (Array.getElem?_eq_some_iff.1 hg).1 (by omega) (by omega)]; exact hg
  · have e2 : encL (L ++ [t]) = encL L ++ [ndOf L t] := encL_snoc h.cl hk
    rw [e2]
    have hni : ndOf L t ∉ encL L := fun hh => hn ((mem_encL h.ok h.cl ht hk).1 hh)
    have e3 : (fun x => if x ∈ encL L ++ [ndOf L t] then some (((encL L ++ [ndOf L t]).idxOf x : Nat) : Int) else none) = (fun x => if x = ndOf L t then some (L.length : Int) else if x ∈ encL L then some ((encL L).idxOf x : Int) else none) := by
      funext x
      by_cases hx : x = ndOf L t
      · subst hx
        rw [if_pos rfl, if_pos (by simp), List.idxOf_append, if_neg hni]
        simp
      · rw [if_neg hx]
        by_cases hx2 : x ∈ encL L
        · rw [if_pos (by simp [hx2]), if_pos hx2, List.idxOf_append, if_pos hx2]
        · rw [if_neg (by simp [hx, hx2]), if_neg hx2]
    rw [e3]; exact hm
  · exact h.mD.kept (b _ (by omega) (by omega) (by omega))
  · intro j m hj
    obtain ⟨h1, h2, h3, h4⟩ := h.dD j m hj
    exact ⟨h1, h2, by simp [h3], by rw [idx_append h3]; exact h4⟩
  · have := put_nodup (t := t) h.nd
    unfold put at this; rw [if_neg hn] at this; exact this
  · have := h.ok.put ht
    unfold put at this; rw [if_neg hn] at this; exact this
  · intro s hs'
    simp only [List.mem_append, List.mem_singleton] at hs'
    rcases hs' with hs' | rfl
    · exact h.sub s hs'
    · exact hs
  · show W.heap.size ≤ W2.heap.size
    omega
  · intro k h1 h2 h3
    exact (b2 k (by omega) (by omega) (by omega)).trans (b1 k h2 h3)
end
end Wt
