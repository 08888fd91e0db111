/- formula.compact: the maps' keys; what the recursive closure holds. -/
import Derived.Test.YtaghfmcaikjobaaGreatMBase
import Derived.Test.YtaghfmcaikjobaaGreatMFmA
import Derived.DeepKeys4
import Derived.Maps.AppendAt
namespace Wt
open Go Go.RowKit Go.Maps Go.Proofs

theorem prog_laidOut : laidOutB Tryz.prog = true := by kernel_rfl
theorem node_row : (62 : TypeId) < Tryz.prog.types.size := of_decide_eq_true (by kernel_rfl)
theorem node_wide : (match Tryz.prog.underlying 62 with | some (.array _ _) | some (.struct _) => true | _ => false) = true := by kernel_rfl
set_option maxRecDepth 100000 in
theorem node_law : WideMaps.KeyLaw Tryz.prog 62 := deep_law_laid prog_laidOut (m := 2) (by omega) node_row (by kernel_rfl) node_wide
theorem node_keyed : Keyed Tryz.prog 62 := Keyed.of_law node_law
theorem int_keyed' : Keyed Tryz.prog 3 := int_keyed Tryz.underlying3
theorem node_keyType : Tryz.prog.keyType 62 = true := by kernel_rfl
theorem node_cells : Tryz.prog.cellsOf 62 = 6 := by kernel_rfl
theorem int_cells : Tryz.prog.cellsOf 3 = 1 := by kernel_rfl
theorem pos_succ {k n : Nat} (h : k < n) : ∃ m, n = m + 1 := ⟨n - 1, by omega⟩
def igood (n : Int) : Prop := (Lit.int .i64 n).wf = true
theorem igood_of {n : Int} (h : -9223372036854775808 ≤ n ∧ n ≤ 9223372036854775807) : igood n := WalkArith.wf_i64 h
def ndGood (n : Nd) : Prop := igood n.op ∧ igood n.i ∧ igood n.e ∧ igood n.g ∧ igood n.x ∧ igood n.y
theorem key_int (n : Int) (h : igood n) : ∃ l, keyOf Tryz.prog 3 (.int .i64 n) = some l := ⟨_, keyOf_int_mk Tryz.underlying3 h⟩
theorem key_node (n : Nd) (h : ndGood n) : ∃ l, keyOf Tryz.prog 62 n.val = some l := by
  obtain ⟨h1, h2, h3, h4, h5, h6⟩ := h
  unfold igood at *
  unfold keyOf
  rw [Tryz.underlying62]
  simp only [node_keyType, Nd.val, Value.formed, Tryz.underlying62, node_cells]
  obtain ⟨m, hm⟩ : ∃ m, Tryz.prog.types.size = m + 1 := pos_succ node_row
  rw [hm]
  simp [Program.keyLits, Tryz.underlying62, Tryz.underlying3, node_cells, int_cells, Value.cells, h1, h2, h3, h4, h5, h6]
end Wt

/- formula.compact: what the recursive closure holds in memory. -/
namespace Wt
open Go Go.RowKit Go.Maps Go.Proofs

def ndCells (n : Nd) : List Value := [.int .i64 n.op, .int .i64 n.i, .int .i64 n.e, .int .i64 n.g, .int .i64 n.x, .int .i64 n.y]
def rowN (l : List Nd) : List Value := l.flatMap ndCells
theorem rowN_length (l : List Nd) : (rowN l).length = l.length * 6 := by
  unfold rowN; induction l with
  | nil => rfl
  | cons a l ih => simp [ndCells, ih]; omega
theorem rowN_get (l : List Nd) (k j : Nat) (hk : k < l.length) (hj : j < 6) : (rowN l)[k * 6 + j]? = (ndCells (nth l k))[j]? := by
  induction l generalizing k with
  | nil => simp at hk
  | cons a l ih =>
    have hs : rowN (a :: l) = ndCells a ++ rowN l := rfl
    rw [hs]
    cases k with
    | zero => rw [List.getElem?_append_left (by simp [ndCells]; omega)]; simp [nth]
    | succ k =>
      rw [List.getElem?_append_right (by simp [ndCells]; omega)]
      have e : (k + 1) * 6 + j - (ndCells a).length = k * 6 + j := by simp [ndCells]; omega
      rw [e, ih k (by simpa using hk)]
      simp [nth]
theorem rowN_append (l m : List Nd) : rowN (l ++ m) = rowN l ++ rowN m := by simp [rowN]
/-- A slice that the call owns reads as a list of nodes. -/
theorem RN_of_own {w : World} {base e : Nat} {v : Value} {l : List Nd} (h : w.ownsRow base e 6 v l.length (rowN l)) (hl : l.length ≤ 140737488355328) :
    ∃ a c, v = .slice a l.length c ∧ RN w a l := by
  rcases h.2 with ⟨rfl, h0⟩ | ⟨g, cap, cur, rfl, hb, hg, hnc, hcm, hcs, htake⟩
  · have : l = [] := List.eq_nil_of_length_eq_zero h0
    subst this
    exact ⟨none, 0, rfl, RN.nil _ _⟩
  · refine ⟨some ⟨g, 0, none⟩, cap, rfl, hl, fun k hk => ⟨g, 0, rfl, ?_⟩⟩
    have hcell : ∀ j, j < 6 → w.cell? ⟨g, 0 + k * 6 + j, none⟩ = (ndCells (nth l k))[j]? := by
      intro j hj
      rw [cell_of_row w g _ cur e (0, 0) hg, Nat.zero_add, ← rowN_get l k j hk hj, ← htake, List.getElem?_take, if_pos (by omega)]
      simp
    refine ⟨?_, ?_, ?_, ?_, ?_, ?_⟩
    · have := hcell 0 (by omega); simpa [ndCells] using this
    · have := hcell 1 (by omega); simpa [ndCells] using this
    · have := hcell 2 (by omega); simpa [ndCells] using this
    · have := hcell 3 (by omega); simpa [ndCells] using this
    · have := hcell 4 (by omega); simpa [ndCells] using this
    · have := hcell 5 (by omega); simpa [ndCells] using this

theorem nodup_sub_len {α : Type} [DecidableEq α] : ∀ {L M : List α}, L.Nodup → (∀ x ∈ L, x ∈ M) → L.length ≤ M.length
  | [], _, _, _ => by simp
  | x :: L, M, h, hs => by
    have h1 := List.nodup_cons.1 h
    have hx : x ∈ M := hs x (by simp)
    have := nodup_sub_len (L := L) (M := M.erase x) h1.2 (fun y hy => by
      rw [List.mem_erase_of_ne (by rintro rfl; exact h1.1 hy)]
      exact hs y (by simp [hy]))
    rw [List.length_erase_of_mem hx] at this
    have := List.length_pos_of_mem hx
    simp; omega

/-- The blocks below k, but for those of the closure and the slice's own, are as they were. -/
structure Fr (h : Nat) (v : Value) (W W' : World) (v' : Value) : Prop where
  size : W.heap.size ≤ W'.heap.size
  keep : ∀ k, h + 7 ≤ k → k < W.heap.size → some k ≠ v.ownBlock → W'.heap[k]? = W.heap[k]?
  own : v'.ownBlock = v.ownBlock ∨ ∀ g, v'.ownBlock = some g → W.heap.size ≤ g
theorem Fr.refl (h : Nat) (v : Value) (W : World) : Fr h v W W v := ⟨Nat.le_refl _, fun _ _ _ _ => rfl, .inl rfl⟩
theorem Fr.trans {h : Nat} {v v1 v2 : Value} {W W1 W2 : World} (a : Fr h v W W1 v1) (b : Fr h v1 W1 W2 v2) : Fr h v W W2 v2 where
  size := Nat.le_trans a.size b.size
  keep k h1 h2 h3 := by
    have hne : some k ≠ v1.ownBlock := by
      rcases a.own with e | e
      · rw [e]; exact h3
      · intro e2
        have := e k e2.symm
        omega
    exact (b.keep k h1 (Nat.lt_of_lt_of_le h2 a.size) hne).trans (a.keep k h1 h2 h3)
  own := by
    rcases b.own with e | e
    · rw [e]; exact a.own
    · exact .inr fun g hg => Nat.le_trans a.size (e g hg)
theorem Fr.ext {h : Nat} {v v1 : Value} {W W1 W2 : World} (a : Fr h v W W1 v1) (b : Ext W1 W2) : Fr h v W W2 v1 :=
  a.trans ⟨b.size, fun k _ h2 _ => b.block k h2, .inl rfl⟩
theorem Fr.pre {h : Nat} {v v1 : Value} {W W1 W2 : World} (b : Ext W W1) (a : Fr h v W1 W2 v1) (_hv : ∀ g, v.ownBlock = some g → g < W.heap.size) : Fr h v W W2 v1 :=
  Fr.trans (v1 := v) ⟨b.size, fun k _ h2 _ => b.block k h2, .inl rfl⟩ a

section
variable (w : World) (fa : Option Addr) (fc : Nat) (l : List Nd)
/-- The state of formula.compact's recursion. -/
structure CS (W : World) (L : List Fm) (v : Value) (D : Int → Option Int) : Prop where
  sz : w.heap.size + 7 ≤ W.heap.size
  ext : Ext w W
  cf : W.cell? ⟨w.heap.size, 0, none⟩ = some (.slice fa l.length fc)
  co : W.cell? ⟨w.heap.size + 1, 0, none⟩ = some v
  fz : W.frozen? ⟨w.heap.size + 1, 0, none⟩ = false
  cn : W.cell? ⟨w.heap.size + 3, 0, none⟩ = some (.map (some (w.heap.size + 2)))
  cd : W.cell? ⟨w.heap.size + 5, 0, none⟩ = some (.map (some (w.heap.size + 4)))
  cg : W.cell? ⟨w.heap.size + 6, 0, none⟩ = some (.func (.func 105) #[] #[.pointer (some ⟨w.heap.size + 5, 0, none⟩), .pointer (some ⟨w.heap.size, 0, none⟩), .pointer (some ⟨w.heap.size + 6, 0, none⟩), .pointer (some ⟨w.heap.size + 3, 0, none⟩), .pointer (some ⟨w.heap.size + 1, 0, none⟩)])
  own : W.ownsRow (w.heap.size + 7) 62 6 v L.length (rowN (encL L))
  mN : MapOn ndGood Nd.val W (w.heap.size + 2) (fun n => if n ∈ encL L then some ((encL L).idxOf n : Int) else none)
  mD : MapOn igood (.int .i64) W (w.heap.size + 4) D
  dD : ∀ i n, D i = some n → 0 ≤ i ∧ i.toNat < l.length ∧ trAt l i.toNat ∈ L ∧ n = idx L (trAt l i.toNat)
  nd : L.Nodup
  cl : Cl L
  ok : AllOk L
  sub : ∀ t ∈ L, t ∈ (List.range l.length).map (trAt l)
variable {w fa fc l} {W : World} {L : List Fm} {v : Value} {D : Int → Option Int}
theorem CS.len (h : CS w fa fc l W L v D) : L.length ≤ l.length := by
  have := nodup_sub_len h.nd h.sub
  simpa using this
theorem CS.vb (h : CS w fa fc l W L v D) : ∀ g, v.ownBlock = some g → w.heap.size + 7 ≤ g ∧ g < W.heap.size := h.own.lt
/-- The state lives on where its blocks are as they were. -/
theorem CS.keep (h : CS w fa fc l W L v D) {W' : World} (e : Ext w W') (hs : W.heap.size ≤ W'.heap.size) (hk : ∀ k, k < W.heap.size → (k < w.heap.size + 7 ∨ some k = v.ownBlock) → W'.heap[k]? = W.heap[k]?) : CS w fa fc l W' L v D := by
  have hz := h.sz
  have hc : ∀ b, b < w.heap.size + 7 → W'.heap[b]? = W.heap[b]? := fun b hb => hk b (by omega) (.inl hb)
  refine ⟨by omega, e, ?_, ?_, ?_, ?_, ?_, ?_, ⟨h.own.1, ?_⟩, h.mN.kept (hc _ (by omega)), h.mD.kept (hc _ (by omega)), h.dD, h.nd, h.cl, h.ok, h.sub⟩
  · rw [World.cell?_of_block (w := W) (hc _ (by simp))]; exact h.cf
  · rw [World.cell?_of_block (w := W) (hc _ (by simp))]; exact h.co
  · rw [World.frozen?_of_block (w := W) (hc _ (by simp))]; exact h.fz
  · rw [World.cell?_of_block (w := W) (hc _ (by simp))]; exact h.cn
  · rw [World.cell?_of_block (w := W) (hc _ (by simp))]; exact h.cd
  · rw [World.cell?_of_block (w := W) (hc _ (by simp))]; exact h.cg
  · rcases h.own.2 with hn | ⟨g, cap, cur, rfl, hb, hg, rest⟩
    · exact .inl hn
    · exact .inr ⟨g, cap, cur, rfl, hb, by rw [hk g (Array.getElem?_eq_some_iff.1 hg).1 (.inr rfl)]; exact hg, rest⟩
theorem CS.ext' (h : CS w fa fc l W L v D) {W' : World} (e : Ext W W') : CS w fa fc l W' L v D :=
  h.keep (h.ext.trans e) e.size (fun k hk _ => e.block k hk)
/-- A store into a block that is none of the state's. -/
theorem CS.setBox (h : CS w fa fc l W L v D) {b : Nat} (hb : w.heap.size + 7 ≤ b) (hne : some b ≠ v.ownBlock) (o : Nat) (u : Value) : CS w fa fc l (W.setCell ⟨b, o, none⟩ u) L v D :=
  h.keep (h.ext.setCell (by simp; omega) u) (by simp [World.setCell]) (fun k _ hk => Below.heap_setCell _ _ _ _ (by
    simp
    rintro rfl
    rcases hk with hk | hk
    · omega
    · exact hne hk))
end
end Wt

/- Walk: formula.compact$1, the recursive closure. -/
namespace Wt
open Go Go.RowKit Go.Maps Go.Proofs

theorem wpList_look_on {P : Program} (w : World) {ops : Array Oper} {rest : List Oper} {o : Oper} {a : Act} {Q : Exit → Act → World → Prop}
    (hg : o.guard = none) (m x : Operand) (t : TypeId) (hop : o.op = Op.lookup t m x true) (b : Nat) (hm : a.eval m = .map (some b)) (key : Value) (hx : a.eval x = key) (v : Value)
    (hrun : (Instr.lookup t (.map (some b)) key true).run P w = .ok v w) (hK : wpList P ops Q rest (a.put o.dst v) w) : wpList P ops Q (o :: rest) a w := by
  refine wpList_plain hg fun K' hK' => ?_
  unfold Oper.wp
  simp [execOp, hop, hm, hx, hrun, Result.andThen]
  exact hK' _ _ hK
theorem wpList_upd_on {P : Program} (w : World) {ops : Array Oper} {rest : List Oper} {o : Oper} {a : Act} {Q : Exit → Act → World → Prop}
    (hg : o.guard = none) (m x y : Operand) (t : TypeId) (hop : o.op = Op.mapUpdate t m x y) (b : Nat) (hm : a.eval m = .map (some b)) (key : Value) (hx : a.eval x = key) (v : Value) (hy : a.eval y = v)
    (R : World → Prop) (hrun : ∃ w', (Instr.mapUpdate t (.map (some b)) key v).run P w = .ok () w' ∧ R w') (hK : ∀ w', R w' → wpList P ops Q rest (a.put o.dst undef) w') : wpList P ops Q (o :: rest) a w := by
  refine wpList_plain hg fun K' hK' => ?_
  obtain ⟨w', h1, h2⟩ := hrun
  unfold Oper.wp
  simp [execOp, hop, hm, hx, hy, h1, Result.andThen]
  exact hK' _ _ (hK w' h2)
theorem zero_int (w : World) : (zeroValue 3).run Tryz.prog w = .ok (.int .i64 0) w := by kernel_rfl
theorem nd_inj (a b : Nd) (h : a.val = b.val) : a = b := by
  cases a; cases b
  simp only [Nd.val, Value.agg.injEq] at h
  simpa using h
theorem i_inj (a b : Int) (h : Value.int .i64 a = .int .i64 b) : a = b := by simpa using h
theorem CS.lookD {w : World} {fa : Option Addr} {fc : Nat} {l : List Nd} {W : World} {L : List Fm} {v : Value} {D : Int → Option Int} (h : CS w fa fc l W L v D) (i : Int) (hi : igood i) :
    (Instr.lookup 121 (.map (some (w.heap.size + 4))) (.int .i64 i) true).run Tryz.prog W = .ok (.tuple #[.int .i64 ((D i).getD 0), .bool (D i).isSome]) W :=
  h.mD.look int_keyed' Tryz.underlying121 (zero_int W) i_inj key_int i hi
theorem CS.lookN {w : World} {fa : Option Addr} {fc : Nat} {l : List Nd} {W : World} {L : List Fm} {v : Value} {D : Int → Option Int} (h : CS w fa fc l W L v D) (n : Nd) (hn : ndGood n) :
    (Instr.lookup 120 (.map (some (w.heap.size + 2))) n.val true).run Tryz.prog W = .ok (.tuple #[.int .i64 ((if n ∈ encL L then some ((encL L).idxOf n : Int) else none).getD 0), .bool (if n ∈ encL L then some ((encL L).idxOf n : Int) else none).isSome]) W :=
  h.mN.look node_keyed Tryz.underlying120 (zero_int W) nd_inj key_node n hn

set_option maxHeartbeats 1000000 in
theorem finish_done {w : World} {fa : Option Addr} {fc : Nat} {l : List Nd} {W : World} {L : List Fm} {v : Value} {D : Int → Option Int} (hc : CS w fa fc l W L v D) (i : Nat) (hi : i < l.length) (n : Int) (hD : D i = some n) (hl : l.length ≤ 1000) :
    Calls Tryz.prog 105 #[.int .i64 (i : Int), .pointer (some ⟨w.heap.size + 5, 0, none⟩), .pointer (some ⟨w.heap.size, 0, none⟩), .pointer (some ⟨w.heap.size + 6, 0, none⟩), .pointer (some ⟨w.heap.size + 3, 0, none⟩), .pointer (some ⟨w.heap.size + 1, 0, none⟩)] W fun e W' =>
      e = .returned (.int .i64 n) ∧ W = W' := by
  have hlk := hc.lookD i (igood_of (by omega))
  rw [hD] at hlk
  simp only [Option.getD_some, Option.isSome_some] at hlk
  have h1 := hc.cd
  have HL := Lib.hid hlk
  clear hlk
  have HD := Lib.hid hD
  clear hD
  go_enter Tryz.func105, Tryz.ntmps105
  go_wp2_with (at_lookup; refine wpList_look_on _ rfl _ _ _ rfl _ rfl _ rfl _ HL.out ?_)
  go_ret
  exact ⟨rfl, rfl⟩
end Wt

/- formula.compact$1: what a round does to the state. -/
namespace Wt
open Go Go.RowKit Go.Maps Go.Proofs Fm

theorem ext_of_grown {w W W' : World} {row : Option Nat} (h : Ext w W) (g : W.grownBy W' row) (hr : ∀ k, row = some k → w.heap.size ≤ k) : Ext w W' := Below.grown h g h.size hr
section
variable {w : World} {fa : Option Addr} {fc : Nat} {l : List Nd} {W : World} {L : List Fm} {v : Value} {D : Int → Option Int}
/-- A node is done. -/
theorem CS.done (h : CS w fa fc l W L v D) {W' : World} {i n : Int} (hm : MapOn igood (.int .i64) W' (w.heap.size + 4) (fun x => if x = i then some n else D x)) (hg : W.grownBy W' (some (w.heap.size + 4)))
    (hi : 0 ≤ i) (hil : i.toNat < l.length) (hit : trAt l i.toNat ∈ L) (hn : n = idx L (trAt l i.toNat)) : CS w fa fc l W' L v (fun x => if x = i then some n else D x) := by
  have hz := h.sz
  have hb : ∀ k, k < W.heap.size → k ≠ w.heap.size + 4 → W'.heap[k]? = W.heap[k]? := fun k hk hne => hg.block k hk (by simpa using hne)
  refine ⟨Nat.le_trans h.sz hg.size, ext_of_grown h.ext hg (fun k hk => by cases hk; omega), ?_, ?_, ?_, ?_, ?_, ?_, h.own.kept hg ?_, h.mN.kept (hb _ (by omega) (by omega)), hm, ?_, h.nd, h.cl, h.ok, h.sub⟩
  · exact hg.cell h.cf (by simp)
  · exact hg.cell h.co (by simp)
  · rw [World.frozen?_of_block (w := W) (hb _ (by simp; omega) (by simp))]; exact h.fz
  · exact hg.cell h.cn (by simp)
  · exact hg.cell h.cd (by simp)
  · exact hg.cell h.cg (by simp)
  · refine .inr fun e => ?_
    have := (h.vb _ e).1
    omega
  · intro j m hj
    have hj : (if j = i then some n else D j) = some m := hj
    by_cases e : j = i
    · subst e
      rw [if_pos rfl] at hj
      cases hj
      exact ⟨hi, hil, hit, hn⟩
    · rw [if_neg e] at hj
      exact h.dD j m hj
theorem CS.done_fr (_h : CS w fa fc l W L v D) {W' : World} (hg : W.grownBy W' (some (w.heap.size + 4))) : Fr w.heap.size v W W' v :=
  ⟨hg.size, fun k h1 h2 _ => hg.block k h2 (by simp; omega), .inl rfl⟩
/-- A new tree is put behind the others. -/
theorem CS.push (h : CS w fa fc l W L v D) {t : Fm} (hn : t ∉ L) (hk : ∀ c, kid c t → c ∈ L) (ht : fok t) (hs : t ∈ (List.range l.length).map (trAt l)) {W1 W2 : World} {v' : Value}
    (ho : W1.ownsRow (w.heap.size + 7) 62 6 v' (L.length + 1) (rowN (encL L) ++ ndCells (ndOf L t))) (g1 : W.grownBy W1 v.ownBlock) (hv : v'.ownBlock = v.ownBlock ∨ ∀ g, v'.ownBlock = some g → W.heap.size ≤ g)
    (hm : MapOn ndGood Nd.val W2 (w.heap.size + 2) (fun x => if x = ndOf L t then some (L.length : Int) else if x ∈ encL L then some ((encL L).idxOf x : Int) else none))
    (g2 : (W1.setCell ⟨w.heap.size + 1, 0, none⟩ v').grownBy W2 (some (w.heap.size + 2))) : CS w fa fc l W2 (L ++ [t]) v' D ∧ Fr w.heap.size v W W2 v' := by
  have hz := h.sz
  have hz1 : W.heap.size ≤ W1.heap.size := g1.size
  have hz2 : W1.heap.size ≤ W2.heap.size := by have := g2.size; simpa [World.setCell] using this
  have hvb := h.vb
  have b1 : ∀ k, k < W.heap.size → some k ≠ v.ownBlock → W1.heap[k]? = W.heap[k]? := fun k hk hne => g1.block k hk hne
  have b2 : ∀ k, k < W1.heap.size → k ≠ w.heap.size + 1 → k ≠ w.heap.size + 2 → W2.heap[k]? = W1.heap[k]? := fun k hk h1 h2 => by
    rw [g2.block k (by simpa [World.setCell] using hk) (by simpa using h2), Below.heap_setCell _ _ _ _ (by simpa using h1)]
  have low : ∀ k, k < w.heap.size + 7 → some k ≠ v.ownBlock := fun k hk e => by have := (hvb k e.symm).1; omega
  have b : ∀ k, k < w.heap.size + 7 → k ≠ w.heap.size + 1 → k ≠ w.heap.size + 2 → W2.heap[k]? = W.heap[k]? := fun k hk h1 h2 =>
    (b2 k (by omega) h1 h2).trans (b1 k (by omega) (low k hk))
  have co1 : W1.cell? ⟨w.heap.size + 1, 0, none⟩ = some v := by
    rw [World.cell?_of_block (w := W) (b1 _ (by simp; omega) (low _ (by simp)))]; exact h.co
  have hlt : ∀ g, v'.ownBlock = some g → w.heap.size + 7 ≤ g ∧ g < W1.heap.size := ho.lt
  refine ⟨⟨by omega, ?_, ?_, ?_, ?_, ?_, ?_, ?_, ?_, ?_, ?_, ?_, ?_, h.cl.snoc' hn hk, ?_, ?_⟩, ?_, ?_, hv⟩
  · exact ext_of_grown ((ext_of_grown h.ext g1 (fun k hk => by have := (hvb k hk).1; omega)).setCell (by simp) _) g2 (fun k hk => by cases hk; omega)
  · rw [World.cell?_of_block (w := W) (b _ (by simp) (by simp) (by simp))]; exact h.cf
  · have : (W1.setCell ⟨w.heap.size + 1, 0, none⟩ v').cell? ⟨w.heap.size + 1, 0, none⟩ = some v' := World.cell?_setCell_same _ _ _ co1
    exact g2.cell this (by simp)
  · rw [World.frozen?_of_block (w := W1.setCell ⟨w.heap.size + 1, 0, none⟩ v') (g2.block _ (by simp [World.setCell]; omega) (by simp)), World.frozen?_setCell,
      World.frozen?_of_block (w := W) (b1 _ (by simp; omega) (low _ (by simp)))]; exact h.fz
  · rw [World.cell?_of_block (w := W) (b _ (by simp) (by simp) (by simp))]; exact h.cn
  · rw [World.cell?_of_block (w := W) (b _ (by simp) (by simp) (by simp))]; exact h.cd
  · rw [World.cell?_of_block (w := W) (b _ (by simp) (by simp) (by simp))]; exact h.cg
  · have e1 : (L ++ [t]).length = L.length + 1 := by simp
    have e2 : rowN (encL (L ++ [t])) = rowN (encL L) ++ ndCells (ndOf L t) := by rw [encL_snoc h.cl hk, rowN_append]; simp [rowN]
    rw [e1, e2]
    refine ⟨ho.1, ?_⟩
    rcases ho.2 with hnil | ⟨g, cap, cur, rfl, hb, hg, rest⟩
    · exact .inl hnil
    · refine .inr ⟨g, cap, cur, rfl, hb, ?_, rest⟩
      rw [b2 g (Array.getElem?_eq_some_iff.1 hg).1 (by omega) (by omega)]; exact hg
  · have e2 : encL (L ++ [t]) = encL L ++ [ndOf L t] := encL_snoc h.cl hk
    rw [e2]
    have hni : ndOf L t ∉ encL L := fun hh => hn ((mem_encL h.ok h.cl ht hk).1 hh)
    have e3 : (fun x => if x ∈ encL L ++ [ndOf L t] then some (((encL L ++ [ndOf L t]).idxOf x : Nat) : Int) else none) = (fun x => if x = ndOf L t then some (L.length : Int) else if x ∈ encL L then some ((encL L).idxOf x : Int) else none) := by
      funext x
      by_cases hx : x = ndOf L t
      · subst hx
        rw [if_pos rfl, if_pos (by simp), List.idxOf_append, if_neg hni]
        simp
      · rw [if_neg hx]
        by_cases hx2 : x ∈ encL L
        · rw [if_pos (by simp [hx2]), if_pos hx2, List.idxOf_append, if_pos hx2]
        · rw [if_neg (by simp [hx, hx2]), if_neg hx2]
    rw [e3]; exact hm
  · exact h.mD.kept (b _ (by omega) (by omega) (by omega))
  · intro j m hj
    obtain ⟨h1, h2, h3, h4⟩ := h.dD j m hj
    exact ⟨h1, h2, by simp [h3], by rw [idx_append h3]; exact h4⟩
  · have := put_nodup (t := t) h.nd
    unfold put at this; rw [if_neg hn] at this; exact this
  · have := h.ok.put ht
    unfold put at this; rw [if_neg hn] at this; exact this
  · intro s hs'
    simp only [List.mem_append, List.mem_singleton] at hs'
    rcases hs' with hs' | rfl
    · exact h.sub s hs'
    · exact hs
  · show W.heap.size ≤ W2.heap.size
    omega
  · intro k h1 h2 h3
    exact (b2 k (by omega) (by omega) (by omega)).trans (b1 k h2 h3)
end
end Wt

/- Walk: formula.compact$1, a node that is not done yet. (Written by gen_fmg.py.) -/
namespace Wt
open Go Go.RowKit Go.Maps Go.Proofs Fm

theorem NdAt.new (W : World) (n : Nd) (T : Nat) : NdAt (W.alloc (.cells #[.int .i64 n.op, .int .i64 n.i, .int .i64 n.e, .int .i64 n.g, .int .i64 n.x, .int .i64 n.y] T)) W.heap.size 0 n :=
  ⟨by simp, by simp, by simp, by simp, by simp, by simp⟩
theorem NdAt.keep {W W' : World} {b o : Nat} {n : Nd} (h : NdAt W b o n) (e : W'.heap[b]? = W.heap[b]?) : NdAt W' b o n := by
  obtain ⟨h0, h1, h2, h3, h4, h5⟩ := h
  refine ⟨?_, ?_, ?_, ?_, ?_, ?_⟩
  all_goals (rw [World.cell?_of_block (w := W) e]; assumption)
theorem NdAt.setX {W : World} {b : Nat} {n : Nd} (h : NdAt W b 0 n) (x : Int) : NdAt (W.setCell ⟨b, 4, none⟩ (.int .i64 x)) b 0 { n with x := x } := by
  obtain ⟨h0, h1, h2, h3, h4, h5⟩ := h
  refine ⟨?_, ?_, ?_, ?_, ?_, ?_⟩
  · rw [World.cell?_setCell_other _ _ _ _ (by simp)]; exact h0
  · rw [World.cell?_setCell_other _ _ _ _ (by simp)]; exact h1
  · rw [World.cell?_setCell_other _ _ _ _ (by simp)]; exact h2
  · rw [World.cell?_setCell_other _ _ _ _ (by simp)]; exact h3
  · exact World.cell?_setCell_same _ _ _ h4
  · rw [World.cell?_setCell_other _ _ _ _ (by simp)]; exact h5
theorem NdAt.setY {W : World} {b : Nat} {n : Nd} (h : NdAt W b 0 n) (y : Int) : NdAt (W.setCell ⟨b, 5, none⟩ (.int .i64 y)) b 0 { n with y := y } := by
  obtain ⟨h0, h1, h2, h3, h4, h5⟩ := h
  refine ⟨?_, ?_, ?_, ?_, ?_, ?_⟩
  · rw [World.cell?_setCell_other _ _ _ _ (by simp)]; exact h0
  · rw [World.cell?_setCell_other _ _ _ _ (by simp)]; exact h1
  · rw [World.cell?_setCell_other _ _ _ _ (by simp)]; exact h2
  · rw [World.cell?_setCell_other _ _ _ _ (by simp)]; exact h3
  · rw [World.cell?_setCell_other _ _ _ _ (by simp)]; exact h4
  · exact World.cell?_setCell_same _ _ _ h5
theorem Fr.setNew {h : Nat} {v v1 : Value} {W W1 : World} (a : Fr h v W W1 v1) {b : Nat} (hb : W.heap.size ≤ b) (o : Nat) (u : Value) : Fr h v W (W1.setCell ⟨b, o, none⟩ u) v1 :=
  ⟨by have := a.size; simpa [World.setCell] using this, fun k h1 h2 h3 => (Below.heap_setCell _ _ _ _ (by simp; omega)).trans (a.keep k h1 h2 h3), a.own⟩
theorem Fr.xb {h : Nat} {v v1 : Value} {W W1 : World} (a : Fr h v W W1 v1) {b : Nat} (hb : b < W.heap.size) (hv : some b ≠ v.ownBlock) : some b ≠ v1.ownBlock := by
  rcases a.own with e | e
  · rw [e]; exact hv
  · intro e2; have := e b e2.symm; omega
theorem node_info : (Tryz.prog.info? 62).map (fun i => (i.zero, i.size, i.bytes)) = some (some (.agg #[.int .i64 0, .int .i64 0, .int .i64 0, .int .i64 0, .int .i64 0, .int .i64 0]), 6, 48) := by kernel_rfl
theorem fok_fields {t : Fm} (h : fok t) {L : List Fm} (hl : L.length ≤ 1000) (hk : ∀ c, kid c t → c ∈ L) : ndGood (ndOf L t) := by
  have key : ∀ o i e g : Int, (useOf o).2 = true → needless (useOf o).1 ⟨o, i, e, g, 0, 0⟩ = false → wide (useOf o).1 ⟨o, i, e, g, 0, 0⟩ = false → igood o ∧ igood i ∧ igood e ∧ igood g := by
    intro o i e g h1 h2 h3
    have ho : 1 ≤ o ∧ o ≤ 21 := by have := useOf_cases o h1; omega
    have hi : 0 ≤ i ∧ i ≤ 7 ∧ 0 ≤ e ∧ e ≤ 7 ∧ 0 ≤ g ∧ g ≤ 15 := by
      obtain ⟨fr, h' | h' | h' | h' | h' | h' | h' | h' | h'⟩ := useOf_pat o h1 <;> rw [h'] at h2 h3 <;> simp [needless, wide, outs] at h2 h3 <;> omega
    exact ⟨igood_of (by omega), igood_of (by omega), igood_of (by omega), igood_of (by omega)⟩
  cases t with
  | leaf o i e g =>
    obtain ⟨a, b, c, d⟩ := key o i e g h.1 h.2.2.1 h.2.2.2
    exact ⟨a, b, c, d, igood_of (by simp [ndOf]), igood_of (by simp [ndOf])⟩
  | un o i e g x =>
    obtain ⟨a, b, c, d⟩ := key o i e g h.1 h.2.2.2.1 h.2.2.2.2.1
    have := idx_lt (hk x rfl)
    exact ⟨a, b, c, d, igood_of (by simp [ndOf]; omega), igood_of (by simp [ndOf])⟩
  | bin o i e g x y =>
    obtain ⟨a, b, c, d⟩ := key o i e g h.1 h.2.2.1 h.2.2.2.1
    have := idx_lt (hk x (.inl rfl))
    have := idx_lt (hk y (.inr rfl))
    exact ⟨a, b, c, d, igood_of (by simp [ndOf]; omega), igood_of (by simp [ndOf]; omega)⟩
theorem CS.lookFound {w : World} {fa : Option Addr} {fc : Nat} {l : List Nd} {W : World} {L : List Fm} {v : Value} {D : Int → Option Int} (h : CS w fa fc l W L v D) (hl : l.length ≤ 1000) {t : Fm} {n : Nd} (ht : fok t) (hk : ∀ c, kid c t → c ∈ L) (hn : ndOf L t = n) (hm : t ∈ L) :
    (Instr.lookup 120 (.map (some (w.heap.size + 2))) n.val true).run Tryz.prog W = .ok (.tuple #[.int .i64 (idx L t : Int), .bool true]) W := by
  have hgd := fok_fields ht (L := L) (by have := h.len; omega) hk
  have hlk := h.lookN n (by rw [← hn]; exact hgd)
  have h1 : n ∈ encL L := by rw [← hn]; exact (mem_encL h.ok h.cl ht hk).2 hm
  have h2 : (encL L).idxOf n = idx L t := by rw [← hn]; exact idxOf_encL h.nd h.ok h.cl hm
  rw [if_pos h1, h2] at hlk
  exact hlk
theorem CS.lookNew {w : World} {fa : Option Addr} {fc : Nat} {l : List Nd} {W : World} {L : List Fm} {v : Value} {D : Int → Option Int} (h : CS w fa fc l W L v D) (hl : l.length ≤ 1000) {t : Fm} {n : Nd} (ht : fok t) (hk : ∀ c, kid c t → c ∈ L) (hn : ndOf L t = n) (hm : t ∉ L) :
    (Instr.lookup 120 (.map (some (w.heap.size + 2))) n.val true).run Tryz.prog W = .ok (.tuple #[.int .i64 0, .bool false]) W := by
  have hgd := fok_fields ht (L := L) (by have := h.len; omega) hk
  have hlk := h.lookN n (by rw [← hn]; exact hgd)
  have h1 : n ∉ encL L := fun hh => hm ((mem_encL h.ok h.cl ht hk).1 (by rw [hn]; exact hh))
  rw [if_neg h1] at hlk
  exact hlk
/-- Above a node the done ones are the same. -/
def Abv (i : Nat) (A B : Int → Option Int) : Prop := ∀ j : Int, (i : Int) < j → A j = B j
theorem Abv.ins {i : Nat} {A B : Int → Option Int} (h : Abv i A B) (n : Int) : Abv i (fun x => if x = (i : Int) then some n else A x) B :=
  fun j hj => (if_neg (show ¬ j = (i : Int) by omega)).trans (h j hj)
def FinPost (w : World) (fa : Option Addr) (fc : Nat) (l : List Nd) (i : Nat) (W : World) (L : List Fm) (v : Value) (D : Int → Option Int) (e : Ending) (W' : World) : Prop :=
  ∃ v' D', e = .returned (.int .i64 (idx (addT (trAt l i) L) (trAt l i))) ∧ CS w fa fc l W' (addT (trAt l i) L) v' D' ∧ Fr w.heap.size v W W' v' ∧ Abv i D' D
/-- What a call of the closure at a node does. -/
def Fin (w : World) (fa : Option Addr) (fc : Nat) (l : List Nd) (i : Nat) : Prop :=
  ∀ W L v D, CS w fa fc l W L v D →
    Calls Tryz.prog 105 #[.int .i64 (i : Int), .pointer (some ⟨w.heap.size + 5, 0, none⟩), .pointer (some ⟨w.heap.size, 0, none⟩), .pointer (some ⟨w.heap.size + 6, 0, none⟩), .pointer (some ⟨w.heap.size + 3, 0, none⟩), .pointer (some ⟨w.heap.size + 1, 0, none⟩)] W (FinPost w fa fc l i W L v D)

set_option maxRecDepth 20000 in
set_option maxHeartbeats 2000000 in
theorem finish_leaf {w : World} {fa : Option Addr} {fc : Nat} {l : List Nd} {W : World} {L : List Fm} {v : Value} {D : Int → Option Int} (hr : RN w fa l) (hw : Wf l) (hc : CS w fa fc l W L v D) (i : Nat) (hi : i < l.length) (hD : D i = none) (hl : l.length ≤ 1000)
    (fr : Int) (bf ba bg be : Bool) (hu : useOf (nth l i).op = (⟨false, false, bf, ba, bg, be, fr⟩, true)) :
    Calls Tryz.prog 105 #[.int .i64 (i : Int), .pointer (some ⟨w.heap.size + 5, 0, none⟩), .pointer (some ⟨w.heap.size, 0, none⟩), .pointer (some ⟨w.heap.size + 6, 0, none⟩), .pointer (some ⟨w.heap.size + 3, 0, none⟩), .pointer (some ⟨w.heap.size + 1, 0, none⟩)] W (FinPost w fa fc l i W L v D) := by
  have hok : fok (trAt l i) := fok_trAt hw _ i (Nat.lt_succ_self i) hi
  have ht : trAt l i = .leaf (nth l i).op (nth l i).i (nth l i).e (nth l i).g := trAt_leaf hi (by rw [hu])
  have hnd : ndOf L (trAt l i) = nth l i := by
    rw [ht]
    have hx := hw.x_zero hi (by rw [hu])
    have hy := hw.y_zero hi (by rw [hu])
    have : nth l i = ⟨(nth l i).op, (nth l i).i, (nth l i).e, (nth l i).g, (nth l i).x, (nth l i).y⟩ := rfl
    rw [this, hx, hy]; rfl
  have hkid : ∀ c, kid c (trAt l i) → c ∈ L := fun c h => by rw [ht] at h; exact h.elim
  have hadd : addT (trAt l i) L = put (trAt l i) L := by rw [ht]; rfl
  have hrange : trAt l i ∈ (List.range l.length).map (trAt l) := List.mem_map.2 ⟨i, by simpa using hi, rfl⟩
  have hlk := hc.lookD i (igood_of (by omega))
  rw [hD] at hlk
  simp only [Option.getD_none, Option.isSome_none] at hlk
  have c1 := hc.cd
  have c2 := hc.cf
  have c3 := hc.cg
  have c4 := hc.cn
  have c5 := hc.co
  have HL := Lib.hid hlk
  have HD := Lib.hid hD
  have HU := Lib.hid hu
  have HT := Lib.hid ht
  have HN := Lib.hid hnd
  have HA := Lib.hid hadd
  have HK := Lib.hid hkid
  have HVB := Lib.hid hc.vb
  have HC := Lib.hid hc
  clear hlk hD hu ht hnd hadd hkid
  obtain ⟨i0, hi1, hz0, hz1, hz2⟩ := info_parts node_info
  have hsz := hc.sz
  obtain ⟨b, off, rfl, hb, n0, n1, n2, n3, n4, n5⟩ := (hr.ext hc.ext).get hi
  clear hr hw hc
  go_enter Tryz.func105, Tryz.ntmps105
  go_wp2_with (at_lookup; refine wpList_look_on _ rfl _ _ _ rfl _ rfl _ rfl _ HL.out ?_)
  refine (uses_any _ _ _ HU.out _).mono ?_
  rintro e w1 ⟨rfl, hE⟩
  dsimp only
  have hE0 : Ext W w1 := ((Ext.refl W).alloc _).trans hE
  have hcw := HC.out.ext' hE0
  have hszw := hcw.sz
  have qx : W.heap.size < w1.heap.size := by have := Ext.size hE; simp at this; omega
  have hx := (NdAt.new W (nth l i) 62).ext hE
  have hxf : ∀ o, w1.frozen? ⟨W.heap.size, o, none⟩ = false := fun o => by
    rw [World.frozen?_of_block (w := W.alloc (.cells #[.int .i64 (nth l i).op, .int .i64 (nth l i).i, .int .i64 (nth l i).e, .int .i64 (nth l i).g, .int .i64 (nth l i).x, .int .i64 (nth l i).y] 62)) (hE.block W.heap.size (by simp))]; simp
  clear c1 c2 c3 c4 c5 n0 n1 n2 n3 n4 n5
  by_cases hm : trAt l i ∈ L
  · have HM := Lib.hid hm
    clear hm
    have HCT := Lib.hid (hcw.ext' ((Ext.refl w1).alloc (.cells #[.bool false, .bool false, .bool bf, .bool ba, .bool bg, .bool be, .int .i64 fr] 98)))
    have HX := Lib.hid (hx.ext ((Ext.refl w1).alloc (.cells #[.bool false, .bool false, .bool bf, .bool ba, .bool bg, .bool be, .int .i64 fr] 98)))
    have HFR := Lib.hid (((Fr.refl w.heap.size v W).ext hE0).ext ((Ext.refl w1).alloc (.cells #[.bool false, .bool false, .bool bf, .bool ba, .bool bg, .bool be, .int .i64 fr] 98)))
    have HDD := HD
    have HJ : Hid (Abv i D D) := fun _ _ => rfl
    have HXB : Hid (some W.heap.size ≠ v.ownBlock) := fun e => by have := (HVB.out _ e.symm).2; omega
    have p4 := hcw.cn
    have p3 : w.heap.size + 3 < w1.heap.size := by omega
    obtain ⟨z0, z1, z2, z3, z4, z5⟩ := hx
    go_wp2_with (first
      | (at_lookup
         generalize w1.alloc (.cells #[.bool false, .bool false, .bool bf, .bool ba, .bool bg, .bool be, .int .i64 fr] 98) = WT at HCT HX HFR ⊢
         have hcT := HCT.out
         have d1 := hcT.cd
         have d4 := hcT.cn
         have d5 := hcT.co
         have f5 := hcT.fz
         obtain ⟨x0, x1, x2, x3, x4, x5⟩ := HX.out
         have HLF := Lib.hid (hcT.lookFound hl hok HK.out HN.out HM.out)
         refine wpList_look_on _ rfl _ _ 120 rfl _ rfl _ rfl _ HLF.out ?_)
      | (at_mapUpdate
         refine wpList_upd_on _ rfl _ _ _ 121 rfl _ rfl _ rfl _ rfl _ (HCT.out.mD.ins int_keyed' Tryz.underlying121 key_int i_inj _ (igood_of (by omega)) HDD.out _) ?_
         intro W2 hW2))
    go_ret
    unfold FinPost
    rw [HA.out, put_of_mem HM.out]
    exact ⟨_, _, rfl, HCT.out.done hW2.1 hW2.2 (by omega) (by simpa using hi) (by simpa using HM.out) (by simp), HFR.out.trans (HCT.out.done_fr hW2.2), HJ.out.ins _⟩
  · have HM := Lib.hid hm
    clear hm
    have HCT := Lib.hid (hcw.ext' ((Ext.refl w1).alloc (.cells #[.bool false, .bool false, .bool bf, .bool ba, .bool bg, .bool be, .int .i64 fr] 98)))
    have HX := Lib.hid (hx.ext ((Ext.refl w1).alloc (.cells #[.bool false, .bool false, .bool bf, .bool ba, .bool bg, .bool be, .int .i64 fr] 98)))
    have HFR := Lib.hid (((Fr.refl w.heap.size v W).ext hE0).ext ((Ext.refl w1).alloc (.cells #[.bool false, .bool false, .bool bf, .bool ba, .bool bg, .bool be, .int .i64 fr] 98)))
    have HDD := HD
    have HJ : Hid (Abv i D D) := fun _ _ => rfl
    have HXB : Hid (some W.heap.size ≠ v.ownBlock) := fun e => by have := (HVB.out _ e.symm).2; omega
    have p4 := hcw.cn
    have p3 : w.heap.size + 3 < w1.heap.size := by omega
    obtain ⟨z0, z1, z2, z3, z4, z5⟩ := hx
    go_wp2_with (first
      | (at_lookup
         generalize w1.alloc (.cells #[.bool false, .bool false, .bool bf, .bool ba, .bool bg, .bool be, .int .i64 fr] 98) = WT at HCT HX HFR ⊢
         have hcT := HCT.out
         have d1 := hcT.cd
         have d4 := hcT.cn
         have d5 := hcT.co
         have f5 := hcT.fz
         obtain ⟨x0, x1, x2, x3, x4, x5⟩ := HX.out
         have q1 : w.heap.size + 1 < WT.heap.size := by have := hcT.sz; omega
         have q3 : w.heap.size + 3 < WT.heap.size := by have := hcT.sz; omega
         have qb : W.heap.size < WT.heap.size := World.block_lt_of_cell? _ _ x0
         obtain ⟨va, vc, hv, hrn⟩ := RN_of_own (l := encL L) (by rw [encL_length]; exact hcT.own) (by rw [encL_length]; have := hcT.len; omega)
         rw [encL_length] at hv
         subst hv
         have HLF := Lib.hid (hcT.lookNew hl hok HK.out HN.out HM.out)
         refine wpList_look_on _ rfl _ _ 120 rfl _ rfl _ rfl _ HLF.out ?_)
      | (at_builtin
         refine wpList_append_own_at _ rfl _ _ 26 rfl (w.heap.size + 7) 62 i0 _ 6 48 Tryz.underlying26 hi1 hz0 hz1 hz2 rfl (by decide) _ _ _ rfl (HCT.out.own.alloc _) ⟨WT.heap.size, 0, none⟩ 1 1 (ndCells (nth l i)) rfl rfl ?c1 ?c2 ?c3 ?c4 ?c5 ?_))
    case c1 =>
      intro j u hj
      have hjl : j < 6 := by have := (List.getElem?_eq_some_iff.1 hj).1; simpa [ndCells] using this
      rw [← hj]
      rcases (show j = 0 ∨ j = 1 ∨ j = 2 ∨ j = 3 ∨ j = 4 ∨ j = 5 by omega) with rfl | rfl | rfl | rfl | rfl | rfl <;> simp [Addr.add, ndCells]
    case c2 =>
      intro u hu'
      simp [ndCells] at hu'
      rcases hu' with rfl | rfl | rfl | rfl | rfl | rfl <;> rfl
    case c3 => have := HCT.out.len; unfold maxLen; omega
    case c4 => have := HCT.out.len; omega
    case c5 => have := HCT.out.sz; simp; omega
    intro v' W3 hown hgr hnil hloc
    have hlen := HCT.out.len
    have hgd := fok_fields hok (L := L) (by omega) HK.out
    rw [HN.out] at hgd
    generalize HWN : WT.alloc (.cells (ndCells (nth l i)).toArray 62) = WN
    have hE2 : Ext WT WN := by rw [← HWN]; exact (Ext.refl _).alloc _
    have hgr2 : WN.grownBy W3 (Value.slice va (L).length vc).ownBlock := by rw [← HWN]; exact hgr
    have hloc1 : v'.ownBlock = (Value.slice va (L).length vc).ownBlock ∨ v'.ownBlock = some (WT.heap.size + 1) := by simpa using hloc
    have hszN : WT.heap.size ≤ WN.heap.size := hE2.size
    clear hgr hloc
    have hc2 := HCT.out.ext' hE2
    have hvb := HCT.out.vb
    have r1 := hgr2.cell hc2.co (by intro e; have := (hvb _ e.symm).1; simp at this)
    have r3 := hgr2.cell hc2.cn (by intro e; have := (hvb _ e.symm).1; simp at this)
    have g1 : W3.frozen? ⟨w.heap.size + 1, 0, none⟩ = false := by
      rw [World.frozen?_of_block (hgr2.block (w.heap.size + 1) (by have := hc2.sz; omega) (by intro e; have := (hvb _ e.symm).1; omega))]; exact hc2.fz
    have y0 := hgr2.cell (hE2.cell x0) HXB.out
    have y1 := hgr2.cell (hE2.cell x1) HXB.out
    have y2 := hgr2.cell (hE2.cell x2) HXB.out
    have y3 := hgr2.cell (hE2.cell x3) HXB.out
    have y4 := hgr2.cell (hE2.cell x4) HXB.out
    have y5 := hgr2.cell (hE2.cell x5) HXB.out
    have hmN3 : MapOn ndGood Nd.val (W3.setCell ⟨w.heap.size + 1, 0, none⟩ v') (w.heap.size + 2) (fun n => if n ∈ encL (L) then some ((encL (L)).idxOf n : Int) else none) :=
      hc2.mN.kept (by
        rw [Below.heap_setCell _ _ _ _ (by simp)]
        exact hgr2.block _ (by have := hc2.sz; omega) (by intro e; have := (hvb _ e.symm).1; omega))
    have hni : (nth l i) ∉ encL (L) := fun hh => HM.out ((mem_encL HCT.out.ok HCT.out.cl hok HK.out).1 (by rw [HN.out]; exact hh))
    have hni2 : (if (nth l i) ∈ encL (L) then some ((encL (L)).idxOf (nth l i) : Int) else none) = none := if_neg hni
    have hloc2 : v'.ownBlock = (Value.slice va (L).length vc).ownBlock ∨ ∀ g, v'.ownBlock = some g → WN.heap.size ≤ g := by
      rcases hloc1 with e | e
      · exact .inl e
      · refine .inr fun g hg => ?_
        rw [e] at hg; cases hg
        rw [← HWN]; simp
    have hown2 : W3.ownsRow (w.heap.size + 7) 62 6 v' ((L).length + 1) (rowN (encL (L)) ++ ndCells (ndOf (L) (trAt l i))) := by rw [HN.out]; exact hown
    have hlen3 : (encL (L) ++ [(nth l i)]).length = (L).length + 1 := by simp
    obtain ⟨va', vc', hv', _⟩ := RN_of_own (l := encL (L) ++ [(nth l i)]) (by rw [hlen3, rowN_append]; simpa [rowN] using hown) (by rw [hlen3]; omega)
    rw [hlen3] at hv'
    have HNI := Lib.hid hni2
    have HO := Lib.hid hown2
    have HLO := Lib.hid hloc2
    have HGR := Lib.hid hgr2
    have HC2 := Lib.hid hc2
    have HMN := Lib.hid hmN3
    have HE2 := Lib.hid hE2
    clear hni2 hown2 hloc2 hgr2 hc2 hmN3 hown hloc1 hnil hE2 x0 x1 x2 x3 x4 x5 d1 d4 d5 f5 hni
    subst hv'
    have n13 : W.heap.size ≠ w.heap.size + 1 := by omega
    go_wp2_with (first | (at_mapUpdate; refine wpList_upd_on _ rfl _ _ _ 120 rfl _ rfl _ rfl _ rfl _ (HMN.out.ins node_keyed Tryz.underlying120 key_node nd_inj (nth l i) hgd HNI.out _) ?_; intro W4 hW4; obtain ⟨hm4, hg4⟩ := hW4; have hp := HC2.out.push HM.out HK.out hok hrange HO.out HGR.out HLO.out (by rw [HN.out]; exact hm4) hg4; obtain ⟨hc4, hf4⟩ := hp; have s5 := hc4.cd; clear r1 r3 g1 y0 y1 y2 y3 y4 y5) | (at_mapUpdate; refine wpList_upd_on _ rfl _ _ _ 121 rfl _ rfl _ rfl _ rfl _ (hc4.mD.ins int_keyed' Tryz.underlying121 key_int i_inj _ (igood_of (by omega)) HDD.out _) ?_; intro W5 hW5))
    go_ret
    unfold FinPost
    have hput : addT (trAt l i) L = L ++ [trAt l i] := by rw [HA.out]; unfold put; rw [if_neg HM.out]
    rw [hput]
    have hidx : idx (L ++ [trAt l i]) (trAt l i) = (L).length := idx_new HM.out
    rw [hidx]
    refine ⟨_, _, rfl, hc4.done hW5.1 hW5.2 (by omega) (by simpa using hi) (by simp) (by simp only [Int.toNat_natCast]; rw [hidx]), ?_, HJ.out.ins _⟩
    exact (HFR.out.ext HE2.out).trans (hf4.trans (hc4.done_fr hW5.2))
set_option maxRecDepth 20000 in
set_option maxHeartbeats 2000000 in
theorem finish_un {w : World} {fa : Option Addr} {fc : Nat} {l : List Nd} {W : World} {L : List Fm} {v : Value} {D : Int → Option Int} (hr : RN w fa l) (hw : Wf l) (hc : CS w fa fc l W L v D) (i : Nat) (hi : i < l.length) (hD : D i = none) (hl : l.length ≤ 1000)
    (fr : Int) (bf ba bg be : Bool) (hu : useOf (nth l i).op = (⟨true, false, bf, ba, bg, be, fr⟩, true)) (ihx : Fin w fa fc l (nth l i).x.toNat) :
    Calls Tryz.prog 105 #[.int .i64 (i : Int), .pointer (some ⟨w.heap.size + 5, 0, none⟩), .pointer (some ⟨w.heap.size, 0, none⟩), .pointer (some ⟨w.heap.size + 6, 0, none⟩), .pointer (some ⟨w.heap.size + 3, 0, none⟩), .pointer (some ⟨w.heap.size + 1, 0, none⟩)] W (FinPost w fa fc l i W L v D) := by
  have hok : fok (trAt l i) := fok_trAt hw _ i (Nat.lt_succ_self i) hi
  have ht := trAt_un hw hi (by rw [hu]) (by rw [hu])
  obtain ⟨hx0, hxl⟩ := hw.x_lt hi (by rw [hu])
  obtain ⟨kx, hkx⟩ := Int.eq_ofNat_of_zero_le hx0
  rw [hkx, Int.toNat_natCast] at ht ihx hxl
  have hnd : ndOf (addT (trAt l kx) L) (trAt l i) = { (nth l i) with x := (idx (addT (trAt l kx) L) (trAt l kx) : Int) } := by
    rw [ht]
    have hy := hw.y_zero hi (by rw [hu])
    have : nth l i = ⟨(nth l i).op, (nth l i).i, (nth l i).e, (nth l i).g, (nth l i).x, (nth l i).y⟩ := rfl
    rw [this, hy]; rfl
  have hkid : ∀ c, kid c (trAt l i) → c ∈ addT (trAt l kx) L := fun c h => by rw [ht] at h; rw [show c = trAt l kx from h]; exact addT_mem _ _
  have hadd : addT (trAt l i) L = put (trAt l i) (addT (trAt l kx) L) := by rw [ht]; rfl
  have HKX := Lib.hid hkx
  clear hkx hx0
  have hrange : trAt l i ∈ (List.range l.length).map (trAt l) := List.mem_map.2 ⟨i, by simpa using hi, rfl⟩
  have hlk := hc.lookD i (igood_of (by omega))
  rw [hD] at hlk
  simp only [Option.getD_none, Option.isSome_none] at hlk
  have c1 := hc.cd
  have c2 := hc.cf
  have c3 := hc.cg
  have c4 := hc.cn
  have c5 := hc.co
  have HL := Lib.hid hlk
  have HD := Lib.hid hD
  have HU := Lib.hid hu
  have HT := Lib.hid ht
  have HN := Lib.hid hnd
  have HA := Lib.hid hadd
  have HK := Lib.hid hkid
  have HVB := Lib.hid hc.vb
  have HC := Lib.hid hc
  have Hihx := Lib.hid ihx
  clear ihx
  clear hlk hD hu ht hnd hadd hkid
  obtain ⟨i0, hi1, hz0, hz1, hz2⟩ := info_parts node_info
  have hsz := hc.sz
  obtain ⟨b, off, rfl, hb, n0, n1, n2, n3, n4, n5⟩ := (hr.ext hc.ext).get hi
  clear hr hw hc
  go_enter Tryz.func105, Tryz.ntmps105
  go_wp2_with (at_lookup; refine wpList_look_on _ rfl _ _ _ rfl _ rfl _ rfl _ HL.out ?_)
  refine (uses_any _ _ _ HU.out _).mono ?_
  rintro e w1 ⟨rfl, hE⟩
  dsimp only
  have hE0 : Ext W w1 := ((Ext.refl W).alloc _).trans hE
  have hcw := HC.out.ext' hE0
  have hszw := hcw.sz
  have qx : W.heap.size < w1.heap.size := by have := Ext.size hE; simp at this; omega
  have hx := (NdAt.new W (nth l i) 62).ext hE
  have hxf : ∀ o, w1.frozen? ⟨W.heap.size, o, none⟩ = false := fun o => by
    rw [World.frozen?_of_block (w := W.alloc (.cells #[.int .i64 (nth l i).op, .int .i64 (nth l i).i, .int .i64 (nth l i).e, .int .i64 (nth l i).g, .int .i64 (nth l i).x, .int .i64 (nth l i).y] 62)) (hE.block W.heap.size (by simp))]; simp
  clear c1 c2 c3 c4 c5 n0 n1 n2 n3 n4 n5
  by_cases hm : trAt l i ∈ (addT (trAt l kx) L)
  · have HM := Lib.hid hm
    clear hm
    have HCU := Lib.hid (hcw.ext' ((Ext.refl w1).alloc (.cells #[.bool true, .bool false, .bool bf, .bool ba, .bool bg, .bool be, .int .i64 fr] 98)))
    have HFU := Lib.hid (((Fr.refl w.heap.size v W).ext hE0).ext ((Ext.refl w1).alloc (.cells #[.bool true, .bool false, .bool bf, .bool ba, .bool bg, .bool be, .int .i64 fr] 98)))
    have HXU := Lib.hid (hx.ext ((Ext.refl w1).alloc (.cells #[.bool true, .bool false, .bool bf, .bool ba, .bool bg, .bool be, .int .i64 fr] 98)))
    have HXB0 : Hid (some W.heap.size ≠ v.ownBlock) := fun e => by have := (HVB.out _ e.symm).2; omega
    have HUB0 : Hid (some w1.heap.size ≠ v.ownBlock) := fun e => by have := (HVB.out _ e.symm).2; omega
    have p4 := hcw.cn
    have p6 := hcw.cg
    have p3 : w.heap.size + 3 < w1.heap.size := by omega
    have p7 : w.heap.size + 6 < w1.heap.size := by omega
    have x4 := hx.2.2.2.2.1
    rw [HKX.out] at x4
    clear hcw hx
    go_wp2_with (first
      | (go_at_call 105
         refine (Hihx.out _ _ _ _ HCU.out).mono ?_
         rintro e w2 ⟨v1, D1, rfl, hc2, hf2, hj2⟩
         clear Hihx
         have HKB := Lib.hid (hf2.keep W.heap.size (by omega) (by simp; omega) HXB0.out)
         have HUB := Lib.hid (hf2.keep w1.heap.size (by omega) (by simp) HUB0.out)
         have hx2 := HXU.out.keep HKB.out
         have hxf2 : ∀ o, w2.frozen? ⟨W.heap.size, o, none⟩ = false := fun o => by rw [World.frozen?_of_block (w := w1.alloc (.cells #[.bool true, .bool false, .bool bf, .bool ba, .bool bg, .bool be, .int .i64 fr] 98)) HKB.out, World.frozen?_of_block (w := w1) (((Ext.refl w1).alloc (.cells #[.bool true, .bool false, .bool bf, .bool ba, .bool bg, .bool be, .int .i64 fr] 98)).block _ qx)]; exact hxf o
         have hub : w2.cell? ⟨w1.heap.size, 1, none⟩ = some (.bool false) := by rw [World.cell?_of_block (w := w1.alloc (.cells #[.bool true, .bool false, .bool bf, .bool ba, .bool bg, .bool be, .int .i64 fr] 98)) HUB.out]; simp
         have r4 := hc2.cn
         have r6 := hc2.cg
         have bx1 : w1.heap.size ≠ W.heap.size := by omega
         have bx2 : w.heap.size + 3 ≠ W.heap.size := by omega
         have bx3 : w.heap.size + 6 ≠ W.heap.size := by omega
         have HX2 := Lib.hid hx2
         have HF2 := Lib.hid (HFU.out.trans hf2)
         have HC2 := Lib.hid hc2
         have HJ2 := Lib.hid hj2
         have HXB1 := Lib.hid (hf2.xb (b := W.heap.size) (by simp; omega) HXB0.out)
         obtain ⟨z0, z1, z2, z3, z4, z5⟩ := hx2
         have HCT := Lib.hid (HC2.out.setBox (b := W.heap.size) (by omega) HXB1.out 4 (.int .i64 (idx (addT (trAt l kx) L) (trAt l kx) : Int)))
         have HX := Lib.hid (HX2.out.setX (idx (addT (trAt l kx) L) (trAt l kx) : Int))
         have HFR := Lib.hid (HF2.out.setNew (b := W.heap.size) (Nat.le_refl _) 4 (.int .i64 (idx (addT (trAt l kx) L) (trAt l kx) : Int)))
         have HDD : Hid (D1 (i : Int) = none) := (HJ2.out i (by omega)).trans HD.out
         have HJ : Hid (Abv i D1 D) := fun j hj => HJ2.out j (by omega)
         have HXB := HXB1
         clear hf2 hc2 hj2 p4 p6 x4)
      | (at_lookup
         generalize w2.setCell ⟨W.heap.size, 4, none⟩ (.int .i64 (idx (addT (trAt l kx) L) (trAt l kx) : Int)) = WT at HCT HX HFR ⊢
         have hcT := HCT.out
         have d1 := hcT.cd
         have d4 := hcT.cn
         have d5 := hcT.co
         have f5 := hcT.fz
         obtain ⟨x0, x1, x2, x3, x4, x5⟩ := HX.out
         have HLF := Lib.hid (hcT.lookFound hl hok HK.out HN.out HM.out)
         refine wpList_look_on _ rfl _ _ 120 rfl _ rfl _ rfl _ HLF.out ?_)
      | (at_mapUpdate
         refine wpList_upd_on _ rfl _ _ _ 121 rfl _ rfl _ rfl _ rfl _ (HCT.out.mD.ins int_keyed' Tryz.underlying121 key_int i_inj _ (igood_of (by omega)) HDD.out _) ?_
         intro W2 hW2))
    go_ret
    unfold FinPost
    rw [HA.out, put_of_mem HM.out]
    exact ⟨_, _, rfl, HCT.out.done hW2.1 hW2.2 (by omega) (by simpa using hi) (by simpa using HM.out) (by simp), HFR.out.trans (HCT.out.done_fr hW2.2), HJ.out.ins _⟩
  · have HM := Lib.hid hm
    clear hm
    have HCU := Lib.hid (hcw.ext' ((Ext.refl w1).alloc (.cells #[.bool true, .bool false, .bool bf, .bool ba, .bool bg, .bool be, .int .i64 fr] 98)))
    have HFU := Lib.hid (((Fr.refl w.heap.size v W).ext hE0).ext ((Ext.refl w1).alloc (.cells #[.bool true, .bool false, .bool bf, .bool ba, .bool bg, .bool be, .int .i64 fr] 98)))
    have HXU := Lib.hid (hx.ext ((Ext.refl w1).alloc (.cells #[.bool true, .bool false, .bool bf, .bool ba, .bool bg, .bool be, .int .i64 fr] 98)))
    have HXB0 : Hid (some W.heap.size ≠ v.ownBlock) := fun e => by have := (HVB.out _ e.symm).2; omega
    have HUB0 : Hid (some w1.heap.size ≠ v.ownBlock) := fun e => by have := (HVB.out _ e.symm).2; omega
    have p4 := hcw.cn
    have p6 := hcw.cg
    have p3 : w.heap.size + 3 < w1.heap.size := by omega
    have p7 : w.heap.size + 6 < w1.heap.size := by omega
    have x4 := hx.2.2.2.2.1
    rw [HKX.out] at x4
    clear hcw hx
    go_wp2_with (first
      | (go_at_call 105
         refine (Hihx.out _ _ _ _ HCU.out).mono ?_
         rintro e w2 ⟨v1, D1, rfl, hc2, hf2, hj2⟩
         clear Hihx
         have HKB := Lib.hid (hf2.keep W.heap.size (by omega) (by simp; omega) HXB0.out)
         have HUB := Lib.hid (hf2.keep w1.heap.size (by omega) (by simp) HUB0.out)
         have hx2 := HXU.out.keep HKB.out
         have hxf2 : ∀ o, w2.frozen? ⟨W.heap.size, o, none⟩ = false := fun o => by rw [World.frozen?_of_block (w := w1.alloc (.cells #[.bool true, .bool false, .bool bf, .bool ba, .bool bg, .bool be, .int .i64 fr] 98)) HKB.out, World.frozen?_of_block (w := w1) (((Ext.refl w1).alloc (.cells #[.bool true, .bool false, .bool bf, .bool ba, .bool bg, .bool be, .int .i64 fr] 98)).block _ qx)]; exact hxf o
         have hub : w2.cell? ⟨w1.heap.size, 1, none⟩ = some (.bool false) := by rw [World.cell?_of_block (w := w1.alloc (.cells #[.bool true, .bool false, .bool bf, .bool ba, .bool bg, .bool be, .int .i64 fr] 98)) HUB.out]; simp
         have r4 := hc2.cn
         have r6 := hc2.cg
         have bx1 : w1.heap.size ≠ W.heap.size := by omega
         have bx2 : w.heap.size + 3 ≠ W.heap.size := by omega
         have bx3 : w.heap.size + 6 ≠ W.heap.size := by omega
         have HX2 := Lib.hid hx2
         have HF2 := Lib.hid (HFU.out.trans hf2)
         have HC2 := Lib.hid hc2
         have HJ2 := Lib.hid hj2
         have HXB1 := Lib.hid (hf2.xb (b := W.heap.size) (by simp; omega) HXB0.out)
         obtain ⟨z0, z1, z2, z3, z4, z5⟩ := hx2
         have HCT := Lib.hid (HC2.out.setBox (b := W.heap.size) (by omega) HXB1.out 4 (.int .i64 (idx (addT (trAt l kx) L) (trAt l kx) : Int)))
         have HX := Lib.hid (HX2.out.setX (idx (addT (trAt l kx) L) (trAt l kx) : Int))
         have HFR := Lib.hid (HF2.out.setNew (b := W.heap.size) (Nat.le_refl _) 4 (.int .i64 (idx (addT (trAt l kx) L) (trAt l kx) : Int)))
         have HDD : Hid (D1 (i : Int) = none) := (HJ2.out i (by omega)).trans HD.out
         have HJ : Hid (Abv i D1 D) := fun j hj => HJ2.out j (by omega)
         have HXB := HXB1
         clear hf2 hc2 hj2 p4 p6 x4)
      | (at_lookup
         generalize w2.setCell ⟨W.heap.size, 4, none⟩ (.int .i64 (idx (addT (trAt l kx) L) (trAt l kx) : Int)) = WT at HCT HX HFR ⊢
         have hcT := HCT.out
         have d1 := hcT.cd
         have d4 := hcT.cn
         have d5 := hcT.co
         have f5 := hcT.fz
         obtain ⟨x0, x1, x2, x3, x4, x5⟩ := HX.out
         have q1 : w.heap.size + 1 < WT.heap.size := by have := hcT.sz; omega
         have q3 : w.heap.size + 3 < WT.heap.size := by have := hcT.sz; omega
         have qb : W.heap.size < WT.heap.size := World.block_lt_of_cell? _ _ x0
         obtain ⟨va, vc, hv, hrn⟩ := RN_of_own (l := encL (addT (trAt l kx) L)) (by rw [encL_length]; exact hcT.own) (by rw [encL_length]; have := hcT.len; omega)
         rw [encL_length] at hv
         subst hv
         have HLF := Lib.hid (hcT.lookNew hl hok HK.out HN.out HM.out)
         refine wpList_look_on _ rfl _ _ 120 rfl _ rfl _ rfl _ HLF.out ?_)
      | (at_builtin
         refine wpList_append_own_at _ rfl _ _ 26 rfl (w.heap.size + 7) 62 i0 _ 6 48 Tryz.underlying26 hi1 hz0 hz1 hz2 rfl (by decide) _ _ _ rfl (HCT.out.own.alloc _) ⟨WT.heap.size, 0, none⟩ 1 1 (ndCells { (nth l i) with x := (idx (addT (trAt l kx) L) (trAt l kx) : Int) }) rfl rfl ?c1 ?c2 ?c3 ?c4 ?c5 ?_))
    case c1 =>
      intro j u hj
      have hjl : j < 6 := by have := (List.getElem?_eq_some_iff.1 hj).1; simpa [ndCells] using this
      rw [← hj]
      rcases (show j = 0 ∨ j = 1 ∨ j = 2 ∨ j = 3 ∨ j = 4 ∨ j = 5 by omega) with rfl | rfl | rfl | rfl | rfl | rfl <;> simp [ndCells]
    case c2 =>
      intro u hu'
      simp [ndCells] at hu'
      rcases hu' with rfl | rfl | rfl | rfl | rfl | rfl <;> rfl
    case c3 => have := HCT.out.len; unfold maxLen; omega
    case c4 => have := HCT.out.len; omega
    case c5 => have := HCT.out.sz; simp; omega
    intro v' W3 hown hgr hnil hloc
    have hlen := HCT.out.len
    have hgd := fok_fields hok (L := (addT (trAt l kx) L)) (by omega) HK.out
    rw [HN.out] at hgd
    generalize HWN : WT.alloc (.cells (ndCells { (nth l i) with x := (idx (addT (trAt l kx) L) (trAt l kx) : Int) }).toArray 62) = WN
    have hE2 : Ext WT WN := by rw [← HWN]; exact (Ext.refl _).alloc _
    have hgr2 : WN.grownBy W3 (Value.slice va ((addT (trAt l kx) L)).length vc).ownBlock := by rw [← HWN]; exact hgr
    have hloc1 : v'.ownBlock = (Value.slice va ((addT (trAt l kx) L)).length vc).ownBlock ∨ v'.ownBlock = some (WT.heap.size + 1) := by simpa using hloc
    have hszN : WT.heap.size ≤ WN.heap.size := hE2.size
    clear hgr hloc
    have hc2 := HCT.out.ext' hE2
    have hvb := HCT.out.vb
    have r1 := hgr2.cell hc2.co (by intro e; have := (hvb _ e.symm).1; simp at this)
    have r3 := hgr2.cell hc2.cn (by intro e; have := (hvb _ e.symm).1; simp at this)
    have g1 : W3.frozen? ⟨w.heap.size + 1, 0, none⟩ = false := by
      rw [World.frozen?_of_block (hgr2.block (w.heap.size + 1) (by have := hc2.sz; omega) (by intro e; have := (hvb _ e.symm).1; omega))]; exact hc2.fz
    have y0 := hgr2.cell (hE2.cell x0) HXB.out
    have y1 := hgr2.cell (hE2.cell x1) HXB.out
    have y2 := hgr2.cell (hE2.cell x2) HXB.out
    have y3 := hgr2.cell (hE2.cell x3) HXB.out
    have y4 := hgr2.cell (hE2.cell x4) HXB.out
    have y5 := hgr2.cell (hE2.cell x5) HXB.out
    have hmN3 : MapOn ndGood Nd.val (W3.setCell ⟨w.heap.size + 1, 0, none⟩ v') (w.heap.size + 2) (fun n => if n ∈ encL ((addT (trAt l kx) L)) then some ((encL ((addT (trAt l kx) L))).idxOf n : Int) else none) :=
      hc2.mN.kept (by
        rw [Below.heap_setCell _ _ _ _ (by simp)]
        exact hgr2.block _ (by have := hc2.sz; omega) (by intro e; have := (hvb _ e.symm).1; omega))
    have hni : { (nth l i) with x := (idx (addT (trAt l kx) L) (trAt l kx) : Int) } ∉ encL ((addT (trAt l kx) L)) := fun hh => HM.out ((mem_encL HCT.out.ok HCT.out.cl hok HK.out).1 (by rw [HN.out]; exact hh))
    have hni2 : (if { (nth l i) with x := (idx (addT (trAt l kx) L) (trAt l kx) : Int) } ∈ encL ((addT (trAt l kx) L)) then some ((encL ((addT (trAt l kx) L))).idxOf { (nth l i) with x := (idx (addT (trAt l kx) L) (trAt l kx) : Int) } : Int) else none) = none := if_neg hni
    have hloc2 : v'.ownBlock = (Value.slice va ((addT (trAt l kx) L)).length vc).ownBlock ∨ ∀ g, v'.ownBlock = some g → WN.heap.size ≤ g := by
      rcases hloc1 with e | e
      · exact .inl e
      · refine .inr fun g hg => ?_
        rw [e] at hg; cases hg
        rw [← HWN]; simp
    have hown2 : W3.ownsRow (w.heap.size + 7) 62 6 v' (((addT (trAt l kx) L)).length + 1) (rowN (encL ((addT (trAt l kx) L))) ++ ndCells (ndOf ((addT (trAt l kx) L)) (trAt l i))) := by rw [HN.out]; exact hown
    have hlen3 : (encL ((addT (trAt l kx) L)) ++ [{ (nth l i) with x := (idx (addT (trAt l kx) L) (trAt l kx) : Int) }]).length = ((addT (trAt l kx) L)).length + 1 := by simp
    obtain ⟨va', vc', hv', _⟩ := RN_of_own (l := encL ((addT (trAt l kx) L)) ++ [{ (nth l i) with x := (idx (addT (trAt l kx) L) (trAt l kx) : Int) }]) (by rw [hlen3, rowN_append]; simpa [rowN] using hown) (by rw [hlen3]; omega)
    rw [hlen3] at hv'
    have HNI := Lib.hid hni2
    have HO := Lib.hid hown2
    have HLO := Lib.hid hloc2
    have HGR := Lib.hid hgr2
    have HC2 := Lib.hid hc2
    have HMN := Lib.hid hmN3
    have HE2 := Lib.hid hE2
    clear hni2 hown2 hloc2 hgr2 hc2 hmN3 hown hloc1 hnil hE2 x0 x1 x2 x3 x4 x5 d1 d4 d5 f5 hni
    subst hv'
    have n13 : W.heap.size ≠ w.heap.size + 1 := by omega
    go_wp2_with (first | (at_mapUpdate; refine wpList_upd_on _ rfl _ _ _ 120 rfl _ rfl _ rfl _ rfl _ (HMN.out.ins node_keyed Tryz.underlying120 key_node nd_inj { (nth l i) with x := (idx (addT (trAt l kx) L) (trAt l kx) : Int) } hgd HNI.out _) ?_; intro W4 hW4; obtain ⟨hm4, hg4⟩ := hW4; have hp := HC2.out.push HM.out HK.out hok hrange HO.out HGR.out HLO.out (by rw [HN.out]; exact hm4) hg4; obtain ⟨hc4, hf4⟩ := hp; have s5 := hc4.cd; clear r1 r3 g1 y0 y1 y2 y3 y4 y5) | (at_mapUpdate; refine wpList_upd_on _ rfl _ _ _ 121 rfl _ rfl _ rfl _ rfl _ (hc4.mD.ins int_keyed' Tryz.underlying121 key_int i_inj _ (igood_of (by omega)) HDD.out _) ?_; intro W5 hW5))
    go_ret
    unfold FinPost
    have hput : addT (trAt l i) L = (addT (trAt l kx) L) ++ [trAt l i] := by rw [HA.out]; unfold put; rw [if_neg HM.out]
    rw [hput]
    have hidx : idx ((addT (trAt l kx) L) ++ [trAt l i]) (trAt l i) = ((addT (trAt l kx) L)).length := idx_new HM.out
    rw [hidx]
    refine ⟨_, _, rfl, hc4.done hW5.1 hW5.2 (by omega) (by simpa using hi) (by simp) (by simp only [Int.toNat_natCast]; rw [hidx]), ?_, HJ.out.ins _⟩
    exact (HFR.out.ext HE2.out).trans (hf4.trans (hc4.done_fr hW5.2))
end Wt
