/- Walk: model.arrange. -/
import Derived.Test.YtoacdccachhjdaaGreatDoorMAAj
import Derived.Test.YtoacdccachhjdaaGreatDoorMAAn
import Derived.Laws.ResultCell
import Derived.Deep.Heap
import Derived.Laws.CopyOwn
import Derived.Deep.WholeRow
import Derived.Deep.RegionLaw
import Derived.Outline
namespace Wt
open Go Go.RowKit Go.Maps Go.Proofs Fm

theorem nth_mapZ {α β : Type} [Inhabited α] [Inhabited β] (F : α → β) (m : List α) {k : Nat} (h : k < m.length) : nth (m.map F) k = F (nth m k) := by
  rw [nth_eq _ _ (by simpa using h), nth_eq _ _ h]; simp
/-- A struct of three cells that the call may write. -/
structure OutAt (w : World) (b : Nat) (x y z : Value) : Prop where
  c0 : w.cell? ⟨b, 0, none⟩ = some x
  c1 : w.cell? ⟨b, 1, none⟩ = some y
  c2 : w.cell? ⟨b, 2, none⟩ = some z
  fz : ∀ o, w.frozen? ⟨b, o, none⟩ = false
theorem OutAt.keep {w w' : World} {b : Nat} {x y z : Value} (h : OutAt w b x y z) (e : w'.heap[b]? = w.heap[b]?) : OutAt w' b x y z := by
  obtain ⟨h0, h1, h2, h3⟩ := h
  refine ⟨?_, ?_, ?_, fun o => ?_⟩
  · rw [World.cell?_of_block (w := w) e]; exact h0
  · rw [World.cell?_of_block (w := w) e]; exact h1
  · rw [World.cell?_of_block (w := w) e]; exact h2
  · rw [World.frozen?_of_block (w := w) e]; exact h3 o
theorem OutAt.new (w : World) (x y z : Value) (T : Nat) : OutAt (w.alloc (.cells #[x, y, z] T)) w.heap.size x y z := ⟨by simp, by simp, by simp, fun o => by first | (simp; done) | (simp [World.frozen?]; done)⟩
theorem OutAt.new2 (w : World) (o p : Obj) (x y z : Value) (T : Nat) : OutAt (((w.alloc o).alloc (.cells #[x, y, z] T)).alloc p) (w.heap.size + 1) x y z := by
  have h := OutAt.new (w.alloc o) x y z T
  have hs : (w.alloc o).heap.size = w.heap.size + 1 := by simp
  rw [hs] at h
  exact h.keep (((Ext.refl _).alloc p).block _ (by simp))
theorem OutAt.set0 {w : World} {b : Nat} {x y z : Value} (h : OutAt w b x y z) (u : Value) : OutAt (w.setCell ⟨b, 0, none⟩ u) b u y z := by
  obtain ⟨h0, h1, h2, h3⟩ := h
  refine ⟨?_, ?_, ?_, fun o => by rw [World.frozen?_setCell]; exact h3 o⟩
  · exact World.cell?_setCell_same _ _ _ h0
  · rw [World.cell?_setCell_other _ _ _ _ (by simp)]; exact h1
  · rw [World.cell?_setCell_other _ _ _ _ (by simp)]; exact h2
theorem OutAt.new3 (w : World) (o p : Obj) (x y z : Value) (T : Nat) : OutAt (((w.alloc o).alloc p).alloc (.cells #[x, y, z] T)) (w.heap.size + 2) x y z := by
  have h := OutAt.new ((w.alloc o).alloc p) x y z T
  have hs : ((w.alloc o).alloc p).heap.size = w.heap.size + 2 := by simp
  rw [hs] at h; exact h
theorem OutAt.lt {w : World} {b : Nat} {x y z : Value} (h : OutAt w b x y z) : b < w.heap.size := World.block_lt_of_cell? _ _ h.c0
theorem OutAt.set1 {w : World} {b : Nat} {x y z : Value} (h : OutAt w b x y z) (u : Value) : OutAt (w.setCell ⟨b, 1, none⟩ u) b x u z := by
  obtain ⟨h0, h1, h2, h3⟩ := h
  refine ⟨?_, ?_, ?_, fun o => by rw [World.frozen?_setCell]; exact h3 o⟩
  · rw [World.cell?_setCell_other _ _ _ _ (by simp)]; exact h0
  · exact World.cell?_setCell_same _ _ _ h1
  · rw [World.cell?_setCell_other _ _ _ _ (by simp)]; exact h2
theorem OutAt.set2 {w : World} {b : Nat} {x y z : Value} (h : OutAt w b x y z) (u : Value) : OutAt (w.setCell ⟨b, 2, none⟩ u) b x y u := by
  obtain ⟨h0, h1, h2, h3⟩ := h
  refine ⟨?_, ?_, ?_, fun o => by rw [World.frozen?_setCell]; exact h3 o⟩
  · rw [World.cell?_setCell_other _ _ _ _ (by simp)]; exact h0
  · rw [World.cell?_setCell_other _ _ _ _ (by simp)]; exact h1
  · exact World.cell?_setCell_same _ _ _ h2
theorem setOther {w : World} {B T sz n b k : Nat} {v u : Value} {xs : List Value} (h : w.ownsRow B T sz v n xs) (hb : b < B) : (w.setCell ⟨b, k, none⟩ u).ownsRow B T sz v n xs :=
  h.kept (row := some b) ⟨rfl, rfl, rfl, by simp, fun j _ hj => heap_setCell_other w ⟨b, k, none⟩ j _ (fun e => hj (by simp [e]))⟩ (by
    cases hv : v.ownBlock with
    | none => exact .inl rfl
    | some g => right; intro e; have := (h.lt g hv).1; simp only [Option.some.injEq] at e; omega)
theorem own_ne {w : World} {B T T' sz sz' n n' : Nat} {v v' : Value} {xs xs' : List Value} (h : w.ownsRow B T sz v n xs) (h' : w.ownsRow B T' sz' v' n' xs') (hT : T ≠ T') : v.ownBlock = none ∨ v.ownBlock ≠ v'.ownBlock := by
  rcases h.2 with ⟨rfl, _⟩ | ⟨g, cap, cur, rfl, _, hg, _⟩
  · exact .inl rfl
  · right
    rcases h'.2 with ⟨rfl, _⟩ | ⟨g', cap', cur', rfl, _, hg', _⟩
    · simp [Value.ownBlock]
    · intro e
      simp only [Value.ownBlock, Option.some.injEq] at e
      subst e
      rw [hg] at hg'
      simp only [Option.some.injEq, Obj.cells.injEq] at hg'
      exact hT hg'.2.1
/-- Two slices that share no memory. -/
def Apart (u v : Value) : Prop := u.ownBlock = none ∨ u.ownBlock ≠ v.ownBlock
/-- A later slice shares no memory with an earlier one. -/
theorem Apart.later {w : World} {B T sz n : Nat} {u v : Value} {xs : List Value} (h : w.ownsRow B T sz u n xs) (hv : ∀ b, v.ownBlock = some b → b < B) : Apart u v := by
  unfold Apart
  cases hu : u.ownBlock with
  | none => exact .inl rfl
  | some g =>
    right
    intro e
    have h1 := (h.lt g hu).1
    have h2 := hv g e.symm
    omega
/-- The rounds of arrange: the struct that is built, its sets and its rows. -/
structure AR (W0 : World) (n len : Nat) (lv : List (BitVec 64)) (svs : List Value) (rows : List (List (BitVec 64))) (vv vr : Value) (wr : World) : Prop where
  e : Below (n + 2) W0 wr
  lo : n + 2 ≤ W0.heap.size
  out : OutAt wr (n + 2) (.int .i64 (len : Int)) vv vr
  ov : wr.ownsRow (n + 3) 63 1 vv lv.length (lv.map uv)
  orr : wr.ownsRow (n + 3) 25 1 vr svs.length svs
  rl : svs.length = rows.length
  rw : ∀ j, j < rows.length → OU wr (n + 3) (nth svs j) (nth rows j)
  dj : ∀ i j, i < j → j < svs.length → Apart (nth svs j) (nth svs i)
  dv : ∀ j, j < svs.length → Apart (nth svs j) vv
section
variable {W0 wr W1 : World} {n len : Nat} {lv : List (BitVec 64)} {svs : List Value} {rows : List (List (BitVec 64))} {vv vr v' : Value}
theorem AR.ext' {w' : World} (h : AR W0 n len lv svs rows vv vr wr) (e : Ext wr w') : AR W0 n len lv svs rows vv vr w' := by
  have hk : ∀ {T sz m : Nat} {v : Value} {xs : List Value}, wr.ownsRow (n + 3) T sz v m xs → w'.ownsRow (n + 3) T sz v m xs := fun {_ _ _ v _} ho => ho.kept (row := none) ⟨e.os, e.tape, e.output, e.size, fun k hk _ => e.block k hk⟩ (by cases v.ownBlock <;> simp)
  exact ⟨Below.trans h.e (Below.mono e (by have := h.out.lt; omega)), h.lo, h.out.keep (e.block _ h.out.lt), hk h.ov, hk h.orr, h.rl, fun j hj => hk (h.rw j hj), h.dj, h.dv⟩
/-- One more set. -/
theorem AR.pushV (h : AR W0 n len lv [] [] vv (.slice none 0 0) wr) {x : BitVec 64} (ho : W1.ownsRow (n + 3) 63 1 v' (lv.length + 1) (lv.map uv ++ [uv x])) (g : wr.grownBy W1 vv.ownBlock) :
    AR W0 n len (lv ++ [x]) [] [] v' (.slice none 0 0) (W1.setCell ⟨n + 2, 1, none⟩ v') := by
  have hr : ∀ k, vv.ownBlock = some k → n + 3 ≤ k := fun k hk => (h.ov.lt k hk).1
  have hb : W1.heap[n + 2]? = wr.heap[n + 2]? := g.block _ h.out.lt (fun e => by have := hr _ e.symm; omega)
  refine ⟨(Below.grown h.e g (by have := h.out.lt; omega) (fun k hk => by have := hr k hk; omega)).setCell (by simp) _, h.lo, (h.out.keep hb).set1 v', ?_, World.ownsRow_nil _ _ _ _, rfl, fun j hj => absurd hj (by simp), fun i j _ hj => absurd hj (by simp), fun j hj => absurd hj (by simp)⟩
  refine setOther ?_ (by omega)
  rw [List.map_append, List.length_append]; exact ho
/-- One more row. -/
theorem AR.pushR (h : AR W0 n len lv svs rows vv vr wr) {sv : Value} {r : List (BitVec 64)} (hs : OU wr (n + 3) sv r) (hd : (∀ j, j < svs.length → Apart sv (nth svs j)) ∧ Apart sv vv) (ho : W1.ownsRow (n + 3) 25 1 v' (svs.length + 1) (svs ++ [sv])) (g : wr.grownBy W1 vr.ownBlock) :
    AR W0 n len lv (svs ++ [sv]) (rows ++ [r]) vv v' (W1.setCell ⟨n + 2, 2, none⟩ v') := by
  have hr : ∀ k, vr.ownBlock = some k → n + 3 ≤ k := fun k hk => (h.orr.lt k hk).1
  have hb : W1.heap[n + 2]? = wr.heap[n + 2]? := g.block _ h.out.lt (fun e => by have := hr _ e.symm; omega)
  have hk : ∀ {m : Nat} {v : Value} {xs : List Value}, wr.ownsRow (n + 3) 63 1 v m xs → (W1.setCell ⟨n + 2, 2, none⟩ v').ownsRow (n + 3) 63 1 v m xs := fun ho => setOther (ho.kept g (own_ne ho h.orr (by decide))) (by omega)
  refine ⟨(Below.grown h.e g (by have := h.out.lt; omega) (fun k hk => by have := hr k hk; omega)).setCell (by simp) _, h.lo, (h.out.keep hb).set2 v', hk h.ov, ?_, by simp [h.rl], fun j hj => ?_, fun i j hij hj => ?_, fun j hj => ?_⟩
  · refine setOther ?_ (by omega)
    rw [List.length_append]; exact ho
  · by_cases hj2 : j < rows.length
    · rw [nth_appL _ _ (by rw [h.rl]; exact hj2), nth_appL _ _ hj2]; exact hk (h.rw j hj2)
    · have e : j = rows.length := by simp at hj; omega
      subst e
      have e1 := nth_appR svs [sv] (k := 0) (by simp)
      have e2 := nth_appR rows [r] (k := 0) (by simp)
      rw [Nat.add_zero, h.rl] at e1
      rw [Nat.add_zero] at e2
      rw [e1, e2]; exact hk hs
  · have hj : j < svs.length + 1 := by simpa using hj
    rw [nth_appL svs [sv] (k := i) (by omega)]
    by_cases hj2 : j < svs.length
    · rw [nth_appL _ _ hj2]; exact h.dj i j hij hj2
    · obtain rfl : j = svs.length := by omega
      have e1 := nth_appR svs [sv] (k := 0) (by simp)
      rw [Nat.add_zero] at e1
      rw [e1]; exact hd.1 i hij
  · have hj : j < svs.length + 1 := by simpa using hj
    by_cases hj2 : j < svs.length
    · rw [nth_appL _ _ hj2]; exact h.dv j hj2
    · obtain rfl : j = svs.length := by omega
      have e1 := nth_appR svs [sv] (k := 0) (by simp)
      rw [Nat.add_zero] at e1
      rw [e1]; exact hd.2
/-- A row that is made later shares no memory with what there is. -/
theorem AR.apart {wz : World} {sv : Value} {r : List (BitVec 64)} (h : AR W0 n len lv svs rows vv vr wr) (hs : OU wz wr.heap.size sv r) : (∀ j, j < svs.length → Apart sv (nth svs j)) ∧ Apart sv vv :=
  ⟨fun j hj => Apart.later hs fun b hb => ((h.rw j (by rw [← h.rl]; exact hj)).lt b hb).2, Apart.later hs fun b hb => (h.ov.lt b hb).2⟩
theorem AR.outV (h : AR W0 n len lv svs rows vv vr wr) (g : wr.grownBy W1 vv.ownBlock) : OutAt W1 (n + 2) (.int .i64 (len : Int)) vv vr :=
  h.out.keep (g.block _ h.out.lt (fun e => by have := (h.ov.lt _ e.symm).1; omega))
theorem AR.outR (h : AR W0 n len lv svs rows vv vr wr) (g : wr.grownBy W1 vr.ownBlock) : OutAt W1 (n + 2) (.int .i64 (len : Int)) vv vr :=
  h.out.keep (g.block _ h.out.lt (fun e => by have := (h.orr.lt _ e.symm).1; omega))
end
/-- An operation of a region that draws its order and has no guard, as it stands: for a call of a Go function within go_region_law. -/
theorem step_go {P : Program} {ops : Array Oper} {o : Oper} {a : Act} {w : World} {K : Act → World → Prop} {Q : Exit → Act → World → Prop} {E : Prop} (hg : o.guard = none) (h : Oper.wp P o a w K Q) :
    if Region.wanted o (yielded ops a.tmps) = true then Oper.wp P o a w K Q else E := by
  rw [if_pos (by simp [Region.wanted, hg])]; exact h
/-- Loop 1: the sets so far. -/
def ARV (W0 : World) (n len : Nat) (L : List (BitVec 64)) (k : Nat) (wr : World) : Prop := ∃ vv, AR W0 n len (L.take k) [] [] vv (.slice none 0 0) wr
theorem results_cell_oneA {fn : Func} {p : Tmp} {ty : TypeId} (h : fn.results = #[.cell p ty]) (tmps : Array Value) (P : Program) (w : World) :
    (results fn tmps).run P w = ((asAddr (tmps.getD p undef)).run P w).andThen fun a w₁ => ((loadVar ty a).run P w₁).andThen fun v w₂ => .ok v w₂ := by
  simp only [results, h]
  simp [Sem.run_bind, Result.andThen]
  cases (asAddr (tmps[p]?.getD undef)).run P w with
  | ok a w => dsimp only; cases (loadVar ty a).run P w <;> rfl
  | halt h w => rfl
theorem own_mono {w : World} {B B' T sz n : Nat} {v : Value} {xs : List Value} (h : w.ownsRow B T sz v n xs) (hb : B' ≤ B) : w.ownsRow B' T sz v n xs := by
  refine ⟨h.1, ?_⟩
  rcases h.2 with hn | ⟨g, cap, cur, e, hg, rest⟩
  · exact .inl hn
  · exact .inr ⟨g, cap, cur, e, Nat.le_trans hb hg, rest⟩
/-- A model in memory of its own: no two of its rows share any. -/
structure FrM (B : Nat) (w : World) (va ra : Option Addr) (vc rc : Nat) (A : Mo) (svs : List Value) : Prop where
  ov : OU w B (.slice va A.val.length vc) A.val
  orr : w.ownsRow B 25 1 (.slice ra A.rel.length rc) svs.length svs
  rl : svs.length = A.rel.length
  rw : ∀ j, j < A.rel.length → OU w B (nth svs j) (nth A.rel j)
  dj : ∀ i j, i < j → j < svs.length → Apart (nth svs j) (nth svs i)
  dv : ∀ j, j < svs.length → Apart (nth svs j) (.slice va A.val.length vc)
  big : A.val.length ≤ 140737488355328 ∧ A.rel.length ≤ 140737488355328 ∧ ∀ j, j < A.rel.length → (nth A.rel j).length ≤ 140737488355328
theorem FrM.mono {B B' : Nat} {w : World} {va ra : Option Addr} {vc rc : Nat} {A : Mo} {svs : List Value} (h : FrM B w va ra vc rc A svs) (hb : B' ≤ B) : FrM B' w va ra vc rc A svs :=
  ⟨OU.mono h.ov hb, own_mono h.orr hb, h.rl, fun j hj => OU.mono (h.rw j hj) hb, h.dj, h.dv, h.big⟩
theorem FrM.agree {B : Nat} {w w' : World} {va ra : Option Addr} {vc rc : Nat} {A : Mo} {svs : List Value} (h : FrM B w va ra vc rc A svs) (ha : Agree B w w') : FrM B w' va ra vc rc A svs :=
  ⟨own_agree h.ov ha, own_agree h.orr ha, h.rl, fun j hj => own_agree (h.rw j hj) ha, h.dj, h.dv, h.big⟩
/-- A model that the call has made. -/
def RetMA (A : Mo) (e : Ending) (w w' : World) : Prop := ∃ va ra vc rc, e = .returned (.agg #[.int .i64 A.worlds, .slice va A.val.length vc, .slice ra A.rel.length rc]) ∧ (∀ w'', Agree w.heap.size w' w'' → RM w'' va ra A) ∧ Ext w w'
theorem RR_of_rows {w : World} {B n c : Nat} {a : Option Addr} {svs : List Value} {rows : List (List (BitVec 64))} (h : w.ownsRow B 25 1 (.slice a n c) svs.length svs) (hl : svs.length = rows.length) (hr : ∀ j, j < rows.length → w.ownsRow B 63 1 (nth svs j) (nth rows j).length ((nth rows j).map uv)) (hb : rows.length ≤ 140737488355328) (h64 : ∀ j, j < rows.length → (nth rows j).length ≤ 140737488355328) : RR w a rows := by
  rcases h.2 with ⟨e, h0⟩ | ⟨g, cap, cur, e, _, hg, hnc, hcm, hcs, htake⟩
  · have : rows = [] := List.eq_nil_of_length_eq_zero (by omega)
    subst this
    exact RR.nil _ _
  · simp only [Value.slice.injEq] at e
    obtain ⟨rfl, -, -⟩ := e
    refine ⟨hb, fun k hk => ?_⟩
    obtain ⟨a', c', hv, hu⟩ := RU_of_OU (show OU w B (nth svs k) (nth rows k) from hr k hk) (h64 k hk)
    refine ⟨g, 0, a', c', rfl, ?_, hu⟩
    rw [cell_of_row w g _ cur _ (0, 0) hg, Nat.zero_add, ← hv]
    have h1 : svs[k]? = some (nth svs k) := by rw [nth_eq svs k (by omega)]; simp [show k < svs.length by omega]
    have h2 : (cur.toList.take (svs.length * 1))[k]? = some (nth svs k) := by rw [htake]; exact h1
    rw [List.getElem?_take, if_pos (by omega)] at h2
    simpa using h2
/-- Loop 2: the rows so far. -/
def ARR (W0 : World) (n len : Nat) (L : List (BitVec 64)) (Rows : List (List (BitVec 64))) (k : Nat) (wr : World) : Prop := ∃ vv svs vr, AR W0 n len L svs (Rows.take k) vv vr wr
/-- Loop 3: the row so far. -/
def GLE (w0 : World) (row : List (BitVec 64)) (j : Nat) (vl : Value) (wr : World) : Prop := GL w0 63 uv (row.take j) vl wr
theorem sl_info : (Tryz.prog.info? 25).map (fun i => (i.zero, i.size, i.bytes)) = some (some (.slice none 0 0), 1, 24) := by kernel_rfl
theorem FrM.rm {B : Nat} {w : World} {va ra : Option Addr} {vc rc : Nat} {A : Mo} {svs : List Value} (h : FrM B w va ra vc rc A svs) : RM w va ra A := by
  obtain ⟨v2, vc2, hv2, huV⟩ := RU_of_OU h.ov h.big.1
  simp only [Value.slice.injEq] at hv2
  obtain ⟨rfl, -, -⟩ := hv2
  exact ⟨huV, RR_of_rows h.orr h.rl h.rw h.big.2.1 h.big.2.2⟩
/-- A model that the call has made, in memory of its own. -/
def RetMO (A : Mo) (e : Ending) (w w' : World) : Prop := ∃ va ra vc rc svs, e = .returned (.agg #[.int .i64 A.worlds, .slice va A.val.length vc, .slice ra A.rel.length rc]) ∧ FrM w.heap.size w' va ra vc rc A svs ∧ Ext w w'
theorem RetMO.ma {A : Mo} {e : Ending} {w w' : World} (h : RetMO A e w w') : RetMA A e w w' := by
  obtain ⟨va, ra, vc, rc, svs, h1, h2, h3⟩ := h
  exact ⟨va, ra, vc, rc, h1, fun w'' ha => (h2.agree ha).rm, h3⟩
set_option maxRecDepth 20000 in
set_option maxHeartbeats 8000000 in
theorem arrangeO_any (M : Mo) (va ra : Option Addr) (vc rc : Nat) (ws : List Nat) (wa : Option Addr) (wc : Nat) (w : World) (N : Nat) (ok : MoOk M N) (hm : RM w va ra M) (hw : RI w wa (natI ws)) (hws : ws.length ≤ 64) (hlt : ∀ i, i < ws.length → nth ws i < N) :
    Calls Tryz.prog 149 #[.agg #[.int .i64 M.worlds, .slice va M.val.length vc, .slice ra M.rel.length rc], .slice wa ws.length wc] w fun e w' => RetMO (arrM M ws) e w w' := by
  have hbx := MoBox.new w M.worlds M.val M.rel va vc ra rc 28
  have hv8 := ok.val
  have hr4 := ok.rel
  obtain ⟨i0, hi1, hz0, hz1, hz2⟩ := info_parts u64_info
  have HM := Lib.hid hm
  have HW := Lib.hid hw
  have HBX := Lib.hid hbx
  have OK := Lib.hid ok
  obtain ⟨m0, m1, m2⟩ := hbx
  dsimp only at m0 m1 m2
  clear hm hw ok
  go_enter Tryz.func149, Tryz.ntmps149
  go_wp2
  have hE0 : Ext w (((w.alloc (.cells #[.int .i64 M.worlds, .slice va M.val.length vc, .slice ra M.rel.length rc] 28)).alloc (.cells #[.int .i64 0, .slice none 0 0, .slice none 0 0] 28)).alloc (.cells #[.int .i64 (ws.length : Int), .slice none 0 0, .slice none 0 0] 28)) := (((Ext.refl w).alloc _).alloc _).alloc _
  have hA00 := OutAt.new3 w (.cells #[.int .i64 M.worlds, .slice va M.val.length vc, .slice ra M.rel.length rc] 28) (.cells #[.int .i64 0, .slice none 0 0, .slice none 0 0] 28) (.int .i64 (ws.length : Int)) (.slice none 0 0) (.slice none 0 0) 28
  have hA0 : AR (((w.alloc (.cells #[.int .i64 M.worlds, .slice va M.val.length vc, .slice ra M.rel.length rc] 28)).alloc (.cells #[.int .i64 0, .slice none 0 0, .slice none 0 0] 28)).alloc (.cells #[.int .i64 (ws.length : Int), .slice none 0 0, .slice none 0 0] 28)) w.heap.size ws.length [] [] [] (.slice none 0 0) (.slice none 0 0) (((w.alloc (.cells #[.int .i64 M.worlds, .slice va M.val.length vc, .slice ra M.rel.length rc] 28)).alloc (.cells #[.int .i64 0, .slice none 0 0, .slice none 0 0] 28)).alloc (.cells #[.int .i64 (ws.length : Int), .slice none 0 0, .slice none 0 0] 28)) :=
    ⟨Below.refl _ _, by simp, hA00, World.ownsRow_nil _ _ _ _, World.ownsRow_nil _ _ _ _, rfl, fun j hj => absurd hj (by simp), fun i j _ hj => absurd hj (by simp), fun j hj => absurd hj (by simp)⟩
  have hbx0 : MoBox (((w.alloc (.cells #[.int .i64 M.worlds, .slice va M.val.length vc, .slice ra M.rel.length rc] 28)).alloc (.cells #[.int .i64 0, .slice none 0 0, .slice none 0 0] 28)).alloc (.cells #[.int .i64 (ws.length : Int), .slice none 0 0, .slice none 0 0] 28)) w.heap.size ⟨M.worlds, M.val, M.rel⟩ va vc ra rc := HBX.out.ext (((Ext.refl _).alloc _).alloc _)
  have hres0 : OutAt (((w.alloc (.cells #[.int .i64 M.worlds, .slice va M.val.length vc, .slice ra M.rel.length rc] 28)).alloc (.cells #[.int .i64 0, .slice none 0 0, .slice none 0 0] 28)).alloc (.cells #[.int .i64 (ws.length : Int), .slice none 0 0, .slice none 0 0] 28)) (w.heap.size + 1) (.int .i64 0) (.slice none 0 0) (.slice none 0 0) := OutAt.new2 w _ _ _ _ _ _
  generalize hW0 : (((w.alloc (.cells #[.int .i64 M.worlds, .slice va M.val.length vc, .slice ra M.rel.length rc] 28)).alloc (.cells #[.int .i64 0, .slice none 0 0, .slice none 0 0] 28)).alloc (.cells #[.int .i64 (ws.length : Int), .slice none 0 0, .slice none 0 0] 28)) = W0 at *
  have HE0 := Lib.hid hE0
  have HV : Hid (∀ w', Ext W0 w' ∨ Below (w.heap.size + 2) W0 w' → Ext w w') := Lib.hid fun w' e => by
    rcases e with e | e
    · exact hE0.trans e
    · exact Below.trans hE0 (Below.mono e (by omega))
  have hlo := hA0.lo
  have HBOX : Hid (∀ w', Below (w.heap.size + 2) W0 w' → MoBox w' w.heap.size ⟨M.worlds, M.val, M.rel⟩ va vc ra rc) := Lib.hid fun w' e => by
    obtain ⟨q0, q1, q2⟩ := hbx0
    have hb := e.block w.heap.size (by omega)
    exact ⟨by rw [World.cell?_of_block (w := W0) hb]; exact q0, by rw [World.cell?_of_block (w := W0) hb]; exact q1, by rw [World.cell?_of_block (w := W0) hb]; exact q2⟩
  have HRES : Hid (∀ w', Below (w.heap.size + 2) W0 w' → OutAt w' (w.heap.size + 1) (.int .i64 0) (.slice none 0 0) (.slice none 0 0)) := Lib.hid fun w' e => hres0.keep (e.block _ (by omega))
  generalize hL : M.val.map (fun s => pullL s ws) = L
  have hLl : L.length = M.val.length := by rw [← hL]; simp
  have HL : Hid (∀ k, k < M.val.length → nth L k = pullL (nth M.val k) ws) := Lib.hid fun k hk => by rw [← hL]; exact nth_mapZ _ _ hk
  clear m0 m1 m2 hE0 hW0
  go_loopw [19] (fun i wr => ∃ k : Nat, k ≤ M.val.length ∧ i = .int .i64 (k : Int) ∧ ARV W0 w.heap.size ws.length L k wr) (fun i _ => M.val.length - (intOf i).toNat)
  case atStart => exact ⟨0, Nat.zero_le _, rfl, _, hA0⟩
  case round =>
    obtain ⟨k, hk, rfl, vv, hAR⟩ := hrel
    have HAR := Lib.hid hAR
    by_cases hkl : k < M.val.length
    · obtain ⟨b, off, rfl, hb, hc⟩ := (HM.out.val.ext (HV.out wr (.inr hAR.e))).get hkl
      obtain ⟨o0, o1, o2, ofz⟩ := hAR.out
      have hsz := hAR.out.lt
      have htk : (L.take k).length = k := by rw [List.length_take]; omega
      have HWS : Hid (∀ w', Ext wr w' → RI w' wa (natI ws)) := Lib.hid fun w' e => (HW.out.ext (HV.out wr (.inr HAR.out.e))).ext e
      have HPA : Hid (∀ w', Ext wr w' → AR W0 w.heap.size ws.length (L.take k) [] [] vv (.slice none 0 0) w') := Lib.hid fun w' e => HAR.out.ext' e
      have HONE : Hid (∀ u ∈ [Value.int .u64 (un (pullL (nth M.val k) ws))], u.oneCell' = true) := fun u hu => by
        rcases List.mem_singleton.1 hu with rfl
        rfl
      have hfz := ofz 1
      clear hAR
      go_wp2_with fail
      go_region_law (first | (refine step_append_lies _ (by rfl) _ _ 25 (by rfl) (w.heap.size + 3) 63 i0 _ 1 8 Tryz.underlying25 hi1 hz0 hz1 hz2 rfl (by decide) vv (L.take k).length ((L.take k).map uv) (by rfl) (HPA.out _ ((Ext.refl _).drew.alloc _)).ov ⟨wr.heap.size, 0, none⟩ 1 1 [.int .u64 (un (pullL (nth M.val k) ws))] (by rfl) (by rfl) (cell_one_new _ _ _) HONE.out (by decide) (by unfold maxLen; omega) (by omega) (by simp; omega) (wr.heap.size + 1) (by simp) ?_; intro gx cap w1 hown1 hgrow hat hlt2; obtain ⟨p0, p1, p2, pfz⟩ := (HPA.out _ ((Ext.refl _).drew.alloc _)).outV hgrow; have pf := pfz 1; clear pfz) | (refine step_go (by rfl) ?_; go_simp; refine (pull_any (nth M.val k) ws wa wc _ (HWS.out _ (by first | exact Ext.refl _ | exact (Ext.refl _).drew | exact (Ext.refl _).drew.alloc _))).mono ?_; rintro _ _ ⟨rfl, rfl⟩; dsimp only))
      all_goals
        have hx : nth L k = pullL (nth M.val k) ws := HL.out k hkl
        have hone : L.take (k + 1) = L.take k ++ [pullL (nth M.val k) ws] := by
          rw [← hx, nth_eq _ _ (by omega), List.take_add_one, List.getElem?_eq_getElem (by omega)]; rfl
        have hnew := (HPA.out _ ((Ext.refl _).drew.alloc _)).pushV hown1 hgrow
        have HNEW := Lib.hid hnew
        have HONE1 := Lib.hid hone
        clear hnew hown1 hgrow hone hx
        go_wp2
        go_roundw
        case rel => exact ⟨k + 1, hkl, by go_num, _, by rw [HONE1.out]; rw [htk] at HNEW; exact HNEW.out⟩
        case measure => simp [intOf]; omega
    · obtain rfl : k = M.val.length := by omega
      have hfull : L.take M.val.length = L := List.take_of_length_le (by omega)
      rw [hfull] at hAR
      have HA2 := Lib.hid hAR
      obtain ⟨m0, m1, m2⟩ := HBOX.out wr hAR.e
      dsimp only at m0 m1 m2
      obtain ⟨i2, hj1, hy0, hy1, hy2⟩ := info_parts sl_info
      clear hAR HAR
      go_wp2
      generalize hRows : M.rel.map (fun r => ws.map fun v => pullL (nth r v) ws) = Rows
      have hRl : Rows.length = M.rel.length := by rw [← hRows]; simp
      have HRow : Hid (∀ k, k < M.rel.length → nth Rows k = ws.map fun v => pullL (nth (nth M.rel k) v) ws) := Lib.hid fun k hk => by rw [← hRows]; exact nth_mapZ _ _ hk
      go_loopw [35] (fun i wz => ∃ k : Nat, k ≤ M.rel.length ∧ i = .int .i64 (k : Int) ∧ ARR W0 w.heap.size ws.length L Rows k wz) (fun i _ => M.rel.length - (intOf i).toNat)
      case atStart => exact ⟨0, Nat.zero_le _, rfl, _, _, _, HA2.out⟩
      case round =>
        obtain ⟨k, hk, rfl, vv2, svs, vr, hAR⟩ := hrel
        have HAR := Lib.hid hAR
        by_cases hkl2 : k < M.rel.length
        · obtain ⟨b, off, a', c', rfl, hb, hc, hu⟩ := (HM.out.rel.ext (HV.out wr (.inr hAR.e))).get hkl2
          have hrl : (nth M.rel k).length = N := OK.out.row _ (by rw [nth_eq _ _ hkl2]; exact List.getElem_mem _)
          have HU := Lib.hid hu
          have hsz := hAR.out.lt
          have hrow := HRow.out k hkl2
          generalize hro : nth Rows k = row at hrow
          have hrowl : row.length = ws.length := by rw [hrow]; simp
          have HROW : Hid (∀ j, j < ws.length → nth row j = pullL (nth (nth M.rel k) (nth ws j)) ws) := Lib.hid fun j hj => by rw [hrow]; exact nth_mapZ _ _ hj
          have HWS : Hid (∀ w', Ext wr w' → RI w' wa (natI ws)) := Lib.hid fun w' e => (HW.out.ext (HV.out wr (.inr HAR.out.e))).ext e
          clear hAR hu hrow m0 m1 m2
          go_wp2
          go_loopw [10, 41] (fun vl i wz => ∃ j : Nat, j ≤ ws.length ∧ i = .int .i64 (j : Int) ∧ GLE wr row j vl wz) (fun _ i _ => ws.length - (intOf i).toNat)
          case atStart => exact ⟨0, Nat.zero_le _, rfl, Ext.refl _, World.ownsRow_nil _ _ _ _⟩
          case round =>
            rename World => wz
            obtain ⟨j, hj, rfl, hGL⟩ := hrel
            have hGL : GL wr 63 uv (row.take j) u10 wz := hGL
            have HGL := Lib.hid hGL
            have hszz : wr.heap.size ≤ wz.heap.size := hGL.e.size
            by_cases hjl : j < ws.length
            · obtain ⟨bw, ow, rfl, hbw, hcw⟩ := (HWS.out wz hGL.e).get (k := j) (by simpa [natI] using hjl)
              rw [nth_natI hjl] at hcw
              have hwN := hlt j hjl
              obtain ⟨b2, off2, rfl, hb2, hc2⟩ := (HU.out.ext hGL.e).get (k := nth ws j) (by omega)
              have hin1 : (0 : Int) ≤ ((nth ws j : Nat) : Int) := by omega
              have hin2 : ((nth ws j : Nat) : Int) < ((nth M.rel k).length : Int) := by omega
              have htk : (row.take j).length = j := by rw [List.length_take]; omega
              have hx : nth row j = pullL (nth (nth M.rel k) (nth ws j)) ws := HROW.out j hjl
              have hone : row.take (j + 1) = row.take j ++ [pullL (nth (nth M.rel k) (nth ws j)) ws] := by
                rw [← hx, nth_eq _ _ (by omega), List.take_add_one, List.getElem?_eq_getElem (by omega)]; rfl
              have HONE1 := Lib.hid hone
              have HPA : Hid (∀ o, GL wr 63 uv (row.take j) u10 (wz.alloc o)) := Lib.hid fun o => HGL.out.ext' ((Ext.refl wz).alloc o)
              have HONE : Hid (∀ u ∈ [Value.int .u64 (un (pullL (nth (nth M.rel k) (nth ws j)) ws))], u.oneCell' = true) := fun u hu => by
                rcases List.mem_singleton.1 hu with rfl
                rfl
              clear hGL hone hx
              go_wp2_with (first | (go_at_call 181; refine (pull_any (nth (nth M.rel k) (nth ws j)) ws _ wc _ (HWS.out wz HGL.out.e)).mono ?_; rintro _ _ ⟨rfl, rfl⟩) | (at_builtin; refine wpList_append_lies _ rfl _ _ 25 rfl wr.heap.size 63 i0 _ 1 8 Tryz.underlying25 hi1 hz0 hz1 hz2 rfl (by decide) u10 (row.take j).length _ rfl (HPA.out _).own ⟨wz.heap.size, 0, none⟩ 1 1 [.int .u64 (un (pullL (nth (nth M.rel k) (nth ws j)) ws))] rfl rfl (cell_one_new _ _ _) HONE.out (by decide) (by unfold maxLen; omega) (by omega) (Nat.le_trans hszz (by simp)) (wz.heap.size + 1) (by simp) ?_; intro gx cap W1 hown hgrow hat hlt2; have hpush := (HPA.out _).push (x := pullL (nth (nth M.rel k) (nth ws j)) ws) hown hgrow; have HPU := Lib.hid hpush; clear hpush hown hgrow hat))
              go_roundw
              case rel => exact ⟨j + 1, hjl, by go_num, by show GL _ _ _ (row.take (j + 1)) _ _; rw [HONE1.out]; rw [htk] at HPU; exact HPU.out⟩
              case measure => simp [intOf]; omega
            · obtain rfl : j = ws.length := by omega
              have hfull3 : row.take ws.length = row := List.take_of_length_le (by omega)
              rw [hfull3] at hGL
              obtain ⟨a3, c3, rfl, hu3⟩ := RU_of_OU (show OU wz wr.heap.size u10 row from hGL.own) (by omega)
              have hrow3 : OU wz (w.heap.size + 3) (.slice a3 ws.length c3) row := by
                have h := OU.mono (b' := w.heap.size + 3) (show OU wz wr.heap.size _ row from hGL.own) (by omega)
                rw [hrowl] at h; exact h
              have HAP := Lib.hid (HAR.out.apart (show OU wz wr.heap.size _ row from hGL.own))
              rw [hrowl] at HAP
              have HA3 := Lib.hid (HAR.out.ext' hGL.e)
              obtain ⟨o0, o1, o2, ofz⟩ := HA3.out.out
              have hsz3 := HA3.out.out.lt
              have hfz := ofz 2
              have hrl2 : svs.length = k := by rw [HA3.out.rl, List.length_take]; omega
              have HPA : Hid (∀ o, AR W0 w.heap.size ws.length L svs (Rows.take k) vv2 vr (wz.alloc o)) := Lib.hid fun o => HA3.out.ext' ((Ext.refl wz).alloc o)
              have HR3 : Hid (∀ o, OU (wz.alloc o) (w.heap.size + 3) (.slice a3 ws.length c3) row) := Lib.hid fun o => hrow3.ext ((Ext.refl wz).alloc o)
              have HONE : Hid (∀ u ∈ [Value.slice a3 ws.length c3], u.oneCell' = true) := fun u hu => by
                rcases List.mem_singleton.1 hu with rfl
                rfl
              have hone : Rows.take (k + 1) = Rows.take k ++ [row] := by
                rw [← hro, nth_eq _ _ (by omega), List.take_add_one, List.getElem?_eq_getElem (by omega)]; rfl
              have HONE1 := Lib.hid hone
              clear hGL hu3 hrow3 hone HGL
              go_wp2_with (at_builtin; refine wpList_append_lies _ rfl _ _ 26 rfl (w.heap.size + 3) 25 i2 _ 1 24 Tryz.underlying26 hj1 hy0 hy1 hy2 rfl (by decide) vr svs.length svs rfl (HPA.out _).orr ⟨wz.heap.size, 0, none⟩ 1 1 [.slice a3 ws.length c3] rfl rfl (cell_one_new _ _ _) HONE.out (by decide) (by unfold maxLen; omega) (by omega) (by simp; omega) (wz.heap.size + 1) (by simp) ?_; intro gx cap W1 hown hgrow hat hlt2; obtain ⟨p0, p1, p2, pfz⟩ := (HPA.out _).outR hgrow; have pf := pfz 2; clear pfz; have hnew := (HPA.out _).pushR (HR3.out _) HAP.out hown hgrow; have HNEW := Lib.hid hnew; clear hnew hown hgrow hat)
              go_roundw
              case rel => exact ⟨k + 1, hkl2, by go_num, vv2, _, _, by rw [HONE1.out]; rw [hrl2] at HNEW; exact HNEW.out⟩
              case measure => simp [intOf]; omega
        · obtain rfl : k = M.rel.length := by omega
          have hfull2 : Rows.take M.rel.length = Rows := List.take_of_length_le (by omega)
          rw [hfull2] at hAR
          have HA4 := Lib.hid hAR
          obtain ⟨o0, o1, o2, ofz⟩ := hAR.out
          have hh := HRES.out wr hAR.e
          have hew : Ext w wr := HV.out wr (.inr hAR.e)
          obtain ⟨v1, vc1, rfl, -⟩ := RU_of_OU (show OU wr (w.heap.size + 3) vv2 L from hAR.ov) (by omega)
          have hsl : svs.length = M.rel.length := by rw [hAR.rl]; exact hRl
          obtain ⟨r1, rc1, rfl⟩ : ∃ a c, vr = .slice a M.rel.length c := by
            rcases hAR.orr.2 with ⟨rfl, h0⟩ | ⟨g, cap, cur, rfl, _⟩
            · exact ⟨none, 0, by rw [← hsl, h0]⟩
            · exact ⟨some ⟨g, 0, none⟩, cap, by rw [hsl]⟩
          rw [hLl] at o1 HA4
          obtain ⟨r0, rr1, rr2, rfz⟩ := hh
          have f0 := rfz 0
          have f1 := rfz 1
          have f2 := rfz 2
          have hh : OutAt wr (w.heap.size + 1) (.int .i64 0) (.slice none 0 0) (.slice none 0 0) := ⟨r0, rr1, rr2, rfz⟩
          have HH := Lib.hid hh
          have HEW := Lib.hid hew
          have hrl4 := hAR.rl
          clear hAR ofz hh hew rfz
          go_wp2
          have hk2 : ∀ {T sz m : Nat} {v : Value} {xs : List Value}, wr.ownsRow (w.heap.size + 3) T sz v m xs → (((wr.setCell ⟨w.heap.size + 1, 0, none⟩ (.int .i64 (ws.length : Int))).setCell ⟨w.heap.size + 1, 1, none⟩ (.slice v1 M.val.length vc1)).setCell ⟨w.heap.size + 1, 2, none⟩ (.slice r1 M.rel.length rc1)).ownsRow (w.heap.size + 3) T sz v m xs := by
            intro T sz m v xs ho
            exact setOther (setOther (setOther ho (by omega)) (by omega)) (by omega)
          obtain ⟨d0, d1, d2, -⟩ := ((HH.out.set0 (.int .i64 (ws.length : Int))).set1 (.slice v1 M.val.length vc1)).set2 (.slice r1 M.rel.length rc1)
          have hEx : Ext w (((wr.setCell ⟨w.heap.size + 1, 0, none⟩ (.int .i64 (ws.length : Int))).setCell ⟨w.heap.size + 1, 1, none⟩ (.slice v1 M.val.length vc1)).setCell ⟨w.heap.size + 1, 2, none⟩ (.slice r1 M.rel.length rc1)) := ((HEW.out.setCell (by simp) _).setCell (by simp) _).setCell (by simp) _
          have hovF := hk2 HA4.out.ov
          have horF := hk2 HA4.out.orr
          have hrwF := fun j hj => hk2 (HA4.out.rw j hj)
          generalize ((wr.setCell ⟨w.heap.size + 1, 0, none⟩ (.int .i64 (ws.length : Int))).setCell ⟨w.heap.size + 1, 1, none⟩ (.slice v1 M.val.length vc1)).setCell ⟨w.heap.size + 1, 2, none⟩ (.slice r1 M.rel.length rc1) = W2 at *
          refine bodyPost_ret (v := .agg #[.int .i64 (ws.length : Int), .slice v1 M.val.length vc1, .slice r1 M.rel.length rc1]) ?_ rfl ?_
          · rw [results_cell_oneA rfl]
            go_simp
          · have hww : ∀ j, j < Rows.length → (nth Rows j).length ≤ 140737488355328 := fun j hj => by rw [HRow.out j (by omega)]; simp; omega
            have hdv := HA4.out.dv
            have hdj := HA4.out.dj
            have hF : FrM w.heap.size W2 v1 r1 vc1 rc1 (arrM M ws) svs := by
              have e1 : (arrM M ws).val = L := hL
              have e2 : (arrM M ws).rel = Rows := hRows
              refine ⟨?_, ?_, ?_, ?_, hdj, ?_, ?_⟩
              · rw [e1]; exact OU.mono (b' := w.heap.size) (show OU W2 (w.heap.size + 3) (.slice v1 L.length vc1) L by rw [hLl]; exact hovF) (by omega)
              · rw [e2, hRl]; exact own_mono horF (by omega)
              · rw [e2]; exact hrl4
              · rw [e2]; exact fun j hj => OU.mono (b' := w.heap.size) (show OU W2 (w.heap.size + 3) _ _ from hrwF j hj) (by omega)
              · rw [e1, hLl]; exact hdv
              · rw [e1, e2]; exact ⟨by omega, by omega, hww⟩
            exact ⟨v1, r1, vc1, rc1, svs, by simp [arrM], hF, hEx⟩
theorem arrange_any (M : Mo) (va ra : Option Addr) (vc rc : Nat) (ws : List Nat) (wa : Option Addr) (wc : Nat) (w : World) (N : Nat) (ok : MoOk M N) (hm : RM w va ra M) (hw : RI w wa (natI ws)) (hws : ws.length ≤ 64) (hlt : ∀ i, i < ws.length → nth ws i < N) :
    Calls Tryz.prog 149 #[.agg #[.int .i64 M.worlds, .slice va M.val.length vc, .slice ra M.rel.length rc], .slice wa ws.length wc] w fun e w' => RetMA (arrM M ws) e w w' :=
  (arrangeO_any M va ra vc rc ws wa wc w N ok hm hw hws hlt).mono fun _ _ h => h.ma
end Wt

/- Walks: model.Restrict, model.Generated. -/
namespace Wt
open Go Go.RowKit Go.Maps Go.Proofs Fm

theorem results_cell_two {fn : Func} {p u v : Tmp} {ty : TypeId} (h : fn.results = #[.cell p ty, .tmp u, .tmp v]) (tmps : Array Value) (P : Program) (w : World) :
    (results fn tmps).run P w = ((asAddr (tmps.getD p undef)).run P w).andThen fun a w₁ => ((loadVar ty a).run P w₁).andThen fun x w₂ => .ok (.tuple #[x, tmps.getD u undef, tmps.getD v undef]) w₂ := by
  simp only [results, h]
  simp [Sem.run_bind, Result.andThen]
theorem OutAt.new1 (w : World) (o : Obj) (x y z : Value) (T : Nat) : OutAt ((w.alloc o).alloc (.cells #[x, y, z] T)) (w.heap.size + 1) x y z := by
  have h := OutAt.new (w.alloc o) x y z T
  have hs : (w.alloc o).heap.size = w.heap.size + 1 := by simp
  rw [hs] at h; exact h
theorem OutAt.ext {w w' : World} {b : Nat} {x y z : Value} (h : OutAt w b x y z) (e : Ext w w') : OutAt w' b x y z := h.keep (e.block _ h.lt)
/-- A model, a list of worlds and an error. -/
def RetR (A : Mo) (l : List Int) (c : Int) (e : Ending) (w w' : World) : Prop := ∃ va ra la vc rc lc, e = .returned (.tuple #[.agg #[.int .i64 A.worlds, .slice va A.val.length vc, .slice ra A.rel.length rc], .slice la l.length lc, .int .i64 c]) ∧ (∀ w'', Agree w.heap.size w' w'' → RM w'' va ra A ∧ RI w'' la l) ∧ Ext w w'
/-- The same, the model in memory of its own. -/
def RetRO (A : Mo) (l : List Int) (c : Int) (e : Ending) (w w' : World) : Prop := ∃ va ra la vc rc lc svs, e = .returned (.tuple #[.agg #[.int .i64 A.worlds, .slice va A.val.length vc, .slice ra A.rel.length rc], .slice la l.length lc, .int .i64 c]) ∧ FrM w.heap.size w' va ra vc rc A svs ∧ (∀ w'', Agree w.heap.size w' w'' → RI w'' la l) ∧ Ext w w'
theorem RetRO.r {A : Mo} {l : List Int} {c : Int} {e : Ending} {w w' : World} (h : RetRO A l c e w w') : RetR A l c e w w' := by
  obtain ⟨va, ra, la, vc, rc, lc, svs, h1, h2, h3, h4⟩ := h
  exact ⟨va, ra, la, vc, rc, lc, h1, fun w'' ha => ⟨(h2.agree ha).rm, h3 w'' ha⟩, h4⟩
/-- No model. -/
theorem FrM.zero (B : Nat) (w : World) (n : Int) : FrM B w none none 0 0 ⟨n, [], []⟩ [] :=
  ⟨World.ownsRow_nil _ _ _ _, World.ownsRow_nil _ _ _ _, rfl, fun j hj => absurd hj (by simp), fun i j _ hj => absurd hj (by simp), fun j hj => absurd hj (by simp), by simp, by simp, fun j hj => absurd hj (by simp)⟩
def resErr (M : Mo) (s : BitVec 64) : Int := if moCheck M ≠ 0 then moCheck M else if s &&& ~~~ allW M.worlds.toNat ≠ 0#64 then 2 else if s = 0#64 then 6 else 0
def resM (M : Mo) (s : BitVec 64) : Mo := if resErr M s = 0 then arrM M (memL s) else ⟨0, [], []⟩
def resL (M : Mo) (s : BitVec 64) : List Int := if resErr M s = 0 then natI (memL s) else []
set_option maxRecDepth 20000 in
set_option maxHeartbeats 4000000 in
theorem restrictO_any (M : Mo) (va ra : Option Addr) (vc rc : Nat) (s : BitVec 64) (w : World) (hm : RM w va ra M) (hT : Tab w) :
    Calls Tryz.prog 109 #[.agg #[.int .i64 M.worlds, .slice va M.val.length vc, .slice ra M.rel.length rc], .int .u64 (un s)] w fun e w' => RetRO (resM M s) (resL M s) (resErr M s) e w w' := by
  have hbx := MoBox.new w M.worlds M.val M.rel va vc ra rc 28
  have hE0 : Ext w ((w.alloc (.cells #[.int .i64 M.worlds, .slice va M.val.length vc, .slice ra M.rel.length rc] 28)).alloc (.cells #[.int .i64 0, .slice none 0 0, .slice none 0 0] 28)) := ((Ext.refl w).alloc _).alloc _
  have hbx0 := hbx.ext ((Ext.refl _).alloc (.cells #[.int .i64 0, .slice none 0 0, .slice none 0 0] 28))
  have hm0 := hm.ext hE0
  have HM0 := Lib.hid hm0
  have HT := Lib.hid (hT.ext hE0)
  obtain ⟨m0, m1, m2⟩ := hbx0
  dsimp only at m0 m1 m2
  have HE := Lib.hid hE0
  have HR := Lib.hid (OutAt.new1 w (.cells #[.int .i64 M.worlds, .slice va M.val.length vc, .slice ra M.rel.length rc] 28) (.int .i64 0) (.slice none 0 0) (.slice none 0 0) 28)
  clear hm hbx hE0 hT
  by_cases hM : moCheck M = 0
  rotate_left
  · have hq : (moCheck M != 0) = true := by simpa using hM
    have hn : resErr M s = moCheck M := if_pos hM
    have hn2 : resM M s = ⟨0, [], []⟩ := if_neg (by rw [hn]; exact hM)
    have hn3 : resL M s = [] := if_neg (by rw [hn]; exact hM)
    clear hM
    have HN := Lib.hid hn
    have HN2 := Lib.hid hn2
    have HN3 := Lib.hid hn3
    clear hn hn2 hn3
    go_enter Tryz.func109, Tryz.ntmps109
    go_wp2_with ((go_at_call 71; refine (modelCheck_any M va ra vc rc _ hm0).mono ?_; rintro e w1 ⟨rfl, hE1⟩; obtain ⟨r0, r1, r2, rfz⟩ := HR.out.ext hE1; have f0 := rfz 0; have f1 := rfz 1; have f2 := rfz 2; have HO : Hid (OutAt w1 _ _ _ _) := Lib.hid ⟨r0, r1, r2, rfz⟩; clear rfz; have q0 := hE1.cell m0; have q1 := hE1.cell m1; have q2 := hE1.cell m2; have HE1 := Lib.hid (HE.out.trans hE1)))
    obtain ⟨d0, d1, d2, -⟩ := ((HO.out.set0 (.int .i64 0)).set1 (.slice none 0 0)).set2 (.slice none 0 0)
    have hEx : Ext w (((w1.setCell ⟨w.heap.size + 1, 0, none⟩ (.int .i64 0)).setCell ⟨w.heap.size + 1, 1, none⟩ (.slice none 0 0)).setCell ⟨w.heap.size + 1, 2, none⟩ (.slice none 0 0)) := ((HE1.out.setCell (by simp) _).setCell (by simp) _).setCell (by simp) _
    generalize ((w1.setCell ⟨w.heap.size + 1, 0, none⟩ (.int .i64 0)).setCell ⟨w.heap.size + 1, 1, none⟩ (.slice none 0 0)).setCell ⟨w.heap.size + 1, 2, none⟩ (.slice none 0 0) = W2 at *
    refine bodyPost_ret (v := .tuple #[.agg #[(.int .i64 0), (.slice none 0 0), (.slice none 0 0)], .slice none 0 0, .int .i64 (moCheck M)]) ?_ rfl ?_
    · rw [results_cell_two rfl]
      go_simp
    · exact ⟨none, none, none, 0, 0, 0, [], by rw [HN.out, HN2.out, HN3.out]; rfl, by rw [HN2.out]; exact FrM.zero _ _ _, fun w'' _ => by rw [HN3.out]; exact RI.nil _ _, hEx⟩
  have hq : (moCheck M != 0) = false := by simp [hM]
  obtain ⟨N, ok⟩ := moCheck_ok hM
  have hNt : M.worlds.toNat = N := by rw [ok.worlds]; exact Int.toNat_natCast N
  have HALL : Hid (∀ w, Calls Tryz.prog 147 #[.int .i64 M.worlds] w fun e w' => e = .returned (.int .u64 (un (allW N))) ∧ w = w') := by rw [ok.worlds]; exact Lib.hid fun w => all_any N w
  by_cases hs : s &&& ~~~ allW N = 0#64
  rotate_left
  · have hq2 : (s &&& ~~~ allW N != 0#64) = true := by simpa using hs
    have hn : resErr M s = 2 := by unfold resErr; rw [if_neg (by simp [hM]), hNt, if_pos hs]
    have hn2 : resM M s = ⟨0, [], []⟩ := if_neg (by rw [hn]; decide)
    have hn3 : resL M s = [] := if_neg (by rw [hn]; decide)
    clear hs
    have HN := Lib.hid hn
    have HN2 := Lib.hid hn2
    have HN3 := Lib.hid hn3
    clear hn hn2 hn3
    go_enter Tryz.func109, Tryz.ntmps109
    go_wp2_with (first | (go_at_call 71; refine (modelCheck_any M va ra vc rc _ hm0).mono ?_; rintro e w1 ⟨rfl, hE1⟩; obtain ⟨r0, r1, r2, rfz⟩ := HR.out.ext hE1; have f0 := rfz 0; have f1 := rfz 1; have f2 := rfz 2; have HO : Hid (OutAt w1 _ _ _ _) := Lib.hid ⟨r0, r1, r2, rfz⟩; clear rfz; have q0 := hE1.cell m0; have q1 := hE1.cell m1; have q2 := hE1.cell m2; have HE1 := Lib.hid (HE.out.trans hE1)) | (go_at_call 147; refine (HALL.out _).mono ?_; rintro _ _ ⟨rfl, rfl⟩))
    obtain ⟨d0, d1, d2, -⟩ := ((HO.out.set0 (.int .i64 0)).set1 (.slice none 0 0)).set2 (.slice none 0 0)
    have hEx : Ext w (((w1.setCell ⟨w.heap.size + 1, 0, none⟩ (.int .i64 0)).setCell ⟨w.heap.size + 1, 1, none⟩ (.slice none 0 0)).setCell ⟨w.heap.size + 1, 2, none⟩ (.slice none 0 0)) := ((HE1.out.setCell (by simp) _).setCell (by simp) _).setCell (by simp) _
    generalize ((w1.setCell ⟨w.heap.size + 1, 0, none⟩ (.int .i64 0)).setCell ⟨w.heap.size + 1, 1, none⟩ (.slice none 0 0)).setCell ⟨w.heap.size + 1, 2, none⟩ (.slice none 0 0) = W2 at *
    refine bodyPost_ret (v := .tuple #[.agg #[(.int .i64 0), (.slice none 0 0), (.slice none 0 0)], .slice none 0 0, .int .i64 2]) ?_ rfl ?_
    · rw [results_cell_two rfl]
      go_simp
    · exact ⟨none, none, none, 0, 0, 0, [], by rw [HN.out, HN2.out, HN3.out]; rfl, by rw [HN2.out]; exact FrM.zero _ _ _, fun w'' _ => by rw [HN3.out]; exact RI.nil _ _, hEx⟩
  have hq2 : (s &&& ~~~ allW N != 0#64) = false := by simp [hs]
  by_cases h0 : s = 0#64
  · have hq3 : (s == 0#64) = true := by simp [h0]
    have hn : resErr M s = 6 := by unfold resErr; rw [if_neg (by simp [hM]), hNt, if_neg (by simp [hs]), if_pos h0]
    have hn2 : resM M s = ⟨0, [], []⟩ := if_neg (by rw [hn]; decide)
    have hn3 : resL M s = [] := if_neg (by rw [hn]; decide)
    clear hs h0
    have HN := Lib.hid hn
    have HN2 := Lib.hid hn2
    have HN3 := Lib.hid hn3
    clear hn hn2 hn3
    go_enter Tryz.func109, Tryz.ntmps109
    go_wp2_with (first | (go_at_call 71; refine (modelCheck_any M va ra vc rc _ hm0).mono ?_; rintro e w1 ⟨rfl, hE1⟩; obtain ⟨r0, r1, r2, rfz⟩ := HR.out.ext hE1; have f0 := rfz 0; have f1 := rfz 1; have f2 := rfz 2; have HO : Hid (OutAt w1 _ _ _ _) := Lib.hid ⟨r0, r1, r2, rfz⟩; clear rfz; have q0 := hE1.cell m0; have q1 := hE1.cell m1; have q2 := hE1.cell m2; have HE1 := Lib.hid (HE.out.trans hE1)) | (go_at_call 147; refine (HALL.out _).mono ?_; rintro _ _ ⟨rfl, rfl⟩))
    obtain ⟨d0, d1, d2, -⟩ := ((HO.out.set0 (.int .i64 0)).set1 (.slice none 0 0)).set2 (.slice none 0 0)
    have hEx : Ext w (((w1.setCell ⟨w.heap.size + 1, 0, none⟩ (.int .i64 0)).setCell ⟨w.heap.size + 1, 1, none⟩ (.slice none 0 0)).setCell ⟨w.heap.size + 1, 2, none⟩ (.slice none 0 0)) := ((HE1.out.setCell (by simp) _).setCell (by simp) _).setCell (by simp) _
    generalize ((w1.setCell ⟨w.heap.size + 1, 0, none⟩ (.int .i64 0)).setCell ⟨w.heap.size + 1, 1, none⟩ (.slice none 0 0)).setCell ⟨w.heap.size + 1, 2, none⟩ (.slice none 0 0) = W2 at *
    refine bodyPost_ret (v := .tuple #[.agg #[(.int .i64 0), (.slice none 0 0), (.slice none 0 0)], .slice none 0 0, .int .i64 6]) ?_ rfl ?_
    · rw [results_cell_two rfl]
      go_simp
    · exact ⟨none, none, none, 0, 0, 0, [], by rw [HN.out, HN2.out, HN3.out]; rfl, by rw [HN2.out]; exact FrM.zero _ _ _, fun w'' _ => by rw [HN3.out]; exact RI.nil _ _, hEx⟩
  · have hq3 : (s == 0#64) = false := by simpa using h0
    have hn : resErr M s = 0 := by unfold resErr; rw [if_neg (by simp [hM]), hNt, if_neg (by simp [hs]), if_neg h0]
    have hn2 : resM M s = arrM M (memL s) := if_pos hn
    have hn3 : resL M s = natI (memL s) := if_pos hn
    have HN := Lib.hid hn
    have HN2 := Lib.hid hn2
    have HN3 := Lib.hid hn3
    have hml := memL_len s
    have HLT : Hid (∀ i, i < (memL s).length → nth (memL s) i < N) := Lib.hid fun i hi => by
      have h := mem_memL.1 (show nth (memL s) i ∈ memL s by rw [nth_eq _ _ hi]; exact List.getElem_mem _)
      have h2 := andNot_zero.1 hs _ h.1 h.2
      rw [bt_allW] at h2; simp at h2; exact h2.2
    have hnl : (natI (memL s)).length = (memL s).length := by simp [natI]
    clear hn hn2 hn3 hs h0
    go_enter Tryz.func109, Tryz.ntmps109
    go_wp2_with (first | (go_at_call 71; refine (modelCheck_any M va ra vc rc _ hm0).mono ?_; rintro e w1 ⟨rfl, hE1⟩; obtain ⟨r0, r1, r2, rfz⟩ := HR.out.ext hE1; have f0 := rfz 0; have f1 := rfz 1; have f2 := rfz 2; have HO : Hid (OutAt w1 _ _ _ _) := Lib.hid ⟨r0, r1, r2, rfz⟩; clear rfz; have q0 := hE1.cell m0; have q1 := hE1.cell m1; have q2 := hE1.cell m2; have HE1 := Lib.hid (HE.out.trans hE1)) | (go_at_call 147; refine (HALL.out _).mono ?_; rintro _ _ ⟨rfl, rfl⟩) | (go_at_call 148; refine (members_any s _ (HT.out.ext hE1)).mono ?_; rintro e w2 ⟨la, lc, rfl, hu2, hE2⟩; rw [hnl]; have HU2 := Lib.hid hu2; have hu2r := hu2 w2 (fun _ _ _ => rfl); obtain ⟨r0, r1, r2, rfz⟩ := HO.out.ext hE2; have f0 := rfz 0; have f1 := rfz 1; have f2 := rfz 2; clear rfz; have q0 := hE2.cell q0; have q1 := hE2.cell q1; have q2 := hE2.cell q2) | (go_at_call 149; refine (arrangeO_any M va ra vc rc (memL s) la lc _ N ok (HM0.out.ext (hE1.trans hE2)) hu2r hml HLT.out).mono ?_; rintro e w3 ⟨va2, ra2, vc2, rc2, svs, rfl, hm3, hE3⟩; obtain ⟨r0, r1, r2, rfz⟩ := HO.out.ext (hE2.trans hE3); have f0 := rfz 0; have f1 := rfz 1; have f2 := rfz 2; have HO3 : Hid (OutAt w3 _ _ _ _) := Lib.hid ⟨r0, r1, r2, rfz⟩; clear rfz; have HM3 := Lib.hid hm3; have HB3 := Lib.hid hE3; have hw1s := hE1.size; have hw2s := hE2.size; have HE3 := Lib.hid (HE1.out.trans (hE2.trans hE3)); clear hm3 hu2 hu2r))
    simp at hw1s
    have hk3 : ∀ (u : Value) (k : Nat) (W : World), Agree (w.heap.size + 2) W (W.setCell ⟨w.heap.size + 1, k, none⟩ u) := fun u k W j hj _ => heap_setCell_other W ⟨w.heap.size + 1, k, none⟩ j u (by simp; omega)
    have hag : Agree (w.heap.size + 2) w3 (((w3.setCell ⟨w.heap.size + 1, 0, none⟩ (.int .i64 (arrM M (memL s)).worlds)).setCell ⟨w.heap.size + 1, 1, none⟩ (.slice va2 (arrM M (memL s)).val.length vc2)).setCell ⟨w.heap.size + 1, 2, none⟩ (.slice ra2 (arrM M (memL s)).rel.length rc2)) := fun j hj hl => ((hk3 _ _ _ j hj (by simpa [World.setCell] using hl)).trans (hk3 _ _ _ j hj (by simpa [World.setCell] using hl))).trans (hk3 _ _ _ j hj hl)
    have hsz : (((w3.setCell ⟨w.heap.size + 1, 0, none⟩ (.int .i64 (arrM M (memL s)).worlds)).setCell ⟨w.heap.size + 1, 1, none⟩ (.slice va2 (arrM M (memL s)).val.length vc2)).setCell ⟨w.heap.size + 1, 2, none⟩ (.slice ra2 (arrM M (memL s)).rel.length rc2)).heap.size = w3.heap.size := by simp
    obtain ⟨d0, d1, d2, -⟩ := ((HO3.out.set0 (.int .i64 (arrM M (memL s)).worlds)).set1 (.slice va2 (arrM M (memL s)).val.length vc2)).set2 (.slice ra2 (arrM M (memL s)).rel.length rc2)
    have hEx : Ext w (((w3.setCell ⟨w.heap.size + 1, 0, none⟩ (.int .i64 (arrM M (memL s)).worlds)).setCell ⟨w.heap.size + 1, 1, none⟩ (.slice va2 (arrM M (memL s)).val.length vc2)).setCell ⟨w.heap.size + 1, 2, none⟩ (.slice ra2 (arrM M (memL s)).rel.length rc2)) := ((HE3.out.setCell (by simp) _).setCell (by simp) _).setCell (by simp) _
    generalize ((w3.setCell ⟨w.heap.size + 1, 0, none⟩ (.int .i64 (arrM M (memL s)).worlds)).setCell ⟨w.heap.size + 1, 1, none⟩ (.slice va2 (arrM M (memL s)).val.length vc2)).setCell ⟨w.heap.size + 1, 2, none⟩ (.slice ra2 (arrM M (memL s)).rel.length rc2) = W2 at *
    refine bodyPost_ret (v := .tuple #[.agg #[(.int .i64 (arrM M (memL s)).worlds), (.slice va2 (arrM M (memL s)).val.length vc2), (.slice ra2 (arrM M (memL s)).rel.length rc2)], .slice la (memL s).length lc, .int .i64 0]) ?_ rfl ?_
    · rw [results_cell_two rfl]
      go_simp
    · refine ⟨va2, ra2, la, vc2, rc2, lc, svs, by rw [HN.out, HN2.out, HN3.out, hnl], ?_, fun w'' ha => ?_, hEx⟩
      · rw [HN2.out]
        refine FrM.mono (B := w.heap.size + 2) (HM3.out.mono (by omega) |>.agree hag) (by omega)
      · rw [HN3.out]
        refine HU2.out w'' fun j hj hl => ?_
        have hl3 : j < w3.heap.size := Nat.lt_of_lt_of_le hl HB3.out.size
        exact ((ha j (by omega) (by rw [hsz]; exact hl3)).trans (hag j (by omega) hl3)).trans (HB3.out.block j hl)
theorem restrict_any (M : Mo) (va ra : Option Addr) (vc rc : Nat) (s : BitVec 64) (w : World) (hm : RM w va ra M) (hT : Tab w) :
    Calls Tryz.prog 109 #[.agg #[.int .i64 M.worlds, .slice va M.val.length vc, .slice ra M.rel.length rc], .int .u64 (un s)] w fun e w' => RetR (resM M s) (resL M s) (resErr M s) e w w' :=
  (restrictO_any M va ra vc rc s w hm hT).mono fun _ _ h => h.r
end Wt
