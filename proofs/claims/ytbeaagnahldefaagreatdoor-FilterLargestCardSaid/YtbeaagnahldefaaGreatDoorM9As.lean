/- Walk: model.arrange. -/
import Derived.Test.YtbeaagnahldefaaGreatDoorM9Ap
import Derived.Test.YtbeaagnahldefaaGreatDoorM9Ar
import Derived.Laws.ResultCell
import Derived.Deep.Heap
import Derived.Laws.CopyOwn
import Derived.Deep.WholeRow
import Derived.Deep.RegionLaw
import Derived.Outline
namespace Wt
open Go Go.RowKit Go.Maps Go.Proofs Fm

theorem nth_mapZ {α β : Type} [Inhabited α] [Inhabited β] (F : α → β) (m : List α) {k : Nat} (h : k < m.length) : nth (m.map F) k = F (nth m k) := by
  rw [nth_eq _ _ (by simpa using h), nth_eq _ _ h]; simp
/-- A struct of three cells that the call may write. -/
structure OutAt (w : World) (b : Nat) (x y z : Value) : Prop where
  c0 : w.cell? ⟨b, 0, none⟩ = some x
  c1 : w.cell? ⟨b, 1, none⟩ = some y
  c2 : w.cell? ⟨b, 2, none⟩ = some z
  fz : ∀ o, w.frozen? ⟨b, o, none⟩ = false
theorem OutAt.keep {w w' : World} {b : Nat} {x y z : Value} (h : OutAt w b x y z) (e : w'.heap[b]? = w.heap[b]?) : OutAt w' b x y z := by
  obtain ⟨h0, h1, h2, h3⟩ := h
  refine ⟨?_, ?_, ?_, fun o => ?_⟩
  · rw [World.cell?_of_block (w := w) e]; exact h0
  · rw [World.cell?_of_block (w := w) e]; exact h1
  · rw [World.cell?_of_block (w := w) e]; exact h2
  · rw [World.frozen?_of_block (w := w) e]; exact h3 o
theorem OutAt.new (w : World) (x y z : Value) (T : Nat) : OutAt (w.alloc (.cells #[x, y, z] T)) w.heap.size x y z := ⟨by simp, by simp, by simp, fun o => by first | (simp; done) | (simp [World.frozen?]; done)⟩
theorem OutAt.new2 (w : World) (o p : Obj) (x y z : Value) (T : Nat) : OutAt (((w.alloc o).alloc (.cells #[x, y, z] T)).alloc p) (w.heap.size + 1) x y z := by
  have h := OutAt.new (w.alloc o) x y z T
  have hs : (w.alloc o).heap.size = w.heap.size + 1 := by simp
  rw [hs] at h
  exact h.keep (((Ext.refl _).alloc p).block _ (by simp))
theorem OutAt.set0 {w : World} {b : Nat} {x y z : Value} (h : OutAt w b x y z) (u : Value) : OutAt (w.setCell ⟨b, 0, none⟩ u) b u y z := by
  obtain ⟨h0, h1, h2, h3⟩ := h
  refine ⟨?_, ?_, ?_, fun o => by rw [World.frozen?_setCell]; exact h3 o⟩
  · exact World.cell?_setCell_same _ _ _ h0
  · rw [World.cell?_setCell_other _ _ _ _ (by simp)]; exact h1
  · rw [World.cell?_setCell_other _ _ _ _ (by simp)]; exact h2
theorem OutAt.new3 (w : World) (o p : Obj) (x y z : Value) (T : Nat) : OutAt (((w.alloc o).alloc p).alloc (.cells #[x, y, z] T)) (w.heap.size + 2) x y z := by
  have h := OutAt.new ((w.alloc o).alloc p) x y z T
  have hs : ((w.alloc o).alloc p).heap.size = w.heap.size + 2 := by simp
  rw [hs] at h; exact h
theorem OutAt.lt {w : World} {b : Nat} {x y z : Value} (h : OutAt w b x y z) : b < w.heap.size := World.block_lt_of_cell? _ _ h.c0
theorem OutAt.set1 {w : World} {b : Nat} {x y z : Value} (h : OutAt w b x y z) (u : Value) : OutAt (w.setCell ⟨b, 1, none⟩ u) b x u z := by
  obtain ⟨h0, h1, h2, h3⟩ := h
  refine ⟨?_, ?_, ?_, fun o => by rw [World.frozen?_setCell]; exact h3 o⟩
  · rw [World.cell?_setCell_other _ _ _ _ (by simp)]; exact h0
  · exact World.cell?_setCell_same _ _ _ h1
  · rw [World.cell?_setCell_other _ _ _ _ (by simp)]; exact h2
theorem OutAt.set2 {w : World} {b : Nat} {x y z : Value} (h : OutAt w b x y z) (u : Value) : OutAt (w.setCell ⟨b, 2, none⟩ u) b x y u := by
  obtain ⟨h0, h1, h2, h3⟩ := h
  refine ⟨?_, ?_, ?_, fun o => by rw [World.frozen?_setCell]; exact h3 o⟩
  · rw [World.cell?_setCell_other _ _ _ _ (by simp)]; exact h0
  · rw [World.cell?_setCell_other _ _ _ _ (by simp)]; exact h1
  · exact World.cell?_setCell_same _ _ _ h2
theorem setOther {w : World} {B T sz n b k : Nat} {v u : Value} {xs : List Value} (h : w.ownsRow B T sz v n xs) (hb : b < B) : (w.setCell ⟨b, k, none⟩ u).ownsRow B T sz v n xs :=
  h.kept (row := some b) ⟨rfl, rfl, rfl, by simp, fun j _ hj => heap_setCell_other w ⟨b, k, none⟩ j _ (fun e => hj (by simp [e]))⟩ (by
    cases hv : v.ownBlock with
    | none => exact .inl rfl
    | some g => right; intro e; have := (h.lt g hv).1; simp only [Option.some.injEq] at e; omega)
theorem own_ne {w : World} {B T T' sz sz' n n' : Nat} {v v' : Value} {xs xs' : List Value} (h : w.ownsRow B T sz v n xs) (h' : w.ownsRow B T' sz' v' n' xs') (hT : T ≠ T') : v.ownBlock = none ∨ v.ownBlock ≠ v'.ownBlock := by
  rcases h.2 with ⟨rfl, _⟩ | ⟨g, cap, cur, rfl, _, hg, _⟩
  · exact .inl rfl
  · right
    rcases h'.2 with ⟨rfl, _⟩ | ⟨g', cap', cur', rfl, _, hg', _⟩
    · simp [Value.ownBlock]
    · intro e
      simp only [Value.ownBlock, Option.some.injEq] at e
      subst e
      rw [hg] at hg'
      simp only [Option.some.injEq, Obj.cells.injEq] at hg'
      exact hT hg'.2.1
/-- Two slices that share no memory. -/
def Apart (u v : Value) : Prop := u.ownBlock = none ∨ u.ownBlock ≠ v.ownBlock
/-- A later slice shares no memory with an earlier one. -/
theorem Apart.later {w : World} {B T sz n : Nat} {u v : Value} {xs : List Value} (h : w.ownsRow B T sz u n xs) (hv : ∀ b, v.ownBlock = some b → b < B) : Apart u v := by
  unfold Apart
  cases hu : u.ownBlock with
  | none => exact .inl rfl
  | some g =>
    right
    intro e
    have h1 := (h.lt g hu).1
    have h2 := hv g e.symm
    omega
/-- The rounds of arrange: the struct that is built, its sets and its rows. -/
structure AR (W0 : World) (n len : Nat) (lv : List (BitVec 64)) (svs : List Value) (rows : List (List (BitVec 64))) (vv vr : Value) (wr : World) : Prop where
  e : Below (n + 2) W0 wr
  lo : n + 2 ≤ W0.heap.size
  out : OutAt wr (n + 2) (.int .i64 (len : Int)) vv vr
  ov : wr.ownsRow (n + 3) 39 1 vv lv.length (lv.map uv)
  orr : wr.ownsRow (n + 3) 22 1 vr svs.length svs
  rl : svs.length = rows.length
  rw : ∀ j, j < rows.length → OU wr (n + 3) (nth svs j) (nth rows j)
  dj : ∀ i j, i < j → j < svs.length → Apart (nth svs j) (nth svs i)
  dv : ∀ j, j < svs.length → Apart (nth svs j) vv
section
variable {W0 wr W1 : World} {n len : Nat} {lv : List (BitVec 64)} {svs : List Value} {rows : List (List (BitVec 64))} {vv vr v' : Value}
theorem AR.ext' {w' : World} (h : AR W0 n len lv svs rows vv vr wr) (e : Ext wr w') : AR W0 n len lv svs rows vv vr w' := by
  have hk : ∀ {T sz m : Nat} {v : Value} {xs : List Value}, wr.ownsRow (n + 3) T sz v m xs → w'.ownsRow (n + 3) T sz v m xs := fun {_ _ _ v _} ho => ho.kept (row := none) ⟨e.os, e.tape, e.output, e.size, fun k hk _ => e.block k hk⟩ (by cases v.ownBlock <;> simp)
  exact ⟨Below.trans h.e (Below.mono e (by have := h.out.lt; omega)), h.lo, h.out.keep (e.block _ h.out.lt), hk h.ov, hk h.orr, h.rl, fun j hj => hk (h.rw j hj), h.dj, h.dv⟩
/-- One more set. -/
theorem AR.pushV (h : AR W0 n len lv [] [] vv (.slice none 0 0) wr) {x : BitVec 64} (ho : W1.ownsRow (n + 3) 39 1 v' (lv.length + 1) (lv.map uv ++ [uv x])) (g : wr.grownBy W1 vv.ownBlock) :
    AR W0 n len (lv ++ [x]) [] [] v' (.slice none 0 0) (W1.setCell ⟨n + 2, 1, none⟩ v') := by
  have hr : ∀ k, vv.ownBlock = some k → n + 3 ≤ k := fun k hk => (h.ov.lt k hk).1
  have hb : W1.heap[n + 2]? = wr.heap[n + 2]? := g.block _ h.out.lt (fun e => by have := hr _ e.symm; omega)
  refine ⟨(Below.grown h.e g (by have := h.out.lt; omega) (fun k hk => by have := hr k hk; omega)).setCell (by simp) _, h.lo, (h.out.keep hb).set1 v', ?_, World.ownsRow_nil _ _ _ _, rfl, fun j hj => absurd hj (by simp), fun i j _ hj => absurd hj (by simp), fun j hj => absurd hj (by simp)⟩
  refine setOther ?_ (by omega)
  rw [List.map_append, List.length_append]; exact ho
/-- One more row. -/
theorem AR.pushR (h : AR W0 n len lv svs rows vv vr wr) {sv : Value} {r : List (BitVec 64)} (hs : OU wr (n + 3) sv r) (hd : (∀ j, j < svs.length → Apart sv (nth svs j)) ∧ Apart sv vv) (ho : W1.ownsRow (n + 3) 22 1 v' (svs.length + 1) (svs ++ [sv])) (g : wr.grownBy W1 vr.ownBlock) :
    AR W0 n len lv (svs ++ [sv]) (rows ++ [r]) vv v' (W1.setCell ⟨n + 2, 2, none⟩ v') := by
  have hr : ∀ k, vr.ownBlock = some k → n + 3 ≤ k := fun k hk => (h.orr.lt k hk).1
  have hb : W1.heap[n + 2]? = wr.heap[n + 2]? := g.block _ h.out.lt (fun e => by have := hr _ e.symm; omega)
  have hk : ∀ {m : Nat} {v : Value} {xs : List Value}, wr.ownsRow (n + 3) 39 1 v m xs → (W1.setCell ⟨n + 2, 2, none⟩ v').ownsRow (n + 3) 39 1 v m xs := fun ho => setOther (ho.kept g (own_ne ho h.orr (by decide))) (by omega)
  refine ⟨(Below.grown h.e g (by have := h.out.lt; omega) (fun k hk => by have := hr k hk; omega)).setCell (by simp) _, h.lo, (h.out.keep hb).set2 v', hk h.ov, ?_, by simp [h.rl], fun j hj => ?_, fun i j hij hj => ?_, fun j hj => ?_⟩
  · refine setOther ?_ (by omega)
    rw [List.length_append]; exact ho
  · by_cases hj2 : j < rows.length
    · rw [nth_appL _ _ (by rw [h.rl]; exact hj2), nth_appL _ _ hj2]; exact hk (h.rw j hj2)
    · have e : j = rows.length := by simp at hj; omega
      subst e
      have e1 := nth_appR svs [sv] (k := 0) (by simp)
      have e2 := nth_appR rows [r] (k := 0) (by simp)
      rw [Nat.add_zero, h.rl] at e1
      rw [Nat.add_zero] at e2
      rw [e1, e2]; exact hk hs
  · have hj : j < svs.length + 1 := by simpa using hj
    rw [nth_appL svs [sv] (k := i) (by omega)]
    by_cases hj2 : j < svs.length
    · rw [nth_appL _ _ hj2]; exact h.dj i j hij hj2
    · obtain rfl : j = svs.length := by omega
      have e1 := nth_appR svs [sv] (k := 0) (by simp)
      rw [Nat.add_zero] at e1
      rw [e1]; exact hd.1 i hij
  · have hj : j < svs.length + 1 := by simpa using hj
    by_cases hj2 : j < svs.length
    · rw [nth_appL _ _ hj2]; exact h.dv j hj2
    · obtain rfl : j = svs.length := by omega
      have e1 := nth_appR svs [sv] (k := 0) (by simp)
      rw [Nat.add_zero] at e1
      rw [e1]; exact hd.2
/-- A row that is made later shares no memory with what there is. -/
theorem AR.apart {wz : World} {sv : Value} {r : List (BitVec 64)} (h : AR W0 n len lv svs rows vv vr wr) (hs : OU wz wr.heap.size sv r) : (∀ j, j < svs.length → Apart sv (nth svs j)) ∧ Apart sv vv :=
  ⟨fun j hj => Apart.later hs fun b hb => ((h.rw j (by rw [← h.rl]; exact hj)).lt b hb).2, Apart.later hs fun b hb => (h.ov.lt b hb).2⟩
theorem AR.outV (h : AR W0 n len lv svs rows vv vr wr) (g : wr.grownBy W1 vv.ownBlock) : OutAt W1 (n + 2) (.int .i64 (len : Int)) vv vr :=
  h.out.keep (g.block _ h.out.lt (fun e => by have := (h.ov.lt _ e.symm).1; omega))
theorem AR.outR (h : AR W0 n len lv svs rows vv vr wr) (g : wr.grownBy W1 vr.ownBlock) : OutAt W1 (n + 2) (.int .i64 (len : Int)) vv vr :=
  h.out.keep (g.block _ h.out.lt (fun e => by have := (h.orr.lt _ e.symm).1; omega))
end
/-- An operation of a region that draws its order and has no guard, as it stands: for a call of a Go function within go_region_law. -/
theorem step_go {P : Program} {ops : Array Oper} {o : Oper} {a : Act} {w : World} {K : Act → World → Prop} {Q : Exit → Act → World → Prop} {E : Prop} (hg : o.guard = none) (h : Oper.wp P o a w K Q) :
    if Region.wanted o (yielded ops a.tmps) = true then Oper.wp P o a w K Q else E := by
  rw [if_pos (by simp [Region.wanted, hg])]; exact h
/-- Loop 1: the sets so far. -/
def ARV (W0 : World) (n len : Nat) (L : List (BitVec 64)) (k : Nat) (wr : World) : Prop := ∃ vv, AR W0 n len (L.take k) [] [] vv (.slice none 0 0) wr
theorem results_cell_oneA {fn : Func} {p : Tmp} {ty : TypeId} (h : fn.results = #[.cell p ty]) (tmps : Array Value) (P : Program) (w : World) :
    (results fn tmps).run P w = ((asAddr (tmps.getD p undef)).run P w).andThen fun a w₁ => ((loadVar ty a).run P w₁).andThen fun v w₂ => .ok v w₂ := by
  simp only [results, h]
  simp [Sem.run_bind, Result.andThen]
  cases (asAddr (tmps[p]?.getD undef)).run P w with
  | ok a w => dsimp only; cases (loadVar ty a).run P w <;> rfl
  | halt h w => rfl
theorem own_mono {w : World} {B B' T sz n : Nat} {v : Value} {xs : List Value} (h : w.ownsRow B T sz v n xs) (hb : B' ≤ B) : w.ownsRow B' T sz v n xs := by
  refine ⟨h.1, ?_⟩
  rcases h.2 with hn | ⟨g, cap, cur, e, hg, rest⟩
  · exact .inl hn
  · exact .inr ⟨g, cap, cur, e, Nat.le_trans hb hg, rest⟩
/-- A model in memory of its own: no two of its rows share any. -/
structure FrM (B : Nat) (w : World) (va ra : Option Addr) (vc rc : Nat) (A : Mo) (svs : List Value) : Prop where
  ov : OU w B (.slice va A.val.length vc) A.val
  orr : w.ownsRow B 22 1 (.slice ra A.rel.length rc) svs.length svs
  rl : svs.length = A.rel.length
  rw : ∀ j, j < A.rel.length → OU w B (nth svs j) (nth A.rel j)
  dj : ∀ i j, i < j → j < svs.length → Apart (nth svs j) (nth svs i)
  dv : ∀ j, j < svs.length → Apart (nth svs j) (.slice va A.val.length vc)
  big : A.val.length ≤ 140737488355328 ∧ A.rel.length ≤ 140737488355328 ∧ ∀ j, j < A.rel.length → (nth A.rel j).length ≤ 140737488355328
theorem FrM.mono {B B' : Nat} {w : World} {va ra : Option Addr} {vc rc : Nat} {A : Mo} {svs : List Value} (h : FrM B w va ra vc rc A svs) (hb : B' ≤ B) : FrM B' w va ra vc rc A svs :=
  ⟨OU.mono h.ov hb, own_mono h.orr hb, h.rl, fun j hj => OU.mono (h.rw j hj) hb, h.dj, h.dv, h.big⟩
theorem FrM.agree {B : Nat} {w w' : World} {va ra : Option Addr} {vc rc : Nat} {A : Mo} {svs : List Value} (h : FrM B w va ra vc rc A svs) (ha : Agree B w w') : FrM B w' va ra vc rc A svs :=
  ⟨own_agree h.ov ha, own_agree h.orr ha, h.rl, fun j hj => own_agree (h.rw j hj) ha, h.dj, h.dv, h.big⟩
/-- A model that the call has made. -/
def RetMA (A : Mo) (e : Ending) (w w' : World) : Prop := ∃ va ra vc rc, e = .returned (.agg #[.int .i64 A.worlds, .slice va A.val.length vc, .slice ra A.rel.length rc]) ∧ (∀ w'', Agree w.heap.size w' w'' → RM w'' va ra A) ∧ Ext w w'
theorem RR_of_rows {w : World} {B n c : Nat} {a : Option Addr} {svs : List Value} {rows : List (List (BitVec 64))} (h : w.ownsRow B 22 1 (.slice a n c) svs.length svs) (hl : svs.length = rows.length) (hr : ∀ j, j < rows.length → w.ownsRow B 39 1 (nth svs j) (nth rows j).length ((nth rows j).map uv)) (hb : rows.length ≤ 140737488355328) (h64 : ∀ j, j < rows.length → (nth rows j).length ≤ 140737488355328) : RR w a rows := by
  rcases h.2 with ⟨e, h0⟩ | ⟨g, cap, cur, e, _, hg, hnc, hcm, hcs, htake⟩
  · have : rows = [] := List.eq_nil_of_length_eq_zero (by omega)
    subst this
    exact RR.nil _ _
  · simp only [Value.slice.injEq] at e
    obtain ⟨rfl, -, -⟩ := e
    refine ⟨hb, fun k hk => ?_⟩
    obtain ⟨a', c', hv, hu⟩ := RU_of_OU (show OU w B (nth svs k) (nth rows k) from hr k hk) (h64 k hk)
    refine ⟨g, 0, a', c', rfl, ?_, hu⟩
    rw [cell_of_row w g _ cur _ (0, 0) hg, Nat.zero_add, ← hv]
    have h1 : svs[k]? = some (nth svs k) := by rw [nth_eq svs k (by omega)]; simp [show k < svs.length by omega]
    have h2 : (cur.toList.take (svs.length * 1))[k]? = some (nth svs k) := by rw [htake]; exact h1
    rw [List.getElem?_take, if_pos (by omega)] at h2
    simpa using h2
/-- Loop 2: the rows so far. -/
def ARR (W0 : World) (n len : Nat) (L : List (BitVec 64)) (Rows : List (List (BitVec 64))) (k : Nat) (wr : World) : Prop := ∃ vv svs vr, AR W0 n len L svs (Rows.take k) vv vr wr
/-- Loop 3: the row so far. -/
def GLE (w0 : World) (row : List (BitVec 64)) (j : Nat) (vl : Value) (wr : World) : Prop := GL w0 39 uv (row.take j) vl wr
theorem sl_info : (Tryz.prog.info? 22).map (fun i => (i.zero, i.size, i.bytes)) = some (some (.slice none 0 0), 1, 24) := by kernel_rfl
theorem FrM.rm {B : Nat} {w : World} {va ra : Option Addr} {vc rc : Nat} {A : Mo} {svs : List Value} (h : FrM B w va ra vc rc A svs) : RM w va ra A := by
  obtain ⟨v2, vc2, hv2, huV⟩ := RU_of_OU h.ov h.big.1
  simp only [Value.slice.injEq] at hv2
  obtain ⟨rfl, -, -⟩ := hv2
  exact ⟨huV, RR_of_rows h.orr h.rl h.rw h.big.2.1 h.big.2.2⟩
/-- A model that the call has made, in memory of its own. -/
def RetMO (A : Mo) (e : Ending) (w w' : World) : Prop := ∃ va ra vc rc svs, e = .returned (.agg #[.int .i64 A.worlds, .slice va A.val.length vc, .slice ra A.rel.length rc]) ∧ FrM w.heap.size w' va ra vc rc A svs ∧ Ext w w'
theorem RetMO.ma {A : Mo} {e : Ending} {w w' : World} (h : RetMO A e w w') : RetMA A e w w' := by
  obtain ⟨va, ra, vc, rc, svs, h1, h2, h3⟩ := h
  exact ⟨va, ra, vc, rc, h1, fun w'' ha => (h2.agree ha).rm, h3⟩
end Wt

/- Walks: model.Restrict, model.Generated. -/
namespace Wt
open Go Go.RowKit Go.Maps Go.Proofs Fm

theorem results_cell_two {fn : Func} {p u v : Tmp} {ty : TypeId} (h : fn.results = #[.cell p ty, .tmp u, .tmp v]) (tmps : Array Value) (P : Program) (w : World) :
    (results fn tmps).run P w = ((asAddr (tmps.getD p undef)).run P w).andThen fun a w₁ => ((loadVar ty a).run P w₁).andThen fun x w₂ => .ok (.tuple #[x, tmps.getD u undef, tmps.getD v undef]) w₂ := by
  simp only [results, h]
  simp [Sem.run_bind, Result.andThen]
theorem OutAt.new1 (w : World) (o : Obj) (x y z : Value) (T : Nat) : OutAt ((w.alloc o).alloc (.cells #[x, y, z] T)) (w.heap.size + 1) x y z := by
  have h := OutAt.new (w.alloc o) x y z T
  have hs : (w.alloc o).heap.size = w.heap.size + 1 := by simp
  rw [hs] at h; exact h
theorem OutAt.ext {w w' : World} {b : Nat} {x y z : Value} (h : OutAt w b x y z) (e : Ext w w') : OutAt w' b x y z := h.keep (e.block _ h.lt)
/-- A model, a list of worlds and an error. -/
def RetR (A : Mo) (l : List Int) (c : Int) (e : Ending) (w w' : World) : Prop := ∃ va ra la vc rc lc, e = .returned (.tuple #[.agg #[.int .i64 A.worlds, .slice va A.val.length vc, .slice ra A.rel.length rc], .slice la l.length lc, .int .i64 c]) ∧ (∀ w'', Agree w.heap.size w' w'' → RM w'' va ra A ∧ RI w'' la l) ∧ Ext w w'
/-- The same, the model in memory of its own. -/
def RetRO (A : Mo) (l : List Int) (c : Int) (e : Ending) (w w' : World) : Prop := ∃ va ra la vc rc lc svs, e = .returned (.tuple #[.agg #[.int .i64 A.worlds, .slice va A.val.length vc, .slice ra A.rel.length rc], .slice la l.length lc, .int .i64 c]) ∧ FrM w.heap.size w' va ra vc rc A svs ∧ (∀ w'', Agree w.heap.size w' w'' → RI w'' la l) ∧ Ext w w'
theorem RetRO.r {A : Mo} {l : List Int} {c : Int} {e : Ending} {w w' : World} (h : RetRO A l c e w w') : RetR A l c e w w' := by
  obtain ⟨va, ra, la, vc, rc, lc, svs, h1, h2, h3, h4⟩ := h
  exact ⟨va, ra, la, vc, rc, lc, h1, fun w'' ha => ⟨(h2.agree ha).rm, h3 w'' ha⟩, h4⟩
/-- No model. -/
theorem FrM.zero (B : Nat) (w : World) (n : Int) : FrM B w none none 0 0 ⟨n, [], []⟩ [] :=
  ⟨World.ownsRow_nil _ _ _ _, World.ownsRow_nil _ _ _ _, rfl, fun j hj => absurd hj (by simp), fun i j _ hj => absurd hj (by simp), fun j hj => absurd hj (by simp), by simp, by simp, fun j hj => absurd hj (by simp)⟩
def resErr (M : Mo) (s : BitVec 64) : Int := if moCheck M ≠ 0 then moCheck M else if s &&& ~~~ allW M.worlds.toNat ≠ 0#64 then 2 else if s = 0#64 then 6 else 0
def resM (M : Mo) (s : BitVec 64) : Mo := if resErr M s = 0 then arrM M (memL s) else ⟨0, [], []⟩
def resL (M : Mo) (s : BitVec 64) : List Int := if resErr M s = 0 then natI (memL s) else []
end Wt
