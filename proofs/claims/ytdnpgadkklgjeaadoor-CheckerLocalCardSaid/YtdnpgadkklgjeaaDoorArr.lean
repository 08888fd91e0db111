/- Walk: model.arrange. -/
import Derived.Test.YtdnpgadkklgjeaaDoorTz
import Derived.Test.YtdnpgadkklgjeaaDoorSub
import Derived.Laws.ResultCell
import Derived.Deep.Heap
import Derived.Laws.CopyOwn
import Derived.Deep.WholeRow
import Derived.Deep.RegionLaw
import Derived.Outline
namespace Wt
open Go Go.RowKit Go.Maps Go.Proofs Fm

theorem nth_mapZ {α β : Type} [Inhabited α] [Inhabited β] (F : α → β) (m : List α) {k : Nat} (h : k < m.length) : nth (m.map F) k = F (nth m k) := by
  rw [nth_eq _ _ (by simpa using h), nth_eq _ _ h]; simp
/-- A struct of three cells that the call may write. -/
structure OutAt (w : World) (b : Nat) (x y z : Value) : Prop where
  c0 : w.cell? ⟨b, 0, none⟩ = some x
  c1 : w.cell? ⟨b, 1, none⟩ = some y
  c2 : w.cell? ⟨b, 2, none⟩ = some z
  fz : ∀ o, w.frozen? ⟨b, o, none⟩ = false
theorem OutAt.keep {w w' : World} {b : Nat} {x y z : Value} (h : OutAt w b x y z) (e : w'.heap[b]? = w.heap[b]?) : OutAt w' b x y z := by
  obtain ⟨h0, h1, h2, h3⟩ := h
  refine ⟨?_, ?_, ?_, fun o => ?_⟩
  · rw [World.cell?_of_block (w := w) e]; exact h0
  · rw [World.cell?_of_block (w := w) e]; exact h1
  · rw [World.cell?_of_block (w := w) e]; exact h2
  · rw [World.frozen?_of_block (w := w) e]; exact h3 o
theorem OutAt.new (w : World) (x y z : Value) (T : Nat) : OutAt (w.alloc (.cells #[x, y, z] T)) w.heap.size x y z := ⟨by simp, by simp, by simp, fun o => by first | (simp; done) | (simp [World.frozen?]; done)⟩
theorem OutAt.new2 (w : World) (o p : Obj) (x y z : Value) (T : Nat) : OutAt (((w.alloc o).alloc (.cells #[x, y, z] T)).alloc p) (w.heap.size + 1) x y z := by
  have h := OutAt.new (w.alloc o) x y z T
  have hs : (w.alloc o).heap.size = w.heap.size + 1 := by simp
  rw [hs] at h
  exact h.keep (((Ext.refl _).alloc p).block _ (by simp))
theorem OutAt.set0 {w : World} {b : Nat} {x y z : Value} (h : OutAt w b x y z) (u : Value) : OutAt (w.setCell ⟨b, 0, none⟩ u) b u y z := by
  obtain ⟨h0, h1, h2, h3⟩ := h
  refine ⟨?_, ?_, ?_, fun o => by rw [World.frozen?_setCell]; exact h3 o⟩
  · exact World.cell?_setCell_same _ _ _ h0
  · rw [World.cell?_setCell_other _ _ _ _ (by simp)]; exact h1
  · rw [World.cell?_setCell_other _ _ _ _ (by simp)]; exact h2
theorem OutAt.new3 (w : World) (o p : Obj) (x y z : Value) (T : Nat) : OutAt (((w.alloc o).alloc p).alloc (.cells #[x, y, z] T)) (w.heap.size + 2) x y z := by
  have h := OutAt.new ((w.alloc o).alloc p) x y z T
  have hs : ((w.alloc o).alloc p).heap.size = w.heap.size + 2 := by simp
  rw [hs] at h; exact h
theorem OutAt.lt {w : World} {b : Nat} {x y z : Value} (h : OutAt w b x y z) : b < w.heap.size := World.block_lt_of_cell? _ _ h.c0
theorem OutAt.set1 {w : World} {b : Nat} {x y z : Value} (h : OutAt w b x y z) (u : Value) : OutAt (w.setCell ⟨b, 1, none⟩ u) b x u z := by
  obtain ⟨h0, h1, h2, h3⟩ := h
  refine ⟨?_, ?_, ?_, fun o => by rw [World.frozen?_setCell]; exact h3 o⟩
  · rw [World.cell?_setCell_other _ _ _ _ (by simp)]; exact h0
  · exact World.cell?_setCell_same _ _ _ h1
  · rw [World.cell?_setCell_other _ _ _ _ (by simp)]; exact h2
theorem OutAt.set2 {w : World} {b : Nat} {x y z : Value} (h : OutAt w b x y z) (u : Value) : OutAt (w.setCell ⟨b, 2, none⟩ u) b x y u := by
  obtain ⟨h0, h1, h2, h3⟩ := h
  refine ⟨?_, ?_, ?_, fun o => by rw [World.frozen?_setCell]; exact h3 o⟩
  · rw [World.cell?_setCell_other _ _ _ _ (by simp)]; exact h0
  · rw [World.cell?_setCell_other _ _ _ _ (by simp)]; exact h1
  · exact World.cell?_setCell_same _ _ _ h2
theorem setOther {w : World} {B T sz n b k : Nat} {v u : Value} {xs : List Value} (h : w.ownsRow B T sz v n xs) (hb : b < B) : (w.setCell ⟨b, k, none⟩ u).ownsRow B T sz v n xs :=
  h.kept (row := some b) ⟨rfl, rfl, rfl, by simp, fun j _ hj => heap_setCell_other w ⟨b, k, none⟩ j _ (fun e => hj (by simp [e]))⟩ (by
    cases hv : v.ownBlock with
    | none => exact .inl rfl
    | some g => right; intro e; have := (h.lt g hv).1; simp only [Option.some.injEq] at e; omega)
theorem own_ne {w : World} {B T T' sz sz' n n' : Nat} {v v' : Value} {xs xs' : List Value} (h : w.ownsRow B T sz v n xs) (h' : w.ownsRow B T' sz' v' n' xs') (hT : T ≠ T') : v.ownBlock = none ∨ v.ownBlock ≠ v'.ownBlock := by
  rcases h.2 with ⟨rfl, _⟩ | ⟨g, cap, cur, rfl, _, hg, _⟩
  · exact .inl rfl
  · right
    rcases h'.2 with ⟨rfl, _⟩ | ⟨g', cap', cur', rfl, _, hg', _⟩
    · simp [Value.ownBlock]
    · intro e
      simp only [Value.ownBlock, Option.some.injEq] at e
      subst e
      rw [hg] at hg'
      simp only [Option.some.injEq, Obj.cells.injEq] at hg'
      exact hT hg'.2.1
/-- The rounds of arrange: the struct that is built, its sets and its rows. -/
structure AR (W0 : World) (n len : Nat) (lv : List (BitVec 64)) (svs : List Value) (rows : List (List (BitVec 64))) (vv vr : Value) (wr : World) : Prop where
  e : Below (n + 2) W0 wr
  lo : n + 2 ≤ W0.heap.size
  out : OutAt wr (n + 2) (.int .i64 (len : Int)) vv vr
  ov : wr.ownsRow (n + 3) 31 1 vv lv.length (lv.map uv)
  orr : wr.ownsRow (n + 3) 22 1 vr svs.length svs
  rl : svs.length = rows.length
  rw : ∀ j, j < rows.length → OU wr (n + 3) (nth svs j) (nth rows j)
section
variable {W0 wr W1 : World} {n len : Nat} {lv : List (BitVec 64)} {svs : List Value} {rows : List (List (BitVec 64))} {vv vr v' : Value}
theorem AR.ext' {w' : World} (h : AR W0 n len lv svs rows vv vr wr) (e : Ext wr w') : AR W0 n len lv svs rows vv vr w' := by
  have hk : ∀ {T sz m : Nat} {v : Value} {xs : List Value}, wr.ownsRow (n + 3) T sz v m xs → w'.ownsRow (n + 3) T sz v m xs := fun {_ _ _ v _} ho => ho.kept (row := none) ⟨e.os, e.tape, e.output, e.size, fun k hk _ => e.block k hk⟩ (by cases v.ownBlock <;> simp)
  exact ⟨Below.trans h.e (Below.mono e (by have := h.out.lt; omega)), h.lo, h.out.keep (e.block _ h.out.lt), hk h.ov, hk h.orr, h.rl, fun j hj => hk (h.rw j hj)⟩
/-- One more set. -/
theorem AR.pushV (h : AR W0 n len lv [] [] vv (.slice none 0 0) wr) {x : BitVec 64} (ho : W1.ownsRow (n + 3) 31 1 v' (lv.length + 1) (lv.map uv ++ [uv x])) (g : wr.grownBy W1 vv.ownBlock) :
    AR W0 n len (lv ++ [x]) [] [] v' (.slice none 0 0) (W1.setCell ⟨n + 2, 1, none⟩ v') := by
  have hr : ∀ k, vv.ownBlock = some k → n + 3 ≤ k := fun k hk => (h.ov.lt k hk).1
  have hb : W1.heap[n + 2]? = wr.heap[n + 2]? := g.block _ h.out.lt (fun e => by have := hr _ e.symm; omega)
  refine ⟨(Below.grown h.e g (by have := h.out.lt; omega) (fun k hk => by have := hr k hk; omega)).setCell (by simp) _, h.lo, (h.out.keep hb).set1 v', ?_, World.ownsRow_nil _ _ _ _, rfl, fun j hj => absurd hj (by simp)⟩
  refine setOther ?_ (by omega)
  rw [List.map_append, List.length_append]; exact ho
/-- One more row. -/
theorem AR.pushR (h : AR W0 n len lv svs rows vv vr wr) {sv : Value} {r : List (BitVec 64)} (hs : OU wr (n + 3) sv r) (ho : W1.ownsRow (n + 3) 22 1 v' (svs.length + 1) (svs ++ [sv])) (g : wr.grownBy W1 vr.ownBlock) :
    AR W0 n len lv (svs ++ [sv]) (rows ++ [r]) vv v' (W1.setCell ⟨n + 2, 2, none⟩ v') := by
  have hr : ∀ k, vr.ownBlock = some k → n + 3 ≤ k := fun k hk => (h.orr.lt k hk).1
  have hb : W1.heap[n + 2]? = wr.heap[n + 2]? := g.block _ h.out.lt (fun e => by have := hr _ e.symm; omega)
  have hk : ∀ {m : Nat} {v : Value} {xs : List Value}, wr.ownsRow (n + 3) 31 1 v m xs → (W1.setCell ⟨n + 2, 2, none⟩ v').ownsRow (n + 3) 31 1 v m xs := fun ho => setOther (ho.kept g (own_ne ho h.orr (by decide))) (by omega)
  refine ⟨(Below.grown h.e g (by have := h.out.lt; omega) (fun k hk => by have := hr k hk; omega)).setCell (by simp) _, h.lo, (h.out.keep hb).set2 v', hk h.ov, ?_, by simp [h.rl], fun j hj => ?_⟩
  · refine setOther ?_ (by omega)
    rw [List.length_append]; exact ho
  · by_cases hj2 : j < rows.length
    · rw [nth_appL _ _ (by rw [h.rl]; exact hj2), nth_appL _ _ hj2]; exact hk (h.rw j hj2)
    · have e : j = rows.length := by simp at hj; omega
      subst e
      have e1 := nth_appR svs [sv] (k := 0) (by simp)
      have e2 := nth_appR rows [r] (k := 0) (by simp)
      rw [Nat.add_zero, h.rl] at e1
      rw [Nat.add_zero] at e2
      rw [e1, e2]; exact hk hs
theorem AR.outV (h : AR W0 n len lv svs rows vv vr wr) (g : wr.grownBy W1 vv.ownBlock) : OutAt W1 (n + 2) (.int .i64 (len : Int)) vv vr :=
  h.out.keep (g.block _ h.out.lt (fun e => by have := (h.ov.lt _ e.symm).1; omega))
theorem AR.outR (h : AR W0 n len lv svs rows vv vr wr) (g : wr.grownBy W1 vr.ownBlock) : OutAt W1 (n + 2) (.int .i64 (len : Int)) vv vr :=
  h.out.keep (g.block _ h.out.lt (fun e => by have := (h.orr.lt _ e.symm).1; omega))
end
/-- An operation of a region that draws its order and has no guard, as it stands: for a call of a Go function within go_region_law. -/
theorem step_go {P : Program} {ops : Array Oper} {o : Oper} {a : Act} {w : World} {K : Act → World → Prop} {Q : Exit → Act → World → Prop} {E : Prop} (hg : o.guard = none) (h : Oper.wp P o a w K Q) :
    if Region.wanted o (yielded ops a.tmps) = true then Oper.wp P o a w K Q else E := by
  rw [if_pos (by simp [Region.wanted, hg])]; exact h
/-- Loop 1: the sets so far. -/
def ARV (W0 : World) (n len : Nat) (L : List (BitVec 64)) (k : Nat) (wr : World) : Prop := ∃ vv, AR W0 n len (L.take k) [] [] vv (.slice none 0 0) wr
theorem results_cell_oneA {fn : Func} {p : Tmp} {ty : TypeId} (h : fn.results = #[.cell p ty]) (tmps : Array Value) (P : Program) (w : World) :
    (results fn tmps).run P w = ((asAddr (tmps.getD p undef)).run P w).andThen fun a w₁ => ((loadVar ty a).run P w₁).andThen fun v w₂ => .ok v w₂ := by
  simp only [results, h]
  simp [Sem.run_bind, Result.andThen]
  cases (asAddr (tmps[p]?.getD undef)).run P w with
  | ok a w => dsimp only; cases (loadVar ty a).run P w <;> rfl
  | halt h w => rfl
/-- A model that the call has made. -/
def RetMA (A : Mo) (e : Ending) (w w' : World) : Prop := ∃ va ra vc rc, e = .returned (.agg #[.int .i64 A.worlds, .slice va A.val.length vc, .slice ra A.rel.length rc]) ∧ (∀ w'', Agree w.heap.size w' w'' → RM w'' va ra A) ∧ Ext w w'
theorem RR_of_rows {w : World} {B n c : Nat} {a : Option Addr} {svs : List Value} {rows : List (List (BitVec 64))} (h : w.ownsRow B 22 1 (.slice a n c) svs.length svs) (hl : svs.length = rows.length) (hr : ∀ j, j < rows.length → w.ownsRow B 31 1 (nth svs j) (nth rows j).length ((nth rows j).map uv)) (hb : rows.length ≤ 140737488355328) (h64 : ∀ j, j < rows.length → (nth rows j).length ≤ 140737488355328) : RR w a rows := by
  rcases h.2 with ⟨e, h0⟩ | ⟨g, cap, cur, e, _, hg, hnc, hcm, hcs, htake⟩
  · have : rows = [] := List.eq_nil_of_length_eq_zero (by omega)
    subst this
    exact RR.nil _ _
  · simp only [Value.slice.injEq] at e
    obtain ⟨rfl, -, -⟩ := e
    refine ⟨hb, fun k hk => ?_⟩
    obtain ⟨a', c', hv, hu⟩ := RU_of_OU (show OU w B (nth svs k) (nth rows k) from hr k hk) (h64 k hk)
    refine ⟨g, 0, a', c', rfl, ?_, hu⟩
    rw [cell_of_row w g _ cur _ (0, 0) hg, Nat.zero_add, ← hv]
    have h1 : svs[k]? = some (nth svs k) := by rw [nth_eq svs k (by omega)]; simp [show k < svs.length by omega]
    have h2 : (cur.toList.take (svs.length * 1))[k]? = some (nth svs k) := by rw [htake]; exact h1
    rw [List.getElem?_take, if_pos (by omega)] at h2
    simpa using h2
/-- Loop 2: the rows so far. -/
def ARR (W0 : World) (n len : Nat) (L : List (BitVec 64)) (Rows : List (List (BitVec 64))) (k : Nat) (wr : World) : Prop := ∃ vv svs vr, AR W0 n len L svs (Rows.take k) vv vr wr
/-- Loop 3: the row so far. -/
def GLE (w0 : World) (row : List (BitVec 64)) (j : Nat) (vl : Value) (wr : World) : Prop := GL w0 31 uv (row.take j) vl wr
theorem sl_info : (Tryd.prog.info? 22).map (fun i => (i.zero, i.size, i.bytes)) = some (some (.slice none 0 0), 1, 24) := by kernel_rfl
set_option maxRecDepth 20000 in
set_option maxHeartbeats 8000000 in
theorem arrange_any (M : Mo) (va ra : Option Addr) (vc rc : Nat) (ws : List Nat) (wa : Option Addr) (wc : Nat) (w : World) (N : Nat) (ok : MoOk M N) (hm : RM w va ra M) (hw : RI w wa (natI ws)) (hws : ws.length ≤ 64) (hlt : ∀ i, i < ws.length → nth ws i < N) :
    Calls Tryd.prog 29 #[.agg #[.int .i64 M.worlds, .slice va M.val.length vc, .slice ra M.rel.length rc], .slice wa ws.length wc] w fun e w' => RetMA (arrM M ws) e w w' := by
  have hbx := MoBox.new w M.worlds M.val M.rel va vc ra rc 25
  have hv8 := ok.val
  have hr4 := ok.rel
  obtain ⟨i0, hi1, hz0, hz1, hz2⟩ := info_parts u64_info
  have HM := Lib.hid hm
  have HW := Lib.hid hw
  have HBX := Lib.hid hbx
  have OK := Lib.hid ok
  obtain ⟨m0, m1, m2⟩ := hbx
  dsimp only at m0 m1 m2
  clear hm hw ok
  go_enter Tryd.func29, Tryd.ntmps29
  go_wp2
  have hE0 : Ext w (((w.alloc (.cells #[.int .i64 M.worlds, .slice va M.val.length vc, .slice ra M.rel.length rc] 25)).alloc (.cells #[.int .i64 0, .slice none 0 0, .slice none 0 0] 25)).alloc (.cells #[.int .i64 (ws.length : Int), .slice none 0 0, .slice none 0 0] 25)) := (((Ext.refl w).alloc _).alloc _).alloc _
  have hA00 := OutAt.new3 w (.cells #[.int .i64 M.worlds, .slice va M.val.length vc, .slice ra M.rel.length rc] 25) (.cells #[.int .i64 0, .slice none 0 0, .slice none 0 0] 25) (.int .i64 (ws.length : Int)) (.slice none 0 0) (.slice none 0 0) 25
  have hA0 : AR (((w.alloc (.cells #[.int .i64 M.worlds, .slice va M.val.length vc, .slice ra M.rel.length rc] 25)).alloc (.cells #[.int .i64 0, .slice none 0 0, .slice none 0 0] 25)).alloc (.cells #[.int .i64 (ws.length : Int), .slice none 0 0, .slice none 0 0] 25)) w.heap.size ws.length [] [] [] (.slice none 0 0) (.slice none 0 0) (((w.alloc (.cells #[.int .i64 M.worlds, .slice va M.val.length vc, .slice ra M.rel.length rc] 25)).alloc (.cells #[.int .i64 0, .slice none 0 0, .slice none 0 0] 25)).alloc (.cells #[.int .i64 (ws.length : Int), .slice none 0 0, .slice none 0 0] 25)) :=
    ⟨Below.refl _ _, by simp, hA00, World.ownsRow_nil _ _ _ _, World.ownsRow_nil _ _ _ _, rfl, fun j hj => absurd hj (by simp)⟩
  have hbx0 : MoBox (((w.alloc (.cells #[.int .i64 M.worlds, .slice va M.val.length vc, .slice ra M.rel.length rc] 25)).alloc (.cells #[.int .i64 0, .slice none 0 0, .slice none 0 0] 25)).alloc (.cells #[.int .i64 (ws.length : Int), .slice none 0 0, .slice none 0 0] 25)) w.heap.size ⟨M.worlds, M.val, M.rel⟩ va vc ra rc := HBX.out.ext (((Ext.refl _).alloc _).alloc _)
  have hres0 : OutAt (((w.alloc (.cells #[.int .i64 M.worlds, .slice va M.val.length vc, .slice ra M.rel.length rc] 25)).alloc (.cells #[.int .i64 0, .slice none 0 0, .slice none 0 0] 25)).alloc (.cells #[.int .i64 (ws.length : Int), .slice none 0 0, .slice none 0 0] 25)) (w.heap.size + 1) (.int .i64 0) (.slice none 0 0) (.slice none 0 0) := OutAt.new2 w _ _ _ _ _ _
  generalize hW0 : (((w.alloc (.cells #[.int .i64 M.worlds, .slice va M.val.length vc, .slice ra M.rel.length rc] 25)).alloc (.cells #[.int .i64 0, .slice none 0 0, .slice none 0 0] 25)).alloc (.cells #[.int .i64 (ws.length : Int), .slice none 0 0, .slice none 0 0] 25)) = W0 at *
  have HE0 := Lib.hid hE0
  have HV : Hid (∀ w', Ext W0 w' ∨ Below (w.heap.size + 2) W0 w' → Ext w w') := Lib.hid fun w' e => by
    rcases e with e | e
    · exact hE0.trans e
    · exact Below.trans hE0 (Below.mono e (by omega))
  have hlo := hA0.lo
  have HBOX : Hid (∀ w', Below (w.heap.size + 2) W0 w' → MoBox w' w.heap.size ⟨M.worlds, M.val, M.rel⟩ va vc ra rc) := Lib.hid fun w' e => by
    obtain ⟨q0, q1, q2⟩ := hbx0
    have hb := e.block w.heap.size (by omega)
    exact ⟨by rw [World.cell?_of_block (w := W0) hb]; exact q0, by rw [World.cell?_of_block (w := W0) hb]; exact q1, by rw [World.cell?_of_block (w := W0) hb]; exact q2⟩
  have HRES : Hid (∀ w', Below (w.heap.size + 2) W0 w' → OutAt w' (w.heap.size + 1) (.int .i64 0) (.slice none 0 0) (.slice none 0 0)) := Lib.hid fun w' e => hres0.keep (e.block _ (by omega))
  generalize hL : M.val.map (fun s => pullL s ws) = L
  have hLl : L.length = M.val.length := by rw [← hL]; simp
  have HL : Hid (∀ k, k < M.val.length → nth L k = pullL (nth M.val k) ws) := Lib.hid fun k hk => by rw [← hL]; exact nth_mapZ _ _ hk
  clear m0 m1 m2 hE0 hW0
  go_loopw [19] (fun i wr => ∃ k : Nat, k ≤ M.val.length ∧ i = .int .i64 (k : Int) ∧ ARV W0 w.heap.size ws.length L k wr) (fun i _ => M.val.length - (intOf i).toNat)
  case atStart => exact ⟨0, Nat.zero_le _, rfl, _, hA0⟩
  case round =>
    obtain ⟨k, hk, rfl, vv, hAR⟩ := hrel
    have HAR := Lib.hid hAR
    by_cases hkl : k < M.val.length
    · obtain ⟨b, off, rfl, hb, hc⟩ := (HM.out.val.ext (HV.out wr (.inr hAR.e))).get hkl
      obtain ⟨o0, o1, o2, ofz⟩ := hAR.out
      have hsz := hAR.out.lt
      have htk : (L.take k).length = k := by rw [List.length_take]; omega
      have HWS : Hid (∀ w', Ext wr w' → RI w' wa (natI ws)) := Lib.hid fun w' e => (HW.out.ext (HV.out wr (.inr HAR.out.e))).ext e
      have HPA : Hid (∀ w', Ext wr w' → AR W0 w.heap.size ws.length (L.take k) [] [] vv (.slice none 0 0) w') := Lib.hid fun w' e => HAR.out.ext' e
      have HONE : Hid (∀ u ∈ [Value.int .u64 (un (pullL (nth M.val k) ws))], u.oneCell' = true) := fun u hu => by
        rcases List.mem_singleton.1 hu with rfl
        rfl
      have hfz := ofz 1
      clear hAR
      go_wp2_with fail
      go_region_law (first | (refine step_append_lies _ (by rfl) _ _ 22 (by rfl) (w.heap.size + 3) 31 i0 _ 1 8 Tryd.underlying22 hi1 hz0 hz1 hz2 rfl (by decide) vv (L.take k).length ((L.take k).map uv) (by rfl) (HPA.out _ ((Ext.refl _).drew.alloc _)).ov ⟨wr.heap.size, 0, none⟩ 1 1 [.int .u64 (un (pullL (nth M.val k) ws))] (by rfl) (by rfl) (cell_one_new _ _ _) HONE.out (by decide) (by unfold maxLen; omega) (by omega) (by simp; omega) (wr.heap.size + 1) (by simp) ?_; intro gx cap w1 hown1 hgrow hat hlt2; obtain ⟨p0, p1, p2, pfz⟩ := (HPA.out _ ((Ext.refl _).drew.alloc _)).outV hgrow; have pf := pfz 1; clear pfz) | (refine step_go (by rfl) ?_; go_simp; refine (pull_any (nth M.val k) ws wa wc _ (HWS.out _ (by first | exact Ext.refl _ | exact (Ext.refl _).drew | exact (Ext.refl _).drew.alloc _))).mono ?_; rintro _ _ ⟨rfl, rfl⟩; dsimp only))
      all_goals
        have hx : nth L k = pullL (nth M.val k) ws := HL.out k hkl
        have hone : L.take (k + 1) = L.take k ++ [pullL (nth M.val k) ws] := by
          rw [← hx, nth_eq _ _ (by omega), List.take_add_one, List.getElem?_eq_getElem (by omega)]; rfl
        have hnew := (HPA.out _ ((Ext.refl _).drew.alloc _)).pushV hown1 hgrow
        have HNEW := Lib.hid hnew
        have HONE1 := Lib.hid hone
        clear hnew hown1 hgrow hone hx
        go_wp2
        go_roundw
        case rel => exact ⟨k + 1, hkl, by go_num, _, by rw [HONE1.out]; rw [htk] at HNEW; exact HNEW.out⟩
        case measure => simp [intOf]; omega
    · obtain rfl : k = M.val.length := by omega
      have hfull : L.take M.val.length = L := List.take_of_length_le (by omega)
      rw [hfull] at hAR
      have HA2 := Lib.hid hAR
      obtain ⟨m0, m1, m2⟩ := HBOX.out wr hAR.e
      dsimp only at m0 m1 m2
      obtain ⟨i2, hj1, hy0, hy1, hy2⟩ := info_parts sl_info
      clear hAR HAR
      go_wp2
      generalize hRows : M.rel.map (fun r => ws.map fun v => pullL (nth r v) ws) = Rows
      have hRl : Rows.length = M.rel.length := by rw [← hRows]; simp
      have HRow : Hid (∀ k, k < M.rel.length → nth Rows k = ws.map fun v => pullL (nth (nth M.rel k) v) ws) := Lib.hid fun k hk => by rw [← hRows]; exact nth_mapZ _ _ hk
      go_loopw [35] (fun i wz => ∃ k : Nat, k ≤ M.rel.length ∧ i = .int .i64 (k : Int) ∧ ARR W0 w.heap.size ws.length L Rows k wz) (fun i _ => M.rel.length - (intOf i).toNat)
      case atStart => exact ⟨0, Nat.zero_le _, rfl, _, _, _, HA2.out⟩
      case round =>
        obtain ⟨k, hk, rfl, vv2, svs, vr, hAR⟩ := hrel
        have HAR := Lib.hid hAR
        by_cases hkl2 : k < M.rel.length
        · obtain ⟨b, off, a', c', rfl, hb, hc, hu⟩ := (HM.out.rel.ext (HV.out wr (.inr hAR.e))).get hkl2
          have hrl : (nth M.rel k).length = N := OK.out.row _ (by rw [nth_eq _ _ hkl2]; exact List.getElem_mem _)
          have HU := Lib.hid hu
          have hsz := hAR.out.lt
          have hrow := HRow.out k hkl2
          generalize hro : nth Rows k = row at hrow
          have hrowl : row.length = ws.length := by rw [hrow]; simp
          have HROW : Hid (∀ j, j < ws.length → nth row j = pullL (nth (nth M.rel k) (nth ws j)) ws) := Lib.hid fun j hj => by rw [hrow]; exact nth_mapZ _ _ hj
          have HWS : Hid (∀ w', Ext wr w' → RI w' wa (natI ws)) := Lib.hid fun w' e => (HW.out.ext (HV.out wr (.inr HAR.out.e))).ext e
          clear hAR hu hrow m0 m1 m2
          go_wp2
          go_loopw [10, 41] (fun vl i wz => ∃ j : Nat, j ≤ ws.length ∧ i = .int .i64 (j : Int) ∧ GLE wr row j vl wz) (fun _ i _ => ws.length - (intOf i).toNat)
          case atStart => exact ⟨0, Nat.zero_le _, rfl, Ext.refl _, World.ownsRow_nil _ _ _ _⟩
          case round =>
            rename World => wz
            obtain ⟨j, hj, rfl, hGL⟩ := hrel
            have hGL : GL wr 31 uv (row.take j) u10 wz := hGL
            have HGL := Lib.hid hGL
            have hszz : wr.heap.size ≤ wz.heap.size := hGL.e.size
            by_cases hjl : j < ws.length
            · obtain ⟨bw, ow, rfl, hbw, hcw⟩ := (HWS.out wz hGL.e).get (k := j) (by simpa [natI] using hjl)
              rw [nth_natI hjl] at hcw
              have hwN := hlt j hjl
              obtain ⟨b2, off2, rfl, hb2, hc2⟩ := (HU.out.ext hGL.e).get (k := nth ws j) (by omega)
              have hin1 : (0 : Int) ≤ ((nth ws j : Nat) : Int) := by omega
              have hin2 : ((nth ws j : Nat) : Int) < ((nth M.rel k).length : Int) := by omega
              have htk : (row.take j).length = j := by rw [List.length_take]; omega
              have hx : nth row j = pullL (nth (nth M.rel k) (nth ws j)) ws := HROW.out j hjl
              have hone : row.take (j + 1) = row.take j ++ [pullL (nth (nth M.rel k) (nth ws j)) ws] := by
                rw [← hx, nth_eq _ _ (by omega), List.take_add_one, List.getElem?_eq_getElem (by omega)]; rfl
              have HONE1 := Lib.hid hone
              have HPA : Hid (∀ o, GL wr 31 uv (row.take j) u10 (wz.alloc o)) := Lib.hid fun o => HGL.out.ext' ((Ext.refl wz).alloc o)
              have HONE : Hid (∀ u ∈ [Value.int .u64 (un (pullL (nth (nth M.rel k) (nth ws j)) ws))], u.oneCell' = true) := fun u hu => by
                rcases List.mem_singleton.1 hu with rfl
                rfl
              clear hGL hone hx
              go_wp2_with (first | (go_at_call 39; refine (pull_any (nth (nth M.rel k) (nth ws j)) ws _ wc _ (HWS.out wz HGL.out.e)).mono ?_; rintro _ _ ⟨rfl, rfl⟩) | (at_builtin; refine wpList_append_lies _ rfl _ _ 22 rfl wr.heap.size 31 i0 _ 1 8 Tryd.underlying22 hi1 hz0 hz1 hz2 rfl (by decide) u10 (row.take j).length _ rfl (HPA.out _).own ⟨wz.heap.size, 0, none⟩ 1 1 [.int .u64 (un (pullL (nth (nth M.rel k) (nth ws j)) ws))] rfl rfl (cell_one_new _ _ _) HONE.out (by decide) (by unfold maxLen; omega) (by omega) (Nat.le_trans hszz (by simp)) (wz.heap.size + 1) (by simp) ?_; intro gx cap W1 hown hgrow hat hlt2; have hpush := (HPA.out _).push (x := pullL (nth (nth M.rel k) (nth ws j)) ws) hown hgrow; have HPU := Lib.hid hpush; clear hpush hown hgrow hat))
              go_roundw
              case rel => exact ⟨j + 1, hjl, by go_num, by show GL _ _ _ (row.take (j + 1)) _ _; rw [HONE1.out]; rw [htk] at HPU; exact HPU.out⟩
              case measure => simp [intOf]; omega
            · obtain rfl : j = ws.length := by omega
              have hfull3 : row.take ws.length = row := List.take_of_length_le (by omega)
              rw [hfull3] at hGL
              obtain ⟨a3, c3, rfl, hu3⟩ := RU_of_OU (show OU wz wr.heap.size u10 row from hGL.own) (by omega)
              have hrow3 : OU wz (w.heap.size + 3) (.slice a3 ws.length c3) row := by
                have h := OU.mono (b' := w.heap.size + 3) (show OU wz wr.heap.size _ row from hGL.own) (by omega)
                rw [hrowl] at h; exact h
              have HA3 := Lib.hid (HAR.out.ext' hGL.e)
              obtain ⟨o0, o1, o2, ofz⟩ := HA3.out.out
              have hsz3 := HA3.out.out.lt
              have hfz := ofz 2
              have hrl2 : svs.length = k := by rw [HA3.out.rl, List.length_take]; omega
              have HPA : Hid (∀ o, AR W0 w.heap.size ws.length L svs (Rows.take k) vv2 vr (wz.alloc o)) := Lib.hid fun o => HA3.out.ext' ((Ext.refl wz).alloc o)
              have HR3 : Hid (∀ o, OU (wz.alloc o) (w.heap.size + 3) (.slice a3 ws.length c3) row) := Lib.hid fun o => hrow3.ext ((Ext.refl wz).alloc o)
              have HONE : Hid (∀ u ∈ [Value.slice a3 ws.length c3], u.oneCell' = true) := fun u hu => by
                rcases List.mem_singleton.1 hu with rfl
                rfl
              have hone : Rows.take (k + 1) = Rows.take k ++ [row] := by
                rw [← hro, nth_eq _ _ (by omega), List.take_add_one, List.getElem?_eq_getElem (by omega)]; rfl
              have HONE1 := Lib.hid hone
              clear hGL hu3 hrow3 hone HGL
              go_wp2_with (at_builtin; refine wpList_append_lies _ rfl _ _ 23 rfl (w.heap.size + 3) 22 i2 _ 1 24 Tryd.underlying23 hj1 hy0 hy1 hy2 rfl (by decide) vr svs.length svs rfl (HPA.out _).orr ⟨wz.heap.size, 0, none⟩ 1 1 [.slice a3 ws.length c3] rfl rfl (cell_one_new _ _ _) HONE.out (by decide) (by unfold maxLen; omega) (by omega) (by simp; omega) (wz.heap.size + 1) (by simp) ?_; intro gx cap W1 hown hgrow hat hlt2; obtain ⟨p0, p1, p2, pfz⟩ := (HPA.out _).outR hgrow; have pf := pfz 2; clear pfz; have hnew := (HPA.out _).pushR (HR3.out _) hown hgrow; have HNEW := Lib.hid hnew; clear hnew hown hgrow hat)
              go_roundw
              case rel => exact ⟨k + 1, hkl2, by go_num, vv2, _, _, by rw [HONE1.out]; rw [hrl2] at HNEW; exact HNEW.out⟩
              case measure => simp [intOf]; omega
        · obtain rfl : k = M.rel.length := by omega
          have hfull2 : Rows.take M.rel.length = Rows := List.take_of_length_le (by omega)
          rw [hfull2] at hAR
          have HA4 := Lib.hid hAR
          obtain ⟨o0, o1, o2, ofz⟩ := hAR.out
          have hh := HRES.out wr hAR.e
          have hew : Ext w wr := HV.out wr (.inr hAR.e)
          obtain ⟨v1, vc1, rfl, -⟩ := RU_of_OU (show OU wr (w.heap.size + 3) vv2 L from hAR.ov) (by omega)
          have hsl : svs.length = M.rel.length := by rw [hAR.rl]; exact hRl
          obtain ⟨r1, rc1, rfl⟩ : ∃ a c, vr = .slice a M.rel.length c := by
            rcases hAR.orr.2 with ⟨rfl, h0⟩ | ⟨g, cap, cur, rfl, _⟩
            · exact ⟨none, 0, by rw [← hsl, h0]⟩
            · exact ⟨some ⟨g, 0, none⟩, cap, by rw [hsl]⟩
          rw [hLl] at o1 HA4
          obtain ⟨r0, rr1, rr2, rfz⟩ := hh
          have f0 := rfz 0
          have f1 := rfz 1
          have f2 := rfz 2
          have hh : OutAt wr (w.heap.size + 1) (.int .i64 0) (.slice none 0 0) (.slice none 0 0) := ⟨r0, rr1, rr2, rfz⟩
          have HH := Lib.hid hh
          have HEW := Lib.hid hew
          have hrl4 := hAR.rl
          clear hAR ofz hh hew rfz
          go_wp2
          have hk2 : ∀ {T sz m : Nat} {v : Value} {xs : List Value}, wr.ownsRow (w.heap.size + 3) T sz v m xs → (((wr.setCell ⟨w.heap.size + 1, 0, none⟩ (.int .i64 (ws.length : Int))).setCell ⟨w.heap.size + 1, 1, none⟩ (.slice v1 M.val.length vc1)).setCell ⟨w.heap.size + 1, 2, none⟩ (.slice r1 M.rel.length rc1)).ownsRow (w.heap.size + 3) T sz v m xs := by
            intro T sz m v xs ho
            exact setOther (setOther (setOther ho (by omega)) (by omega)) (by omega)
          obtain ⟨d0, d1, d2, -⟩ := ((HH.out.set0 (.int .i64 (ws.length : Int))).set1 (.slice v1 M.val.length vc1)).set2 (.slice r1 M.rel.length rc1)
          have hEx : Ext w (((wr.setCell ⟨w.heap.size + 1, 0, none⟩ (.int .i64 (ws.length : Int))).setCell ⟨w.heap.size + 1, 1, none⟩ (.slice v1 M.val.length vc1)).setCell ⟨w.heap.size + 1, 2, none⟩ (.slice r1 M.rel.length rc1)) := ((HEW.out.setCell (by simp) _).setCell (by simp) _).setCell (by simp) _
          have hovF := hk2 HA4.out.ov
          have horF := hk2 HA4.out.orr
          have hrwF := fun j hj => hk2 (HA4.out.rw j hj)
          generalize ((wr.setCell ⟨w.heap.size + 1, 0, none⟩ (.int .i64 (ws.length : Int))).setCell ⟨w.heap.size + 1, 1, none⟩ (.slice v1 M.val.length vc1)).setCell ⟨w.heap.size + 1, 2, none⟩ (.slice r1 M.rel.length rc1) = W2 at *
          refine bodyPost_ret (v := .agg #[.int .i64 (ws.length : Int), .slice v1 M.val.length vc1, .slice r1 M.rel.length rc1]) ?_ rfl ?_
          · rw [results_cell_oneA rfl]
            go_simp
          · refine ⟨v1, r1, vc1, rc1, by simp [arrM], fun w'' ha => ?_, hEx⟩
            have ha3 : Agree (w.heap.size + 3) W2 w'' := ha.mono (by omega)
            obtain ⟨v2, vc2, hv2, huV⟩ := RU_of_OU (l := L) (show OU w'' (w.heap.size + 3) (.slice v1 M.val.length vc1) L from own_agree hovF ha3) (by omega)
            simp only [Value.slice.injEq] at hv2
            obtain ⟨rfl, -, -⟩ := hv2
            have huR := RR_of_rows (rows := Rows) (own_agree horF ha3) hrl4 (fun j hj => own_agree (hrwF j hj) ha3) (by omega) (fun j hj => by rw [HRow.out j (by omega)]; simp; omega)
            refine ⟨?_, ?_⟩
            · show RU w'' v1 (M.val.map fun s => pullL s ws)
              rw [hL]; exact huV
            · show RR w'' r1 (M.rel.map fun r => ws.map fun v => pullL (nth r v) ws)
              rw [hRows]; exact huR
end Wt
